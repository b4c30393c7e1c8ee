/- The walks of sentrylaw19's rows and sources, and of sentryref17.All. No condition: lemmas. -/
import Derived.Test.YtcglegipdlaoiaaDoorIterF
namespace Go.Proofs.YtcglegipdlaoiaaDoor
open Go Go.RowKit

theorem rwsT : ElemT Tryd.prog 26 38 1 24 := ElemT.mk' Tryd.underlying26 (show _ = some (some (.slice none 0 0), 1, 24) by kernel_rfl) rfl (by decide)
theorem srcsT : ElemT Tryd.prog 33 66 1 16 := ElemT.mk' Tryd.underlying33 (show _ = some (some .nilIface, 1, 16) by kernel_rfl) rfl (by decide)

/-- The rows of each. -/
def rowsLL (ls : List (List Ent)) : List (List ByteArray) := ls.map rowsL

/-- A row of rows of the call's own. -/
def OwnRows (w : World) (B : Nat) (v : Value) (rows : List (List ByteArray)) : Prop :=
  ∃ vs, Own w B 38 1 v vs ∧ vs.length = rows.length ∧ ∀ i (h : i < vs.length) (h' : i < rows.length), Own w B 9 1 vs[i] (sc rows[i])
theorem OwnRows.nil (w : World) (B : Nat) : OwnRows w B (.slice none 0 0) [] := ⟨[], Own.nil _ _ _ _, rfl, fun _ h => absurd h (by simp)⟩
theorem OwnRows.below {w w' : World} {B : Nat} {v : Value} {rows : List (List ByteArray)} (h : OwnRows w B v rows) (hb : Below w.heap.size w w') : OwnRows w' B v rows := by
  obtain ⟨vs, h1, h2, h3⟩ := h
  exact ⟨vs, h1.below hb, h2, fun i hi hi' => (h3 i hi hi').below hb⟩
theorem OwnRows.rws {w : World} {B : Nat} {v : Value} {rows : List (List ByteArray)} (h : OwnRows w B v rows) : RwsT w v rows := by
  obtain ⟨vs, h1, h2, h3⟩ := h
  exact ⟨vs, h1.slU, h2, fun i hi hi' => (h3 i hi hi').slU⟩
theorem OwnRows.own {w : World} {B : Nat} {v : Value} {rows : List (List ByteArray)} (h : OwnRows w B v rows) : ∃ vs, Own w B 38 1 v vs ∧ vs.length = rows.length := by
  obtain ⟨vs, h1, h2, _⟩ := h
  exact ⟨vs, h1, h2⟩
/-- One more row is appended. -/
theorem OwnRows.snoc {w w' : World} {B : Nat} {v v' u : Value} {rows : List (List ByteArray)} {r : List ByteArray} {vs : List Value} (h1 : Own w B 38 1 v vs) (h2 : vs.length = rows.length)
    (h3 : ∀ i (h : i < vs.length) (h' : i < rows.length), Own w B 9 1 vs[i] (sc rows[i])) (hu : Own w B 9 1 u (sc r))
    (hv : Own w' B 38 1 v' (vs ++ [u])) (hg : w.grownBy w' v.ownBlock) : OwnRows w' B v' (rows ++ [r]) := by
  refine ⟨vs ++ [u], hv, by simp [h2], fun i hi hi' => ?_⟩
  have hne : 9 ≠ 38 := by decide
  by_cases hlt : i < vs.length
  · rw [List.getElem_append_left hlt, List.getElem_append_left (by omega)]
    exact (h3 i hlt (by omega)).aside h1 hne hg
  · obtain rfl : i = vs.length := by simp at hi; omega
    rw [List.getElem_append_right (Nat.le_refl _), List.getElem_append_right (by omega)]
    simp only [Nat.sub_self, List.getElem_cons_zero, h2]
    exact hu.aside h1 hne hg

theorem rowsL_snoc (es : List Ent) {j : Nat} (hj : j < es.length) : rowsL (es.take (j + 1)) = (putS (rowsL (es.take j)) (innerA es[j])).1 := by
  unfold rowsL; rw [List.take_succ_eq_append_getElem hj, List.foldl_append]; rfl
theorem rowsL_len (es : List Ent) : (rowsL es).length ≤ es.length := by
  have := rows_length es []
  unfold rowsL
  simpa using this

set_option maxRecDepth 100000 in
set_option maxHeartbeats 1600000 in
theorem rows19_any (x : Value) (ls : List (List Ent)) (w : World) (hx : RwsE w x ls) (hl : ls.length ≤ 1000) (hL : ∀ l ∈ ls, l.length ≤ 1000) (hu : ∀ l ∈ ls, ∀ e ∈ l, U64 e.2.1) (hk : ∀ l ∈ ls, ∀ e ∈ l, e.1.size ≤ 10000000) :
    Calls Tryd.prog 9 #[x] w fun e w' => ∃ v, e = .returned v ∧ OwnRows w' w.heap.size v (rowsLL ls) ∧ Below w.heap.size w w' := by
  obtain ⟨ao, c, rfl, hac, hcm, hacell⟩ := hx.get
  have HAC := Lib.hid hacell
  have HL := Lib.hid hL
  have HU := Lib.hid hu
  have HK := Lib.hid hk
  clear hacell hx hL hu hk
  go_enter Tryd.func9, Tryd.ntmps9
  go_wp2
  go_loopw [3, 11] (fun vv ii wr => ∃ i : Nat, i ≤ ls.length ∧ ii = .int .i64 i ∧ OwnRows wr w.heap.size vv (rowsLL (ls.take i)) ∧ Below w.heap.size w wr) (fun _ ii _ => ls.length - (intOf ii).toNat)
  case atStart => exact ⟨0, by omega, rfl, OwnRows.nil _ _, Below.refl _ _⟩
  case round =>
    obtain ⟨i, hi, rfl, hown, hbel⟩ := hrel
    have HOWN := Lib.hid hown
    clear hown
    by_cases hlt : i < ls.length
    · obtain ⟨b, off, rfl, hbb, hc⟩ := HAC.out (by omega)
      obtain ⟨u, hci, hru⟩ := hc i hlt
      have hci := (hbel.cell (p := ⟨b, off + i, none⟩) hbb).trans hci
      obtain ⟨eo, ecp, rfl, hel, hem, hecell⟩ := Sl.ents hru
      have HEC := Lib.hid hecell
      have hesl := HL.out _ (List.getElem_mem hlt)
      have HEU := Lib.hid (HU.out _ (List.getElem_mem hlt))
      have HEK := Lib.hid (HK.out _ (List.getElem_mem hlt))
      have HT := Lib.hid (show rowsLL (ls.take (i + 1)) = rowsLL (ls.take i) ++ [rowsL ls[i]] from by unfold rowsLL; rw [List.take_succ_eq_append_getElem hlt, List.map_append]; rfl)
      have hrl : (rowsLL (ls.take i)).length ≤ 1000 := by unfold rowsLL; rw [List.length_map, List.length_take]; omega
      clear hc hecell hru
      generalize ls[i] = es at *
      obtain ⟨wo, hwo⟩ : ∃ wo : World, wo = wr := ⟨_, rfl⟩
      subst hwo
      go_wp2_with fail
      go_loopw [6, 17] (fun rr jj wz => ∃ j : Nat, j ≤ es.length ∧ jj = .int .i64 j ∧ Own wz w.heap.size 9 1 rr (sc (rowsL (es.take j))) ∧ Below wo.heap.size wo wz) (fun _ jj _ => es.length - (intOf jj).toNat)
      case atStart => exact ⟨0, by omega, rfl, Own.nil _ _ _ _, Below.refl _ _⟩
      case round =>
        obtain ⟨j, hj, rfl, hro, hbz⟩ := hrel
        have HRO := Lib.hid hro
        clear hro
        have hbw := hbel.trans (hbz.mono hbel.size)
        by_cases hjl : j < es.length
        · obtain ⟨b2, off2, rfl, hb2', hc2⟩ := HEC.out (by omega)
          obtain ⟨c0, c1, c2⟩ := hc2 j hjl
          have d0 := (hbw.cell (p := ⟨b2, off2 + j * 3, none⟩) hb2').trans c0
          have d1 := (hbw.cell (p := ⟨b2, off2 + j * 3 + 1, none⟩) hb2').trans c1
          have d2 := (hbw.cell (p := ⟨b2, off2 + j * 3 + 2, none⟩) hb2').trans c2
          have hue := HEU.out _ (List.getElem_mem hjl)
          have hke := HEK.out _ (List.getElem_mem hjl)
          have HT2 := Lib.hid (rowsL_snoc es hjl)
          have HLN := Lib.hid (show (rowsL (es.take j)).length ≤ 1000000 from by have := rowsL_len (es.take j); rw [List.length_take] at this; omega)
          clear hc2 c0 c1 c2
          generalize es[j] = y at *
          generalize rowsL (es.take j) = rr at *
          obtain ⟨yk, yr, yd⟩ := y
          dsimp only at *
          have hbz2 := hbz.alloc hbz.size (.cells #[.string yk, .int .u64 yr, .bool yd] 29)
          have hR2 := HRO.out.below ((Below.refl _ _).alloc (Nat.le_refl _) (.cells #[.string yk, .int .u64 yr, .bool yd] 29))
          have HR2 := Lib.hid hR2
          clear hR2
          go_wp2_with fail
          refine (refInner_any yk yr yd _ hue hke).mono ?_
          rintro e w2 ⟨rfl, hb2⟩
          have hbz3 := hbz2.trans (hb2.mono hbz2.size)
          have HR3 := Lib.hid (HR2.out.below hb2)
          have hbw3 := hbel.trans (hbz3.mono hbel.size)
          clear HR2 hbz2 hb2
          go_wp2_with fail
          refine (put11_own w.heap.size _ rr (innerA (yk, yr, yd)) w2 hbw3.size HR3.out HLN.out).mono ?_
          rintro e w3 ⟨v3, rfl, hO3, hb3⟩
          have HO3 := Lib.hid hO3
          have hbz4 := hbz3.trans (hb3.mono hbz3.size)
          clear hO3 hb3
          go_wp2_with fail
          go_roundw
          case rel => exact ⟨j + 1, by omega, by go_num, by rw [HT2.out]; exact HO3.out, hbz4⟩
          case measure => simp [intOf]; omega
        · obtain rfl : j = es.length := by omega
          have hRO := HRO.out
          rw [List.take_length] at hRO
          obtain ⟨ro, rn, rc, rfl, _, _, _⟩ := hRO.sl.len
          obtain ⟨vs, g1, g2, g3⟩ := HOWN.out.below hbz
          have HG1 := Lib.hid g1
          have HG2 := Lib.hid g2
          have HG3 := Lib.hid g3
          have HRO2 := Lib.hid hRO
          have hvl : vs.length ≤ 1000 := by omega
          clear hRO HRO g1 g2 g3
          go_wp2_with (at_builtin; go_must (refine wpList_own_lit rwsT rfl (.tmp 29) (.tmp 31) rfl rfl HG1.out rfl rfl (by simp [Value.oneCell']) (by simp; omega) (by simp; omega) hbw.size ?_); intro v6 w6 hown6 hb6 hg6)
          have hO6 := OwnRows.snoc HG1.out HG2.out HG3.out HRO2.out hown6 hg6
          rw [← HT.out] at hO6
          have HO6 := Lib.hid hO6
          clear hO6 hown6 hg6
          go_roundw
          case rel => exact ⟨i + 1, by omega, by go_num, HO6.out, hbw.trans hb6⟩
          case measure => simp [intOf]; omega
    · obtain rfl : i = ls.length := by omega
      have hO := HOWN.out
      rw [List.take_length] at hO
      have HO := Lib.hid hO
      clear hO
      go_wp2_with fail
      go_ret
      exact ⟨_, rfl, HO.out, hbel⟩

/-- Sources of the call's own. -/
def OwnSrcs (w : World) (B : Nat) (v : Value) (rows : List (List ByteArray)) : Prop :=
  ∃ vs, Own w B 66 1 v vs ∧ vs.length = rows.length ∧ ∀ i (h : i < vs.length) (h' : i < rows.length), ∃ sv, vs[i] = .iface 48 sv ∧ Sl (· < B) w 1 sv (sc rows[i])
theorem OwnSrcs.nil (w : World) (B : Nat) : OwnSrcs w B (.slice none 0 0) [] := ⟨[], Own.nil _ _ _ _, rfl, fun _ h => absurd h (by simp)⟩
theorem OwnSrcs.srcs {w : World} {B : Nat} {v : Value} {rows : List (List ByteArray)} (h : OwnSrcs w B v rows) (hB : B ≤ w.heap.size) : Srcs w v rows := by
  obtain ⟨vs, h1, h2, h3⟩ := h
  refine ⟨vs, h1.slU, h2, fun i hi hi' => ?_⟩
  obtain ⟨sv, e, h⟩ := h3 i hi hi'
  exact .inr ⟨sv, e, h.mono fun _ h => Nat.lt_of_lt_of_le h hB⟩
theorem OwnSrcs.below {w w' : World} {B : Nat} {v : Value} {rows : List (List ByteArray)} (h : OwnSrcs w B v rows) (hB : B ≤ w.heap.size) (hb : Below w.heap.size w w') : OwnSrcs w' B v rows := by
  obtain ⟨vs, h1, h2, h3⟩ := h
  refine ⟨vs, h1.below hb, h2, fun i hi hi' => ?_⟩
  obtain ⟨sv, e, h⟩ := h3 i hi hi'
  exact ⟨sv, e, h.same (Same.mono (Same.below hb) fun _ h => Nat.lt_of_lt_of_le h hB)⟩

set_option maxRecDepth 100000 in
set_option maxHeartbeats 1600000 in
theorem sources_any (x : Value) (rows : List (List ByteArray)) (w : World) (hx : RwsT w x rows) (hl : rows.length ≤ 1000) :
    Calls Tryd.prog 11 #[x] w fun e w' => ∃ v, e = .returned v ∧ OwnSrcs w' w.heap.size v rows ∧ Below w.heap.size w w' := by
  obtain ⟨ao, c, rfl, hac, hcm, hacell⟩ := hx.get
  have HAC := Lib.hid hacell
  clear hacell hx
  go_enter Tryd.func11, Tryd.ntmps11
  go_wp2
  go_loopw [3, 8] (fun vv ii wr => ∃ i : Nat, i ≤ rows.length ∧ ii = .int .i64 i ∧ OwnSrcs wr w.heap.size vv (rows.take i) ∧ Below w.heap.size w wr) (fun _ ii _ => rows.length - (intOf ii).toNat)
  case atStart => exact ⟨0, by omega, rfl, OwnSrcs.nil _ _, Below.refl _ _⟩
  case round =>
    obtain ⟨i, hi, rfl, hown, hbel⟩ := hrel
    by_cases hlt : i < rows.length
    · obtain ⟨b, off, rfl, hbb, hc⟩ := HAC.out (by omega)
      obtain ⟨u, hci, hru⟩ := hc i hlt
      have hci := (hbel.cell (p := ⟨b, off + i, none⟩) hbb).trans hci
      have hru2 : Sl (· < w.heap.size) wr 1 u (sc rows[i]) := hru.same (Same.below hbel)
      obtain ⟨ro, rn, rc, rfl, _, _, _⟩ := hru.len
      obtain ⟨vs, g1, g2, g3⟩ := hown
      have HG1 := Lib.hid g1
      have HG2 := Lib.hid g2
      have HG3 := Lib.hid g3
      have HRU := Lib.hid hru2
      have hvl : vs.length ≤ 1000 := by rw [g2, List.length_take]; omega
      have hbs := hbel.size
      have HTK := Lib.hid (List.take_succ_eq_append_getElem hlt)
      clear hc hru hru2 g1 g2 g3
      go_wp2_with (at_builtin; go_must (refine wpList_own_lit srcsT rfl (.tmp 12) (.tmp 15) rfl rfl HG1.out rfl rfl (by simp [Value.oneCell']) (by simp; omega) (by simp; omega) hbs ?_); intro v6 w6 hown6 hb6 hg6)
      have hO6 : OwnSrcs w6 w.heap.size v6 (rows.take (i + 1)) := by
        rw [HTK.out]
        refine ⟨_, hown6, by simp [HG2.out]; omega, fun k hk hk' => ?_⟩
        by_cases hkl : k < vs.length
        · rw [List.getElem_append_left hkl, List.getElem_append_left (by have := HG2.out; omega)]
          obtain ⟨sv, e, h⟩ := HG3.out k hkl (by have := HG2.out; omega)
          exact ⟨sv, e, h.same (Same.below hb6)⟩
        · obtain rfl : k = vs.length := by simp at hk; omega
          rw [List.getElem_append_right (Nat.le_refl _), List.getElem_append_right (by rw [HG2.out]; omega)]
          simp only [Nat.sub_self, HG2.out, List.getElem_cons_zero]
          exact ⟨_, rfl, HRU.out.same (Same.below hb6)⟩
      have HO6 := Lib.hid hO6
      clear hO6 hown6 hg6
      go_roundw
      case rel => exact ⟨i + 1, by omega, by go_num, HO6.out, hbel.trans hb6⟩
      case measure => simp [intOf]; omega
    · obtain rfl : i = rows.length := by omega
      rw [List.take_length] at hown
      have HO := Lib.hid hown
      clear hown
      go_wp2_with fail
      go_ret
      exact ⟨_, rfl, HO.out, hbel⟩

theorem allL_snoc (rows : List (List ByteArray)) {i : Nat} (hi : i < rows.length) : allL (rows.take (i + 1)) = rows[i].foldl (fun o k => (putS o k).1) (allL (rows.take i)) := by
  unfold allL; rw [List.take_succ_eq_append_getElem hi, List.foldl_append]; rfl
theorem putAll_snoc (l : List ByteArray) (o : List ByteArray) {j : Nat} (hj : j < l.length) : (l.take (j + 1)).foldl (fun o k => (putS o k).1) o = (putS ((l.take j).foldl (fun o k => (putS o k).1) o) l[j]).1 := by
  rw [List.take_succ_eq_append_getElem hj, List.foldl_append]; rfl
theorem sumLen_take (rows : List (List ByteArray)) : ∀ i, sumLen (rows.take i) ≤ sumLen rows := by
  induction rows with
  | nil => intro i; simp [sumLen]
  | cons r rows ih =>
    intro i
    cases i with
    | zero => simp [sumLen]
    | succ i => simp [sumLen, ih i]
theorem sumLen_get (rows : List (List ByteArray)) : ∀ {i : Nat} (h : i < rows.length), sumLen (rows.take i) + rows[i].length ≤ sumLen rows := by
  induction rows with
  | nil => intro i h; exact absurd h (by simp)
  | cons r rows ih =>
    intro i h
    cases i with
    | zero => simp [sumLen]
    | succ i =>
      have := ih (i := i) (by simpa using h)
      simp only [List.take_succ_cons, sumLen, List.getElem_cons_succ]
      omega
theorem allL_length (rows : List (List ByteArray)) : (allL rows).length ≤ sumLen rows := by
  have := all_length' rows []
  unfold allL
  simpa using this

set_option maxRecDepth 100000 in
set_option maxHeartbeats 1600000 in
theorem all17_any (x : Value) (rows : List (List ByteArray)) (w : World) (hx : RwsT w x rows) (hl : rows.length ≤ 1000) (hL : sumLen rows ≤ 1000000) :
    Calls Tryd.prog 24 #[x] w fun e w' => ∃ v, e = .returned v ∧ Own w' w.heap.size 9 1 v (sc (allL rows)) ∧ Below w.heap.size w w' := by
  obtain ⟨ao, c, rfl, hac, hcm, hacell⟩ := hx.get
  have HAC := Lib.hid hacell
  have HL := Lib.hid hL
  clear hacell hx hL
  go_enter Tryd.func24, Tryd.ntmps24
  go_wp2
  go_loopw [3, 10] (fun vv ii wr => ∃ i : Nat, i ≤ rows.length ∧ ii = .int .i64 i ∧ Own wr w.heap.size 9 1 vv (sc (allL (rows.take i))) ∧ Below w.heap.size w wr) (fun _ ii _ => rows.length - (intOf ii).toNat)
  case atStart => exact ⟨0, by omega, rfl, Own.nil _ _ _ _, Below.refl _ _⟩
  case round =>
    obtain ⟨i, hi, rfl, hown, hbel⟩ := hrel
    have HOWN := Lib.hid hown
    clear hown
    by_cases hlt : i < rows.length
    · obtain ⟨b, off, rfl, hbb, hc⟩ := HAC.out (by omega)
      obtain ⟨u, hci, hru⟩ := hc i hlt
      have hci := (hbel.cell (p := ⟨b, off + i, none⟩) hbb).trans hci
      obtain ⟨eo, ecp, rfl, hel, hem, hecell⟩ := Sl.strs hru
      have HEC := Lib.hid hecell
      have HT := Lib.hid (allL_snoc rows hlt)
      have HLN := Lib.hid (show (allL (rows.take i)).length + rows[i].length ≤ 1000000 from by have := allL_length (rows.take i); have := sumLen_get rows hlt; have := HL.out; omega)
      clear hc hecell hru
      generalize rows[i] = es at *
      generalize allL (rows.take i) = o at *
      obtain ⟨wo, hwo⟩ : ∃ wo : World, wo = wr := ⟨_, rfl⟩
      subst hwo
      go_wp2_with fail
      go_loopw [3, 16] (fun rr jj wz => ∃ j : Nat, j ≤ es.length ∧ jj = .int .i64 j ∧ Own wz w.heap.size 9 1 rr (sc ((es.take j).foldl (fun o k => (putS o k).1) o)) ∧ Below wo.heap.size wo wz) (fun _ jj _ => es.length - (intOf jj).toNat)
      case atStart => exact ⟨0, by omega, rfl, HOWN.out, Below.refl _ _⟩
      case round =>
        obtain ⟨j, hj, rfl, hro, hbz⟩ := hrel
        have HRO := Lib.hid hro
        clear hro
        have hbw := hbel.trans (hbz.mono hbel.size)
        by_cases hjl : j < es.length
        · obtain ⟨b2, off2, rfl, hb2', hc2⟩ := HEC.out (by omega)
          have c0 := hc2 j hjl
          have d0 := (hbw.cell (p := ⟨b2, off2 + j, none⟩) hb2').trans c0
          have HT2 := Lib.hid (putAll_snoc es o hjl)
          have HLN2 := Lib.hid (show ((es.take j).foldl (fun o k => (putS o k).1) o).length ≤ 1000000 from by have := putAll_length (es.take j) o; rw [List.length_take] at this; have := HLN.out; omega)
          clear hc2 c0
          generalize (es.take j).foldl (fun o k => (putS o k).1) o = q at *
          go_wp2_with fail
          refine (put11_own w.heap.size _ q es[j] _ hbw.size HRO.out HLN2.out).mono ?_
          rintro e w3 ⟨v3, rfl, hO3, hb3⟩
          have HO3 := Lib.hid hO3
          have hbz4 := hbz.trans (hb3.mono hbz.size)
          clear hO3 hb3
          go_wp2_with fail
          go_roundw
          case rel => exact ⟨j + 1, by omega, by go_num, by rw [HT2.out]; exact HO3.out, hbz4⟩
          case measure => simp [intOf]; omega
        · obtain rfl : j = es.length := by omega
          have hRO := HRO.out
          rw [List.take_length, ← HT.out] at hRO
          have HRO2 := Lib.hid hRO
          clear hRO HRO
          go_wp2_with fail
          go_roundw
          case rel => exact ⟨i + 1, by omega, by go_num, HRO2.out, hbw⟩
          case measure => simp [intOf]; omega
    · obtain rfl : i = rows.length := by omega
      have hO := HOWN.out
      rw [List.take_length] at hO
      have HO := Lib.hid hO
      clear hO
      go_wp2_with fail
      go_ret
      exact ⟨_, rfl, HO.out, hbel⟩

end Go.Proofs.YtcglegipdlaoiaaDoor
