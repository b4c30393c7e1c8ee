/- The walks of sentryref19's Get, Scan and Right. No condition: lemmas. -/
import Derived.Test.YtcglegipdlaoiaaDoorIterG
namespace Go.Proofs.YtcglegipdlaoiaaDoor
open Go Go.RowKit

/-- What a list of rows is, that the references may be asked of. -/
structure RowsOk (rows : List (List ByteArray)) : Prop where
  len : rows.length ≤ 1000
  sum : sumLen rows ≤ 1000000
  key : ∀ r ∈ rows, ∀ k ∈ r, k.size ≤ 10000000
theorem RowsOk.all {rows : List (List ByteArray)} (h : RowsOk rows) : (allL rows).length ≤ 1000000 ∧ ∀ k ∈ allL rows, k.size ≤ 10000000 :=
  ⟨Nat.le_trans (allL_length rows) h.sum, fun k hk => by obtain ⟨r, hr, hkr⟩ := (all_mem rows k).1 hk; exact h.key r hr k hkr⟩

def getV (o : Option Ent) : Value :=
  match o with
  | some x => .tuple #[.agg #[.string x.1, .int .u64 x.2.1, .bool x.2.2], .bool true]
  | none => .tuple #[.agg #[.string ByteArray.empty, .int .u64 0, .bool false], .bool false]

theorem refGet_skip {es : List Ent} {key : ByteArray} {rev i : Nat} (hi : i < es.length) (h : refGetL es key rev = refGetL (es.drop i) key rev) (hn : ¬ (es[i].1 = key ∧ es[i].2.1 ≤ rev)) : refGetL es key rev = refGetL (es.drop (i + 1)) key rev := by
  rw [h, List.drop_eq_getElem_cons hi]
  unfold refGetL
  rw [List.find?_cons]
  have : (decide (es[i].1 = key) && decide (es[i].2.1 ≤ rev)) = false := by simpa [Bool.and_eq_false_iff] using fun a b => hn ⟨a, b⟩
  rw [this]
theorem refGet_hit {es : List Ent} {key : ByteArray} {rev i : Nat} (hi : i < es.length) (h : refGetL es key rev = refGetL (es.drop i) key rev) (hn : es[i].1 = key ∧ es[i].2.1 ≤ rev) : refGetL es key rev = some es[i] := by
  rw [h, List.drop_eq_getElem_cons hi]
  unfold refGetL
  rw [List.find?_cons]
  simp [hn]

set_option maxRecDepth 100000 in
set_option maxHeartbeats 1600000 in
theorem refGet_any (x : Value) (rows : List (List ByteArray)) (key : ByteArray) (rev : Nat) (w : World) (hx : RwsT w x rows) (hok : RowsOk rows) :
    Calls Tryd.prog 12 #[x, .string key, .int .u64 rev] w (RetV (getV (refGetL ((allL rows).map decoD) key rev)) w) := by
  obtain ⟨w0, hw0⟩ : ∃ w0, w0 = w.alloc (.cells #[.string ⟨#[]⟩, .int .u64 0, .bool false] 29) := ⟨_, rfl⟩
  have hb0 : Below w.heap.size w w0 := by rw [hw0]; exact (Below.refl _ _).alloc (Nat.le_refl _) _
  have hB0 : Blk w0 w.heap.size #[.string ⟨#[]⟩, .int .u64 0, .bool false] 29 := by rw [hw0]; exact Blk.made w _ _
  have HA := Lib.hid (all17_any x rows w0 (hx.up hb0) hok.len hok.sum)
  rw [hw0] at HA
  have HL := Lib.hid hok.all
  clear hx hok
  go_enter Tryd.func12, Tryd.ntmps12
  go_wp2_with fail
  refine HA.out.mono ?_
  rintro e w1 ⟨v1, rfl, ho1, hb1⟩
  rw [← hw0] at hb1
  have hB1 := hB0.below hb1
  have hb01 := hb0.trans (hb1.mono hb0.size)
  have HO1 := Lib.hid ho1
  clear ho1 hw0 hb0 hB0 hb1 HA
  go_wp2_with fail
  refine (refEntries_any v1 (allL rows) w1 HO1.out.slU HL.out.1 HL.out.2).mono ?_
  rintro e w2 ⟨v2, rfl, ho2, hb2⟩
  have hB2 := hB1.below hb2
  have hb02 := hb01.trans (hb2.mono hb01.size)
  generalize (allL rows).map decoD = es at *
  obtain ⟨ao, c, rfl, hac, hcm, hacell⟩ := Sl.ents ho2.slU
  have HAC := Lib.hid hacell
  clear hB1 hb01 HO1 HL hacell ho2 hb2
  have e2 := ByteArray.toList_eq key
  go_wp2_with fail
  go_loopw [14] (fun ii wr => ∃ i : Nat, i ≤ es.length ∧ ii = .int .i64 i ∧ refGetL es key rev = refGetL (es.drop i) key rev ∧ Below w2.heap.size w2 wr) (fun ii _ => es.length - (intOf ii).toNat)
  case atStart => exact ⟨0, by omega, rfl, rfl, Below.refl _ _⟩
  case round =>
    obtain ⟨i, hi, rfl, hs, hbel⟩ := hrel
    have HS := Lib.hid hs
    have hBr := hB2.below hbel
    have hbr := hb02.trans (hbel.mono hb02.size)
    have hrl := hBr.lt
    clear hs
    by_cases hlt : i < es.length
    · obtain ⟨b, off, rfl, hbb, hc⟩ := HAC.out (by omega)
      obtain ⟨c0, c1, c2⟩ := hc i hlt
      have d0 := (hbel.cell (p := ⟨b, off + i * 3, none⟩) hbb).trans c0
      have d1 := (hbel.cell (p := ⟨b, off + i * 3 + 1, none⟩) hbb).trans c1
      have d2 := (hbel.cell (p := ⟨b, off + i * 3 + 2, none⟩) hbb).trans c2
      have HSK := fun h => Lib.hid (refGet_skip hlt HS.out h)
      have HHI := fun h => Lib.hid (refGet_hit hlt HS.out h)
      clear hc c0 c1 c2
      generalize es[i] = y at *
      obtain ⟨yk, yr, yd⟩ := y
      dsimp only at *
      have e1 := ByteArray.toList_eq yk
      have hbA := hbel.alloc hbel.size (.cells #[.string yk, .int .u64 yr, .bool yd] 29)
      have hc := hBr.cells
      have hf := hBr.free
      by_cases hk : yk = key
      · have hbq : (yk.data.toList == key.data.toList) = true := by rw [hk]; simp
        by_cases hr : yr ≤ rev
        · have hri : (yr : Int) ≤ rev := by omega
          have HF := HHI ⟨hk, hr⟩
          clear HSK HHI hk
          go_wp2_with fail
          refine bodyPost_ret (v := getV (some (yk, yr, yd))) (by simp [results, Tryd.results12, go_sem, getV, hc, hrl]) rfl ⟨by rw [HF.out], ?_⟩
          exact (setAt (setAt (setAt hbr))).alloc (by have := hbr.size; simp; omega) _
        · have hri : decide (yr ≤ rev) = false := by simpa using hr
          have HN := HSK (fun h => hr h.2)
          clear HSK HHI hk hr
          go_wp2_with fail
          go_roundw
          case rel => exact ⟨i + 1, by omega, by go_num, HN.out, hbA⟩
          case measure => simp [intOf]; omega
      · have hbq := ba_beq hk
        have HN := HSK (fun h => hk h.1)
        clear HSK HHI hk
        go_wp2_with fail
        go_roundw
        case rel => exact ⟨i + 1, by omega, by go_num, HN.out, hbA⟩
        case measure => simp [intOf]; omega
    · obtain rfl : i = es.length := by omega
      have HF := Lib.hid (show refGetL es key rev = none from by rw [HS.out, List.drop_length]; rfl)
      have hc := hBr.cells
      have hf := hBr.free
      go_wp2_with fail
      refine bodyPost_ret (v := getV none) (by simp [results, Tryd.results12, go_sem, getV, hc]; rfl) rfl ⟨by rw [HF.out], ?_⟩
      exact setAt (setAt (setAt hbr))

/-- The ways at a Key of a scan: it is left out, or told. -/
theorem step_ways (k frm tto : ByteArray) (most : Int) (out : List ByteArray) :
    (Hid (stepS frm tto most out k = out) ∧ (Op.bytesLess k.toList frm.toList = true ∨ (Op.bytesLess k.toList frm.toList = false ∧ tto.toList.isEmpty = false ∧ Op.bytesLess k.toList tto.toList = false) ∨
      (Op.bytesLess k.toList frm.toList = false ∧ (tto.toList = [] ∨ (tto.toList.isEmpty = false ∧ Op.bytesLess k.toList tto.toList = true)) ∧ (1 : Int) ≤ most ∧ most ≤ (out.length : Int)))) ∨
    (Hid (stepS frm tto most out k = out ++ [k]) ∧ Op.bytesLess k.toList frm.toList = false ∧ (tto.toList = [] ∨ (tto.toList.isEmpty = false ∧ Op.bytesLess k.toList tto.toList = true)) ∧ (most < 1 ∨ ((1 : Int) ≤ most ∧ (out.length : Int) < most))) := by
  cases h1 : ltS k frm with
  | true => exact .inl ⟨Lib.hid (by unfold stepS; rw [if_neg (by rw [h1]; simp)]), .inl h1⟩
  | false =>
    rcases end_ways k tto with ⟨h2, h3, h4, h5⟩ | ⟨h2, h3⟩
    · exact .inl ⟨Lib.hid (by unfold stepS; rw [if_neg (by rw [h3]; simp [h2])]), .inr (.inl ⟨h1, h4, h5⟩)⟩
    · have h2' : tto.size = 0 ∨ ltS k tto = true := by
        by_cases h : tto.size = 0
        · exact .inl h
        · right
          cases h' : ltS k tto with
          | true => rfl
          | false => exact absurd ⟨h, h'⟩ h2.out
      by_cases hm : most < 1 ∨ (out.length : Int) < most
      · exact .inr ⟨Lib.hid (by unfold stepS; rw [if_pos ⟨h1, h2', hm⟩]), h1, h3, by omega⟩
      · exact .inl ⟨Lib.hid (by unfold stepS; rw [if_neg (fun h => hm h.2.2)]), .inr (.inr ⟨h1, h3, by omega, by omega⟩)⟩

theorem foldS_len {frm tto : ByteArray} {most : Int} : ∀ (ks out : List ByteArray), (ks.foldl (stepS frm tto most) out).length ≤ out.length + ks.length
  | [], out => by simp
  | k :: ks, out => by
    rw [List.foldl_cons]
    have h1 := foldS_len ks (stepS frm tto most out k) (frm := frm) (tto := tto) (most := most)
    have h2 : (stepS frm tto most out k).length ≤ out.length + 1 := by unfold stepS; split <;> simp
    simp only [List.length_cons]
    omega
theorem foldS_snoc {frm tto : ByteArray} {most : Int} (ks : List ByteArray) {i : Nat} (hi : i < ks.length) : (ks.take (i + 1)).foldl (stepS frm tto most) [] = stepS frm tto most ((ks.take i).foldl (stepS frm tto most) []) ks[i] := by
  rw [List.take_succ_eq_append_getElem hi, List.foldl_append]; rfl

/-- What the reference's At tells, whatever the keys. -/
def atK (rev : Nat) (A : List ByteArray) : List ByteArray := rk (atC rev (A.map decoD)) (eKey (A.map decoD)) A.length
theorem atK_length (rev : Nat) (A : List ByteArray) : (atK rev A).length ≤ A.length := rk_length _ _ _

set_option maxRecDepth 100000 in
set_option maxHeartbeats 3200000 in
theorem refScan_any (x : Value) (rows : List (List ByteArray)) (frm tto : ByteArray) (rev : Nat) (most : Int) (w : World) (hx : RwsT w x rows) (hok : RowsOk rows) :
    Calls Tryd.prog 15 #[x, .string frm, .string tto, .int .u64 rev, .int .i64 most] w (RetS ((atK rev (allL rows)).foldl (stepS frm tto most) []) w) := by
  have HA := Lib.hid (all17_any x rows w hx hok.len hok.sum)
  have HL := Lib.hid hok.all
  clear hx hok
  go_enter Tryd.func15, Tryd.ntmps15
  go_wp2_with fail
  refine HA.out.mono ?_
  rintro e w1 ⟨v1, rfl, ho1, hb1⟩
  have HO1 := Lib.hid ho1
  clear ho1 HA
  go_wp2_with fail
  refine (refAt_any v1 (allL rows) rev w1 HO1.out.slU HL.out.1 HL.out.2).mono ?_
  rintro e w2 ⟨v2, rfl, ho2, hb2⟩
  have hb02 := hb1.trans (hb2.mono hb1.size)
  have hkl := Nat.le_trans (atK_length rev (allL rows)) HL.out.1
  change Sl (· < w2.heap.size) w2 1 v2 (sc (atK rev (allL rows))) at ho2
  change _
  have HGO := Lib.hid (show (List.foldl (stepS frm tto most) [] (atK rev (allL rows))) = (List.foldl (stepS frm tto most) [] (atK rev (allL rows))) from rfl)
  generalize atK rev (allL rows) = ks at *
  obtain ⟨ao, c, rfl, hac, hcm, hacell⟩ := Sl.strs ho2
  have HAC := Lib.hid hacell
  clear HO1 HL hacell ho2 hb2 HGO
  go_wp2_with fail
  go_loopw [11, 19] (fun vv ii wr => ∃ i : Nat, i ≤ ks.length ∧ ii = .int .i64 i ∧ Own wr w2.heap.size 9 1 vv (sc ((ks.take i).foldl (stepS frm tto most) [])) ∧ Below w2.heap.size w2 wr) (fun _ ii _ => ks.length - (intOf ii).toNat)
  case atStart => exact ⟨0, by omega, rfl, Own.nil _ _ _ _, Below.refl _ _⟩
  case round =>
    obtain ⟨i, hi, rfl, hown, hbel⟩ := hrel
    by_cases hlt : i < ks.length
    · obtain ⟨b, off, rfl, hbb, hc⟩ := HAC.out (by omega)
      have d0 := (hbel.cell (p := ⟨b, off + i, none⟩) hbb).trans (hc i hlt)
      have HT := Lib.hid (foldS_snoc (frm := frm) (tto := tto) (most := most) ks hlt)
      have hol : ((ks.take i).foldl (stepS frm tto most) []).length ≤ 1000000 := by have := foldS_len (frm := frm) (tto := tto) (most := most) (ks.take i) []; rw [List.length_take] at this; simp at this; omega
      obtain ⟨oo, on, oc, rfl, hon, _, _⟩ := hown.sl.len
      rw [Nat.mul_one, show ∀ l, (sc l).length = l.length from fun l => by simp [sc]] at hon
      subst hon
      have HO := Lib.hid hown
      have hbs := hbel.size
      clear hc hown
      generalize ks[i] = k at *
      generalize (ks.take i).foldl (stepS frm tto most) [] = out at *
      rcases step_ways k frm tto most out with ⟨HS, hw⟩ | ⟨HS, h1, h2, h3⟩
      · rcases hw with h1 | ⟨h1, h2, h3⟩ | ⟨h1, h2 | ⟨h2, h4⟩, h3, h5⟩
        all_goals
          go_wp2_with fail
          go_roundw
          case rel => exact ⟨i + 1, by omega, by go_num, by rw [HT.out, HS.out]; exact HO.out, hbel⟩
          case measure => simp [intOf]; omega
      · rcases h2 with h2 | ⟨h2, h4⟩ <;> rcases h3 with h3 | ⟨h3, h5⟩
        all_goals
          go_wp2_with (at_builtin; go_must (refine wpList_own_lit strsT rfl (.tmp 45) (.tmp 47) rfl rfl HO.out rfl rfl (by simp [Value.oneCell']) (by simp; omega) (by simp; omega) hbs ?_); intro v6 w6 hown6 hb6 hg6)
          have hO6 : Own w6 w2.heap.size 9 1 v6 (sc (out ++ [k])) := by rw [show sc (out ++ [k]) = sc out ++ [.string k] from by simp [sc]]; exact hown6
          have HO6 := Lib.hid hO6
          clear hO6 hown6 hg6
          go_roundw
          case rel => exact ⟨i + 1, by omega, by go_num, by rw [HT.out, HS.out]; exact HO6.out, hbel.trans hb6⟩
          case measure => simp [intOf]; omega
    · obtain rfl : i = ks.length := by omega
      rw [List.take_length] at hown
      have HO := Lib.hid hown
      clear hown
      go_wp2_with fail
      go_ret
      exact ⟨_, rfl, HO.out.slU, hb02.trans (hbel.mono hb02.size)⟩

set_option maxRecDepth 100000 in
set_option maxHeartbeats 1600000 in
theorem refRight_any (x : Value) (l : List ByteArray) (w : World) (hx : RwsT w x [l]) (hl : l.length ≤ 1000000) (hk : ∀ k ∈ l, k.size ≤ 10000000) :
    Calls Tryd.prog 19 #[x] w (RetV (.bool (codeOf l == 0)) w) := by
  obtain ⟨ao, c, rfl, hac, hcm, hacell⟩ := hx.get
  obtain ⟨b, off, rfl, hbb, hc⟩ := hacell (by simp)
  obtain ⟨u, hci, hru⟩ := hc 0 (by simp)
  simp only [List.getElem_cons_zero, Nat.add_zero] at hci hru
  have HC := Lib.hid (refCheck_any u l w hru hl hk)
  clear hc hru hx hacell
  have hl1 : ([l] : List (List ByteArray)).length = 1 := rfl
  rw [hl1] at *
  clear hl1
  by_cases hcd : codeOf l = 0
  · rw [hcd] at HC
    have HB := Lib.hid (show (codeOf l == 0) = true from by rw [hcd]; rfl)
    clear hcd
    go_enter Tryd.func19, Tryd.ntmps19
    go_wp2_with fail
    refine wp_loop_rounds 2 ?_
    rw [rounds_succ]
    go_wp2_with fail
    refine HC.out.mono ?_
    rintro e w1 ⟨rfl, hb1⟩
    go_wp2_with fail
    rw [rounds_succ]
    go_wp2_with fail
    go_ret
    exact ⟨by rw [HB.out]; rfl, hb1⟩
  · have HB := Lib.hid (show (codeOf l == 0) = false from by simpa using hcd)
    have hcb : ((codeOf l : Int) != 0) = true := by rw [bne_iff_ne]; omega
    clear hcd
    go_enter Tryd.func19, Tryd.ntmps19
    go_wp2_with fail
    refine wp_loop_rounds 1 ?_
    rw [rounds_succ]
    go_wp2_with fail
    refine HC.out.mono ?_
    rintro e w1 ⟨rfl, hb1⟩
    go_wp2_with fail
    go_ret
    exact ⟨by rw [HB.out]; rfl, hb1⟩

end Go.Proofs.YtcglegipdlaoiaaDoor
