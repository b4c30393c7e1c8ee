/- sentrylaw14's keys; sentryref11's Same. What a table's bytes are, opened: the plain law. What a table tells: the plain law. No condition: lemmas. -/
import Derived.Test.YtmmeofiocbfamaaDoorZ26
import Derived.Test.YtmmeofiocbfamaaDoorZ18
import Derived.Test.YtmmeofiocbfamaaDoorZ25
namespace Go.Proofs.YtmmeofiocbfamaaDoor
open Go Go.RowKit

set_option maxRecDepth 100000 in
set_option maxHeartbeats 800000 in
theorem keys14_any (x : Value) (es : List Ent) (w : World) (hx : Sl (· < w.heap.size) w 3 x (ec es)) (hl : es.length ≤ 4398046511104) (hu : ∀ e ∈ es, U64 e.2.1) :
    Calls Tryd.prog 7 #[x] w fun e w' => ∃ v, e = .returned (.tuple #[v, .bool (fewB es)]) ∧ (fewB es = true → Sl (· < w'.heap.size) w' 1 v (sc (rowsL es))) ∧ Below w.heap.size w w' := by
  obtain ⟨ao, c, rfl, hac, hcm, hacell⟩ := hx.ents
  have HAC := Lib.hid hacell
  have HL := Lib.hid hl
  clear hacell hx hl
  go_enter Tryd.func7, Tryd.ntmps7
  go_wp2
  go_loopw [4, 9] (fun vv ii wr => ∃ i : Nat, i ≤ es.length ∧ ii = .int .i64 i ∧ (∀ j (hj : j < es.length), j < i → es[j].1.size ≤ 100) ∧ Sl (· < wr.heap.size) wr 1 vv (sc (rowsL (es.take i))) ∧ Below w.heap.size w wr) (fun _ ii _ => es.length - (intOf ii).toNat)
  case atStart => exact ⟨0, by omega, rfl, fun _ _ h => absurd h (Nat.not_lt_zero _), Sl.nil _ _ _, Below.refl _ _⟩
  case round =>
    obtain ⟨i, hi, rfl, hall, hsl, hbel⟩ := hrel
    have HALL := Lib.hid hall
    clear hall
    by_cases hlt : i < es.length
    · obtain ⟨b, off, rfl, hb, hc⟩ := HAC.out (by omega)
      obtain ⟨c0, c1, c2⟩ := hc i hlt
      have d0 := (hbel.cell (p := ⟨b, off + i * 3, none⟩) hb).trans c0
      have d1 := (hbel.cell (p := ⟨b, off + i * 3 + 1, none⟩) hb).trans c1
      have d2 := (hbel.cell (p := ⟨b, off + i * 3 + 2, none⟩) hb).trans c2
      have hue := hu _ (List.getElem_mem hlt)
      have HUP := Lib.hid (fun h => upto_succ (p := fun j hj => es[j].1.size ≤ 100) HALL.out hlt h)
      have HLG := Lib.hid (fun (h : 100 < es[i].1.size) => fewB_long hlt h)
      have HT := Lib.hid (show rowsL (es.take (i + 1)) = (putS (rowsL (es.take i)) (innerA es[i])).1 from by unfold rowsL; rw [List.take_succ_eq_append_getElem hlt, List.foldl_append]; rfl)
      have hlen : (rowsL (es.take i)).length ≤ 4398046511104 := by
        have := rows_length (es.take i) []
        have := HL.out
        rw [List.length_take] at *
        simp only [List.length_nil] at *
        unfold rowsL
        omega
      have HLEN := Lib.hid hlen
      clear hc c0 c1 c2 hlen
      generalize rowsL (es.take i) = out at *
      generalize es[i] = y at *
      obtain ⟨yk, yr, yd⟩ := y
      dsimp only at *
      have hbA := hbel.alloc hbel.size (Obj.cells #[Value.string yk, Value.int IntKind.u64 yr, Value.bool yd] 50)
      by_cases hbig : 100 < yk.size
      · have HF := Lib.hid (show fewB es = false from HLG.out hbig)
        have hbi : (100 : Int) < (yk.size : Int) := by omega
        have HBA := Lib.hid hbA
        clear hbA hbel hsl
        go_wp2_with fail
        go_ret2
        rw [HF.out]
        exact ⟨_, rfl, (fun h => by cases h), HBA.out⟩
      have hke : yk.size ≤ 10000000 := by omega
      have hbi : ¬ ((100 : Int) < (yk.size : Int)) := by omega
      have HUP2 := Lib.hid (HUP.out (by omega))
      go_wp2_with fail
      refine (refInner_any yk yr yd _ hue hke).mono ?_
      rintro e w2 ⟨rfl, hb2⟩
      have hb02 := hbA.trans (hb2.mono hbA.size)
      have hsl2 := ((hsl.same (Same.below ((Below.refl _ _).alloc (Nat.le_refl _) (Obj.cells #[Value.string yk, Value.int IntKind.u64 yr, Value.bool yd] 50)))).mono (T := fun x => x < (wr.alloc (Obj.cells #[Value.string yk, Value.int IntKind.u64 yr, Value.bool yd] 50)).heap.size) (fun x h => by simp; omega))
      have hsl3 := (hsl2.same (Same.below hb2)).mono (T := fun x => x < w2.heap.size) (fun x h => Nat.lt_of_lt_of_le h hb2.size)
      go_wp2_with fail
      refine (put11w_any _ out (innerA (yk, yr, yd)) w2 hsl3 HLEN.out).mono ?_
      rintro e w3 ⟨v, rfl, hsl4, hb3⟩
      have hb03 := hb02.trans (hb3.mono hb02.size)
      have HS4 := Lib.hid hsl4
      go_wp2
      go_roundw
      case rel => exact ⟨i + 1, by omega, by go_num, HUP2.out, by rw [HT.out]; exact HS4.out, hb03⟩
      case measure => simp [intOf]; omega
    · obtain rfl : i = es.length := by omega
      rw [List.take_length] at hsl
      have HS := Lib.hid hsl
      go_wp2
      go_ret2
      rw [fewB_short fun j hj => HALL.out j hj hj]
      have hd : decide ((es.length : Int) ≤ 100) = decide (es.length ≤ 100) := by rw [decide_eq_decide]; omega
      exact ⟨_, by rw [← hd]; rfl, fun _ => HS.out, hbel⟩


set_option maxRecDepth 100000 in
set_option maxHeartbeats 800000 in
theorem same11_any {S T : Nat → Prop} (x y : Value) (l m : List ByteArray) (w : World) (hx : Sl S w 1 x (sc l)) (hy : Sl T w 1 y (sc m)) :
    Calls Tryd.prog 14 #[x, y] w fun e w' => e = .returned (.bool (decide (l = m))) ∧ Ext w w' := by
  obtain ⟨ao, c, rfl, hlc, hcm, -, hcell⟩ := Sl.strs0 hx
  obtain ⟨bo, d, rfl, hld, hdm, -, hdell⟩ := Sl.strs0 hy
  have HC := Lib.hid hcell
  have HD := Lib.hid hdell
  clear hcell hdell hx hy
  go_enter Tryd.func14, Tryd.ntmps14
  by_cases hlen : l.length = m.length
  rotate_left
  · have HN := Lib.hid (show decide (l = m) = false from decide_eq_false fun e => hlen (by rw [e]))
    have hli : ¬ ((l.length : Int) = (m.length : Int)) := by omega
    clear hlen
    go_wp2_with fail
    go_ret
    rw [HN.out]
    exact ⟨rfl, Ext.refl _⟩
  have hli : ((l.length : Int) = (m.length : Int)) := by omega
  go_wp2_with fail
  go_loopw [13] (fun iv wr => ∃ i : Nat, i ≤ l.length ∧ iv = .int .i64 i ∧ (∀ j (hj : j < l.length) (hj' : j < m.length), j < i → l[j] = m[j]) ∧ Ext w wr) (fun iv _ => l.length - (intOf iv).toNat)
  case atStart => exact ⟨0, Nat.zero_le _, rfl, (fun _ _ _ h => absurd h (Nat.not_lt_zero _)), Ext.refl _⟩
  case round =>
    obtain ⟨i, hi, rfl, hall, hx⟩ := hrel
    have HALL := Lib.hid hall
    have HX := Lib.hid hx
    clear hall hx
    by_cases hlt : i < l.length
    · have hlt' : i < m.length := by omega
      obtain ⟨b, off, rfl, -, hc⟩ := HC.out (by omega)
      obtain ⟨b2, off2, rfl, -, hd⟩ := HD.out (by omega)
      have c0 := HX.out.cell (a := ⟨b, off + i, none⟩) (hc i hlt)
      have c1 := HX.out.cell (a := ⟨b2, off2 + i, none⟩) (hd i hlt')
      have HEQ := Lib.hid (fun (e : l[i] = m[i]) => show ∀ j (hj : j < l.length) (hj' : j < m.length), j < i + 1 → l[j] = m[j] from fun j hj hj' h => by
        by_cases hji : j = i
        · subst hji; exact e
        · exact HALL.out j hj hj' (by omega))
      have HNE := Lib.hid (fun (e : ¬ l[i] = m[i]) => show decide (l = m) = false from decide_eq_false fun e2 => e (by subst e2; rfl))
      generalize l[i] = p at *
      generalize m[i] = q at *
      clear hc hd
      go_wp2_with fail
      obtain ⟨wd, hwd⟩ : ∃ wd, wd = wr.drew := ⟨_, rfl⟩
      have HXd := Lib.hid (show Ext w wd from by rw [hwd]; exact HX.out.trans (Ext.drew wr))
      have g0 : ∀ W, Ext wd W → W.cell? ⟨b, off + i, none⟩ = some (.string p) := fun W h => h.cell (a := ⟨b, off + i, none⟩) (by rw [hwd]; exact c0)
      have g1 : ∀ W, Ext wd W → W.cell? ⟨b2, off2 + i, none⟩ = some (.string q) := fun W h => h.cell (a := ⟨b2, off2 + i, none⟩) (by rw [hwd]; exact c1)
      refine region_walkN (Ext wd) (by rw [← hwd]; exact Ext.refl _) (by kernel_rfl) (by kernel_rfl) (fun _ _ d _ _ h => by cases d <;> exact h) ?_
      rw [← hwd]
      clear hwd c0 c1
      have hl1 : (i : Int) < (l.length : Int) := by omega
      have hl2 : (i : Int) < (m.length : Int) := by omega
      by_cases he : p = q
      · have HE := Lib.hid (HEQ.out he)
        have hb : (p.toList == q.toList) = true := by rw [he]; simp
        clear he
        ((refine WalkN.take 0 _ ?_ (by simp only [List.getElem?_toArray, List.getElem?_cons_zero]; rfl) (by kernel_rfl) (by kernel_rfl) (by rfl) (fun W hW => ?_) ?_; rotate_left; · (go_simp; try with_reducible rfl)); simp only [Act.put, List.setIfInBounds_toArray, List.set_cons_zero, List.set_cons_succ]); ((refine WalkN.take 1 _ ?_ (by simp only [List.getElem?_toArray, List.getElem?_cons_succ, List.getElem?_cons_zero]; rfl) (by kernel_rfl) (by kernel_rfl) (by rfl) (fun W hW => ?_) ?_; rotate_left; · (go_simp; try with_reducible rfl)); simp only [Act.put, List.setIfInBounds_toArray, List.set_cons_zero, List.set_cons_succ]); ((refine WalkN.take 2 _ ?_ (by simp only [List.getElem?_toArray, List.getElem?_cons_succ, List.getElem?_cons_zero]; rfl) (by kernel_rfl) (by kernel_rfl) (by rfl) (fun W hW => ?_) ?_; rotate_left; · (go_simp; try with_reducible rfl)); simp only [Act.put, List.setIfInBounds_toArray, List.set_cons_zero, List.set_cons_succ]); ((refine WalkN.take 3 _ ?_ (by simp only [List.getElem?_toArray, List.getElem?_cons_succ, List.getElem?_cons_zero]; rfl) (by kernel_rfl) (by kernel_rfl) (by rfl) (fun W hW => ?_) ?_; rotate_left; · (go_simp; try with_reducible rfl)); simp only [Act.put, List.setIfInBounds_toArray, List.set_cons_zero, List.set_cons_succ]); ((refine WalkN.take 4 _ ?_ (by simp only [List.getElem?_toArray, List.getElem?_cons_succ, List.getElem?_cons_zero]; rfl) (by kernel_rfl) (by kernel_rfl) (by rfl) (fun W hW => ?_) ?_; rotate_left; · (go_simp; try with_reducible rfl)); simp only [Act.put, List.setIfInBounds_toArray, List.set_cons_zero, List.set_cons_succ]); ((refine WalkN.take 5 _ ?_ (by simp only [List.getElem?_toArray, List.getElem?_cons_succ, List.getElem?_cons_zero]; rfl) (by kernel_rfl) (by kernel_rfl) (by rfl) (fun W hW => ?_) ?_; rotate_left; · (go_simp; try with_reducible rfl)); simp only [Act.put, List.setIfInBounds_toArray, List.set_cons_zero, List.set_cons_succ]); ((refine WalkN.take 6 _ ?_ (by simp only [List.getElem?_toArray, List.getElem?_cons_succ, List.getElem?_cons_zero]; rfl) (by kernel_rfl) (by kernel_rfl) (by rfl) (fun W hW => ?_) ?_; rotate_left; · (go_simp; try with_reducible rfl)); simp only [Act.put, List.setIfInBounds_toArray, List.set_cons_zero, List.set_cons_succ]); ((refine WalkN.take 7 _ ?_ (by simp only [List.getElem?_toArray, List.getElem?_cons_succ, List.getElem?_cons_zero]; rfl) (by kernel_rfl) (by kernel_rfl) (by rfl) (fun W hW => ?_) ?_; rotate_left; · (go_simp; try with_reducible rfl)); simp only [Act.put, List.setIfInBounds_toArray, List.set_cons_zero, List.set_cons_succ]); ((refine WalkN.take 8 _ ?_ (by simp only [List.getElem?_toArray, List.getElem?_cons_succ, List.getElem?_cons_zero]; rfl) (by kernel_rfl) (by kernel_rfl) (by rfl) (fun W hW => ?_) ?_; rotate_left; · (go_simp; try with_reducible rfl)); simp only [Act.put, List.setIfInBounds_toArray, List.set_cons_zero, List.set_cons_succ])
        refine WalkN.done (by kernel_rfl) ?_
        clear g0 g1
        go_wp2_with fail
        go_roundw
        case rel => exact ⟨i + 1, by omega, by go_num, HE.out, HXd.out⟩
        case measure => simp [intOf]; omega
      · have HE := Lib.hid (HNE.out he)
        have hb : (p.toList == q.toList) = false := by rw [ByteArray.toList_eq, ByteArray.toList_eq]; exact ba_beq' he
        clear he
        ((refine WalkN.take 0 _ ?_ (by simp only [List.getElem?_toArray, List.getElem?_cons_zero]; rfl) (by kernel_rfl) (by kernel_rfl) (by rfl) (fun W hW => ?_) ?_; rotate_left; · (go_simp; try with_reducible rfl)); simp only [Act.put, List.setIfInBounds_toArray, List.set_cons_zero, List.set_cons_succ]); ((refine WalkN.take 1 _ ?_ (by simp only [List.getElem?_toArray, List.getElem?_cons_succ, List.getElem?_cons_zero]; rfl) (by kernel_rfl) (by kernel_rfl) (by rfl) (fun W hW => ?_) ?_; rotate_left; · (go_simp; try with_reducible rfl)); simp only [Act.put, List.setIfInBounds_toArray, List.set_cons_zero, List.set_cons_succ]); ((refine WalkN.take 2 _ ?_ (by simp only [List.getElem?_toArray, List.getElem?_cons_succ, List.getElem?_cons_zero]; rfl) (by kernel_rfl) (by kernel_rfl) (by rfl) (fun W hW => ?_) ?_; rotate_left; · (go_simp; try with_reducible rfl)); simp only [Act.put, List.setIfInBounds_toArray, List.set_cons_zero, List.set_cons_succ]); ((refine WalkN.take 3 _ ?_ (by simp only [List.getElem?_toArray, List.getElem?_cons_succ, List.getElem?_cons_zero]; rfl) (by kernel_rfl) (by kernel_rfl) (by rfl) (fun W hW => ?_) ?_; rotate_left; · (go_simp; try with_reducible rfl)); simp only [Act.put, List.setIfInBounds_toArray, List.set_cons_zero, List.set_cons_succ]); ((refine WalkN.take 4 _ ?_ (by simp only [List.getElem?_toArray, List.getElem?_cons_succ, List.getElem?_cons_zero]; rfl) (by kernel_rfl) (by kernel_rfl) (by rfl) (fun W hW => ?_) ?_; rotate_left; · (go_simp; try with_reducible rfl)); simp only [Act.put, List.setIfInBounds_toArray, List.set_cons_zero, List.set_cons_succ]); ((refine WalkN.take 5 _ ?_ (by simp only [List.getElem?_toArray, List.getElem?_cons_succ, List.getElem?_cons_zero]; rfl) (by kernel_rfl) (by kernel_rfl) (by rfl) (fun W hW => ?_) ?_; rotate_left; · (go_simp; try with_reducible rfl)); simp only [Act.put, List.setIfInBounds_toArray, List.set_cons_zero, List.set_cons_succ]); ((refine WalkN.take 6 _ ?_ (by simp only [List.getElem?_toArray, List.getElem?_cons_succ, List.getElem?_cons_zero]; rfl) (by kernel_rfl) (by kernel_rfl) (by rfl) (fun W hW => ?_) ?_; rotate_left; · (go_simp; try with_reducible rfl)); simp only [Act.put, List.setIfInBounds_toArray, List.set_cons_zero, List.set_cons_succ]); ((refine WalkN.take 7 _ ?_ (by simp only [List.getElem?_toArray, List.getElem?_cons_succ, List.getElem?_cons_zero]; rfl) (by kernel_rfl) (by kernel_rfl) (by rfl) (fun W hW => ?_) ?_; rotate_left; · (go_simp; try with_reducible rfl)); simp only [Act.put, List.setIfInBounds_toArray, List.set_cons_zero, List.set_cons_succ]); ((refine WalkN.take 8 _ ?_ (by simp only [List.getElem?_toArray, List.getElem?_cons_succ, List.getElem?_cons_zero]; rfl) (by kernel_rfl) (by kernel_rfl) (by rfl) (fun W hW => ?_) ?_; rotate_left; · (go_simp; try with_reducible rfl)); simp only [Act.put, List.setIfInBounds_toArray, List.set_cons_zero, List.set_cons_succ])
        refine WalkN.done (by kernel_rfl) ?_
        clear g0 g1
        go_wp2_with fail
        go_ret
        rw [HE.out]
        exact ⟨rfl, HXd.out⟩
    · have HE := Lib.hid (show decide (l = m) = true from decide_eq_true (List.ext_getElem hlen fun j h1 h2 => HALL.out j h1 h2 (by omega)))
      go_wp2_with fail
      go_ret
      rw [HE.out]
      exact ⟨rfl, HX.out⟩

end Go.Proofs.YtmmeofiocbfamaaDoor
namespace Go.Proofs.YtmmeofiocbfamaaDoor
open Go Go.RowKit

/-- A block's frame. -/
def frmB (b : List ByteArray) : List UInt8 := sealB (blkF (dl b))
def outOf (bl : List (List ByteArray)) : List UInt8 := bl.flatMap frmB
def plcsOf : Nat → List (List ByteArray) → List Plc
  | _, [] => []
  | a, b :: bl => ⟨b.headD ⟨#[]⟩, a, (frmB b).length⟩ :: plcsOf (a + (frmB b).length) bl
theorem plcsOf_snoc : ∀ (a : Nat) (bl : List (List ByteArray)) (b : List ByteArray), plcsOf a (bl ++ [b]) = plcsOf a bl ++ [⟨b.headD ⟨#[]⟩, a + (outOf bl).length, (frmB b).length⟩]
  | a, [], b => by simp [plcsOf, outOf]
  | a, x :: bl, b => by
    rw [List.cons_append, plcsOf, plcsOf, plcsOf_snoc, List.cons_append]
    simp [outOf, Nat.add_assoc]
theorem plcsOf_len : ∀ (a : Nat) (bl : List (List ByteArray)), (plcsOf a bl).length = bl.length
  | _, [] => rfl
  | a, b :: bl => by rw [plcsOf, List.length_cons, List.length_cons, plcsOf_len]
theorem plcsOf_first : ∀ (a : Nat) (bl : List (List ByteArray)), (plcsOf a bl).map (·.first) = bl.map fun b => b.headD ⟨#[]⟩
  | _, [] => rfl
  | a, b :: bl => by rw [plcsOf, List.map_cons, List.map_cons, plcsOf_first]
/-- The blocks of keys. -/
structure WBl (ks : List ByteArray) (s : WS) (bl : List (List ByteArray)) : Prop where
  out : s.out = outOf bl
  idx : s.idx = plcsOf 0 bl
  all : ks = bl.flatten ++ s.keys
  ne : ∀ b ∈ bl, b ≠ []
theorem WBl.pushed {ks : List ByteArray} {s : WS} {bl : List (List ByteArray)} (h : WBl ks s bl) (k : ByteArray) : WBl (ks ++ [k]) (s.pushed k) bl :=
  ⟨h.out, h.idx, by show ks ++ [k] = bl.flatten ++ (s.keys ++ [k]); rw [h.all, List.append_assoc], h.ne⟩
theorem WBl.ended {ks : List ByteArray} {s : WS} {bl : List (List ByteArray)} (h : WBl ks s bl) (hne : s.keys ≠ []) : WBl ks s.ended (bl ++ [s.keys]) := by
  refine ⟨?_, ?_, ?_, fun b hb => ?_⟩
  · show s.out ++ _ = _
    rw [h.out]
    simp [outOf, frmB]
  · show s.idx ++ _ = _
    rw [h.idx, plcsOf_snoc, h.out, Nat.zero_add]
    rfl
  · show ks = _ ++ []
    rw [List.append_nil, List.flatten_append, List.flatten_cons, List.flatten_nil, List.append_nil]
    exact h.all
  · rcases List.mem_append.1 hb with hb | hb
    · exact h.ne b hb
    · rw [List.mem_singleton.1 hb]; exact hne
theorem WBl.adds (split : Int) : ∀ (ks : List ByteArray) (pre : List ByteArray) (s : WS) (bl : List (List ByteArray)), WBl pre s bl → ∃ bl', WBl (pre ++ ks) (ks.foldl (fun s k => s.add k split) s) bl'
  | [], pre, s, bl, h => ⟨bl, by rw [List.append_nil]; exact h⟩
  | k :: ks, pre, s, bl, h => by
    have h2 : ∃ bl2, WBl (pre ++ [k]) (s.add k split) bl2 := by
      unfold WS.add
      split
      · exact ⟨_, (h.pushed k).ended (by unfold WS.pushed; simp)⟩
      · exact ⟨_, h.pushed k⟩
    obtain ⟨bl2, h2⟩ := h2
    have := WBl.adds split ks (pre ++ [k]) _ bl2 h2
    rw [List.append_assoc] at this
    exact this
/-- The table's blocks. -/
theorem blocks_of (ks : List ByteArray) (split : Int) : ∃ bl, (buildW ks split).out = outOf bl ∧ (buildW ks split).idx = plcsOf 0 bl ∧ ks = bl.flatten ∧ ∀ b ∈ bl, b ≠ [] := by
  obtain ⟨bl, h⟩ := WBl.adds split ks [] ws0 [] ⟨rfl, rfl, rfl, fun _ h => by cases h⟩
  rw [List.nil_append] at h
  have h' : WBl ks (addsW split ks) bl := h
  unfold buildW
  split
  · next hk => exact ⟨bl, h'.out, h'.idx, by have := h'.all; rw [hk, List.append_nil] at this; exact this, h'.ne⟩
  · next hk =>
    have h2 := h'.ended hk
    exact ⟨_, h2.out, h2.idx, by have := h2.all; rw [show (addsW split ks).ended.keys = [] from rfl, List.append_nil] at this; exact this, h2.ne⟩

theorem numB_eight (n : Nat) (h : n < 18446744073709551616) (rest : List UInt8) : numB ((eightB n ++ rest).take 8) = n := by
  rw [show (eightB n ++ rest).take 8 = eightB n from List.take_left' rfl]
  unfold numB eightB
  simp only [List.foldl_cons, List.foldl_nil, UInt8.toNat_ofNat']
  omega
theorem numI_eight (n : Nat) (h : n ≤ 1099511627776) (rest : List UInt8) : numI (eightB n ++ rest) = n := by
  unfold numI
  rw [numB_eight n (by omega), if_neg (by omega)]
theorem partB_frame (a p z : List UInt8) (h : p.length < 4294967296) : partB (a ++ sealB p ++ z) (a.length : Int) ((a.length + (sealB p).length : Nat) : Int) = (p, 0) := by
  have hl : (a ++ sealB p ++ z).length = a.length + (sealB p).length + z.length := by simp only [List.length_append]
  have hw : ((a ++ sealB p ++ z).drop a.length).take (sealB p).length = sealB p := by rw [List.append_assoc, List.drop_left, List.take_left]
  unfold partB
  rw [if_neg (by rw [hl]; omega)]
  simp only [Int.toNat_natCast, show a.length + (sealB p).length - a.length = (sealB p).length from by omega, hw, nextB_seal p h]
  rw [if_neg (by decide), if_neg (by rw [sealB_length]; simp)]
/-- One place is read back. -/
theorem plcD_put (endN : Nat) (p : Plc) (rest : List UInt8) (h1 : U64 p.first.size) (h2 : p.at_ ≤ endN) (h3 : p.size ≤ endN) (he : U64 endN) : plcD endN (plcB p ++ rest) = some (p, rest) := by
  have hf : U64 p.first.data.toList.length := by rw [show p.first.data.toList.length = p.first.size from Array.length_toList]; exact h1
  have e0 : plcB p ++ rest = putT p.first.data.toList ++ (putB p.at_ ++ (putB p.size ++ rest)) := by unfold plcB; simp only [List.append_assoc]
  have g0 : getT (plcB p ++ rest) = (p.first.data.toList, (putT p.first.data.toList).length, 0) := by rw [e0]; exact getT_put _ _ hf
  have d0 : (plcB p ++ rest).drop (putT p.first.data.toList).length = putB p.at_ ++ (putB p.size ++ rest) := by rw [e0, List.drop_left]
  have g1 : getG (putB p.at_ ++ (putB p.size ++ rest)) 0 0 = (p.at_, (putB p.at_).length, 0) := getG_put _ (Nat.lt_of_le_of_lt h2 he) _
  have g2 : getG (putB p.size ++ rest) 0 0 = (p.size, (putB p.size).length, 0) := getG_put _ (Nat.lt_of_le_of_lt h3 he) _
  rw [plcD_eq, g0]
  dsimp only
  rw [d0, g1]
  dsimp only
  rw [List.drop_left, g2]
  dsimp only
  rw [if_neg (by decide), if_neg (by omega), if_neg (by omega), List.drop_left]
/-- All places are read back. -/
theorem readL_put (endN : Nat) (he : U64 endN) : ∀ (bl : List (List ByteArray)) (a : Nat) (ps : List Plc), a + (outOf bl).length ≤ endN → (∀ b ∈ bl, b ≠ [] ∧ U64 (b.headD ⟨#[]⟩).size) →
    Up ((ps.map (·.first)) ++ bl.map fun b => b.headD ⟨#[]⟩) → readL endN bl.length ((plcsOf a bl).flatMap plcB) a ps = some (ps ++ plcsOf a bl, [], a + (outOf bl).length)
  | [], a, ps, _, _, _ => by simp [readL, plcsOf, outOf]
  | b :: bl, a, ps, h, hb, hu => by
    have hol : (outOf (b :: bl)).length = (frmB b).length + (outOf bl).length := by simp [outOf]
    have hf8 : 8 ≤ (frmB b).length := by unfold frmB; rw [sealB_length]; omega
    rw [List.length_cons, readL, plcsOf, List.flatMap_cons, plcD_put endN _ _ (hb b List.mem_cons_self).2 (by dsimp only; omega) (by dsimp only; omega) he]
    dsimp only
    have hok : plcOk a ps ⟨b.headD ⟨#[]⟩, a, (frmB b).length⟩ := by
      refine ⟨rfl, by dsimp only; omega, fun q hq => ?_⟩
      dsimp only
      have hm : q.first ∈ ps.map (·.first) := List.mem_map.2 ⟨q, List.mem_of_getLast? hq, rfl⟩
      exact (List.pairwise_append.1 hu).2.2 _ hm _ (by simp)
    rw [if_pos hok, readL_put endN he bl _ _ (by omega) (fun x hx => hb x (List.mem_cons_of_mem _ hx)) (by
      rw [List.map_append, List.append_assoc]
      simpa using hu)]
    rw [hol, List.append_assoc, Nat.add_assoc]
    rfl
theorem plcs_len (l : List Plc) : l.length ≤ (l.flatMap plcB).length := by
  induction l with
  | nil => exact Nat.le_refl _
  | cons p l ih =>
    rw [List.flatMap_cons, List.length_append, List.length_cons]
    have : 0 < (plcB p).length := by unfold plcB; rw [List.length_append]; have := putB_pos p.size; omega
    omega
theorem readB_put (bl : List (List ByteArray)) (hne : bl ≠ []) (h : (outOf bl).length < 4294967296) (hl : bl.length < 4294967296) (hb : ∀ b ∈ bl, b ≠ [] ∧ U64 (b.headD ⟨#[]⟩).size) (hu : Up (bl.map fun b => b.headD ⟨#[]⟩)) :
    readB (idxB (plcsOf 0 bl)) (outOf bl).length = some (plcsOf 0 bl) := by
  have hg : getG (idxB (plcsOf 0 bl)) 0 0 = (bl.length, (putB bl.length).length, 0) := by unfold idxB; rw [plcsOf_len]; exact getG_put _ (by unfold U64; omega) _
  have hd : (idxB (plcsOf 0 bl)).drop (putB bl.length).length = (plcsOf 0 bl).flatMap plcB := by unfold idxB; rw [plcsOf_len, List.drop_left]
  have hlen : bl.length ≤ (idxB (plcsOf 0 bl)).length := by
    have := plcs_len (plcsOf 0 bl)
    rw [plcsOf_len] at this
    unfold idxB
    rw [List.length_append]
    omega
  have hr := readL_put (outOf bl).length (by unfold U64; omega) bl 0 [] (by omega) hb (by simpa using hu)
  unfold readB
  rw [hg]
  dsimp only
  rw [hd, hr, if_neg (by
    have : bl.length ≠ 0 := fun e => hne (List.eq_nil_of_length_eq_zero e)
    omega)]
  simp
theorem heads_up {bl : List (List ByteArray)} (h : Up bl.flatten) (hne : ∀ b ∈ bl, b ≠ []) : Up (bl.map fun b => b.headD ⟨#[]⟩) := by
  have h2 := (List.pairwise_flatten.1 h).2
  unfold Up
  rw [List.pairwise_map]
  refine List.Pairwise.imp_of_mem ?_ h2
  intro a b ha hb hab
  have hm : ∀ c ∈ bl, c.headD ⟨#[]⟩ ∈ c := fun c hc => by
    cases c with
    | nil => exact absurd rfl (hne _ hc)
    | cons x l => simp
  exact hab _ (hm a ha) _ (hm b hb)

end Go.Proofs.YtmmeofiocbfamaaDoor
namespace Go.Proofs.YtmmeofiocbfamaaDoor
open Go Go.RowKit

theorem drop_back {a z : List UInt8} {n k : Nat} (hn : n = a.length + z.length) (hk : k = z.length) : (a ++ z).drop (n - k) = z := by
  subst hn hk
  rw [Nat.add_sub_cancel, List.drop_left]
/-- A table's bytes, opened. -/
theorem open_put (ks : List ByteArray) (split bits : Int) (hne : ks ≠ []) (hu : UpK ks) (hk : ∀ k ∈ ks, k.size ≤ 1000) (hl : ks.length ≤ 1000) :
    ∃ bl, ks = bl.flatten ∧ (∀ b ∈ bl, b ≠ []) ∧ openT (tableB ks split bits) = (some ⟨plcsOf 0 bl, outOf bl, bloomB (dl (buildW ks split).stems) bits, ks.length⟩, 0) := by
  obtain ⟨bl, ho, hi, hfl, hb⟩ := blocks_of ks split
  have hv := WInv.build hk split
  refine ⟨bl, hfl, hb, ?_⟩
  have hup : Up bl.flatten := hfl ▸ hu.up
  have hbn : bl ≠ [] := fun e => hne (by rw [hfl, e]; rfl)
  have hol : (outOf bl).length ≤ 1036000 := by have := hv.len; rw [ho] at this; omega
  have hbl : bl.length ≤ 1000 := by have := hv.idx; rw [hi, plcsOf_len] at this; omega
  have hil : (idxB (plcsOf 0 bl)).length ≤ 2000000 := by
    have h1 := idxB_len 1000 (by decide) (plcsOf 0 bl) (fun p hp => by have := hv.places p (by rw [hi]; exact hp); have := hv.len; omega)
    have h2 : (putB (plcsOf 0 bl).length).length ≤ 10 := U64.len (by unfold U64; rw [plcsOf_len]; omega)
    have h3 : (plcsOf 0 bl).length * (1000 + 30) ≤ 1000 * 1030 := Nat.mul_le_mul (by rw [plcsOf_len]; omega) (Nat.le_refl _)
    unfold idxB
    rw [List.length_append]
    omega
  have hml : (bloomB (dl (buildW ks split).stems) bits).length ≤ 10000 := by
    unfold bloomB
    rw [List.length_append, fillL_length, List.length_replicate, List.length_singleton]
    have h1 : (dl (buildW ks split).stems).length = (buildW ks split).stems.length := List.length_map _
    have h2 := bitsN_bound bits
    have h3 := hv.stems
    unfold bloomN
    have h4 : (dl (buildW ks split).stems).length * bitsN bits ≤ 1000 * 40 := Nat.mul_le_mul (by omega) h2.2
    omega
  have hrb := readB_put bl hbn (by omega) (by omega) (fun b hb' => ⟨hb b hb', by
    have hm : b.headD ⟨#[]⟩ ∈ ks := by
      rw [hfl]
      cases b with
      | nil => exact absurd rfl (hb _ hb')
      | cons x l => exact List.mem_flatten.2 ⟨_, hb', by simp⟩
    have := hk _ hm
    unfold U64; omega⟩) (heads_up hup hb)
  unfold tableB
  rw [ho, hi]
  generalize bloomB (dl (buildW ks split).stems) bits = q at *
  generalize idxB (plcsOf 0 bl) = p at *
  generalize outOf bl = a at *
  have hB := sealB_length p
  have hC := sealB_length q
  have e8 : ∀ n, (eightB n).length = 8 := fun n => rfl
  obtain ⟨T, hT⟩ : ∃ T, T = a ++ sealB p ++ sealB q ++ eightB a.length ++ eightB (a ++ sealB p).length ++ eightB ks.length ++ [116, 98, 108, 49] := ⟨_, rfl⟩
  rw [← hT]
  have hTL : T.length = a.length + (sealB p).length + (sealB q).length + 28 := by rw [hT]; simp only [List.length_append, e8, List.length_cons, List.length_nil]
  have d4 : T.drop (T.length - 4) = [116, 98, 108, 49] := by
    rw [hT]
    exact drop_back (by rw [List.length_append]) rfl
  have d12 : eightB ks.length ++ [116, 98, 108, 49] = T.drop (T.length - 12) := by
    rw [hT, List.append_assoc _ (eightB ks.length)]
    exact (drop_back (by rw [List.length_append]) rfl).symm
  have d20 : eightB (a ++ sealB p).length ++ (eightB ks.length ++ [116, 98, 108, 49]) = T.drop (T.length - 20) := by
    rw [hT, List.append_assoc _ (eightB ks.length), List.append_assoc _ (eightB (a ++ sealB p).length)]
    exact (drop_back (by rw [List.length_append]) rfl).symm
  have d28 : eightB a.length ++ (eightB (a ++ sealB p).length ++ (eightB ks.length ++ [116, 98, 108, 49])) = T.drop (T.length - 28) := by
    rw [hT, List.append_assoc _ (eightB ks.length), List.append_assoc _ (eightB (a ++ sealB p).length), List.append_assoc _ (eightB a.length)]
    exact (drop_back (by rw [List.length_append]) rfl).symm
  have hap : (a ++ sealB p).length = a.length + (sealB p).length := List.length_append
  have p1 : partB T (a.length : Int) ((a ++ sealB p).length : Int) = (p, 0) := by
    have := partB_frame a p (sealB q ++ (eightB a.length ++ (eightB (a ++ sealB p).length ++ (eightB ks.length ++ [116, 98, 108, 49])))) (by omega)
    rw [show a ++ sealB p ++ (sealB q ++ (eightB a.length ++ (eightB (a ++ sealB p).length ++ (eightB ks.length ++ [116, 98, 108, 49])))) = T from by rw [hT]; simp only [List.append_assoc]] at this
    rw [hap]
    exact this
  have p2 : partB T ((a ++ sealB p).length : Int) ((T.length - 28 : Nat) : Int) = (q, 0) := by
    have := partB_frame (a ++ sealB p) q (eightB a.length ++ (eightB (a ++ sealB p).length ++ (eightB ks.length ++ [116, 98, 108, 49]))) (by omega)
    rw [show a ++ sealB p ++ sealB q ++ (eightB a.length ++ (eightB (a ++ sealB p).length ++ (eightB ks.length ++ [116, 98, 108, 49]))) = T from by rw [hT]; simp only [List.append_assoc]] at this
    rw [show T.length - 28 = (a ++ sealB p).length + (sealB q).length from by omega]
    exact this
  have ht : T.take a.length = a := by
    rw [hT]
    simp only [List.append_assoc]
    exact List.take_left
  rw [openT_eq T _ _ _ d28 d20 d12 (by omega) d4, numI_eight _ (by omega), numI_eight _ (by omega), numI_eight _ (by omega), p1, p2, if_neg (by omega), if_neg (by simp), if_neg (by simp), Int.toNat_natCast, Int.toNat_natCast, hrb]
  dsimp only
  rw [ht]

theorem outOf_split (bl : List (List ByteArray)) (j : Nat) (hj : j < bl.length) : outOf bl = outOf (bl.take j) ++ sealB (blkF (dl bl[j])) ++ outOf (bl.drop (j + 1)) := by
  conv => lhs; rw [← List.take_append_drop j bl, List.drop_eq_getElem_cons hj]
  unfold outOf
  rw [List.flatMap_append, List.flatMap_cons, List.append_assoc]
  rfl
theorem plcsOf_get : ∀ (bl : List (List ByteArray)) (a j : Nat) (hj : j < bl.length) (hj' : j < (plcsOf a bl).length), (plcsOf a bl)[j] = ⟨bl[j].headD ⟨#[]⟩, a + (outOf (bl.take j)).length, (frmB bl[j]).length⟩
  | b :: bl, a, 0, _, _ => by simp [plcsOf, outOf]
  | b :: bl, a, j + 1, hj, hj' => by
    have := plcsOf_get bl (a + (frmB b).length) j (by simpa using hj) (by rw [plcsOf_len]; simpa using hj)
    simp only [plcsOf, List.getElem_cons_succ, this, List.take_succ_cons]
    simp [outOf, Nat.add_assoc]
theorem outOf_bound (M : Nat) (hM : M < 4294967296) : ∀ bl : List (List ByteArray), (∀ b ∈ bl, b ≠ []) → (∀ k ∈ bl.flatten, k.size ≤ M) → (outOf bl).length ≤ bl.flatten.length * (M + 36)
  | [], _, _ => Nat.zero_le _
  | b :: bl, hb, hk => by
    have ih := outOf_bound M hM bl (fun x hx => hb x (List.mem_cons_of_mem _ hx)) (fun k hk' => hk k (by rw [List.flatten_cons]; exact List.mem_append_right _ hk'))
    have h1 := blkF_len (dl b)
    have h2 := blkL_bound M hM 0 [] (dl b) (Nat.zero_le _) fun x hx => by
      obtain ⟨y, hy, rfl⟩ := List.mem_map.1 hx
      rw [show y.data.toList.length = y.size from Array.length_toList]
      exact hk y (by rw [List.flatten_cons]; exact List.mem_append_left _ hy)
    have h3 : (dl b).length = b.length := List.length_map _
    have h4 := sealB_length (blkF (dl b))
    have h5 : 0 < b.length := List.length_pos_iff.2 (hb b List.mem_cons_self)
    have h6 : (outOf (b :: bl)).length = (sealB (blkF (dl b))).length + (outOf bl).length := by simp [outOf, frmB]
    rw [h3] at h1 h2
    have h7 : b.length * (M + 36) = b.length * (M + 20) + 16 * b.length := by rw [show M + 36 = (M + 20) + 16 from by omega, Nat.mul_add]; omega
    rw [h6, List.flatten_cons, List.length_append, Nat.add_mul]
    omega
/-- A block of an opened table. -/
theorem blk_put {bl : List (List ByteArray)} {q : List UInt8} {n : Nat} (hu : Up bl.flatten) (hb : ∀ b ∈ bl, b ≠ []) (hk : ∀ k ∈ bl.flatten, k.size ≤ 1000) (hl : bl.flatten.length ≤ 1000) (j : Nat) (hj : j < bl.length) :
    BlkOf ⟨plcsOf 0 bl, outOf bl, q, n⟩ j bl[j] := by
  have hm : bl[j] ∈ bl := List.getElem_mem hj
  have hsub : ∀ k ∈ bl[j], k ∈ bl.flatten := fun k hk' => List.mem_flatten.2 ⟨_, hm, hk'⟩
  have hbu : Up bl[j] := (List.pairwise_flatten.1 hu).1 _ hm
  have hbl : bl[j].length ≤ bl.flatten.length := by
    have := (List.sublist_flatten_of_mem hm).length_le
    exact this
  have hbf := blkF_bound fun k hk' => hk k (hsub k hk')
  refine ⟨j, by show j < (plcsOf 0 bl).length; rw [plcsOf_len]; exact hj, rfl, blkF (dl bl[j]), ?_, ?_, ?_⟩
  · rw [plcsOf_get bl 0 j hj]
    dsimp only
    rw [Nat.zero_add]
    have := partB_frame (outOf (bl.take j)) (blkF (dl bl[j])) (outOf (bl.drop (j + 1))) (by omega)
    rw [← outOf_split bl j hj] at this
    exact this
  · exact KeysOf.blk hbu.upK (by omega) (fun k hk' => by have := hk k (hsub k hk'); omega)
  · rw [plcsOf_get bl 0 j hj]
    dsimp only
    have := hb _ hm
    cases h : bl[j] with
    | nil => exact absurd h this
    | cons x l => rfl

theorem seekL_append (a b : List ByteArray) (k : ByteArray) : seekL (a ++ b) k = (seekL a k).or (seekL b k) := by unfold seekL; exact List.find?_append ..
theorem seekL_none {a : List ByteArray} {k : ByteArray} (h : ∀ x ∈ a, ltS x k = true) : seekL a k = none := by
  unfold seekL
  rw [List.find?_eq_none]
  intro x hx
  simp [h x hx]
theorem heads_get (bl : List (List ByteArray)) (q : List UInt8) (n i : Nat) : (⟨plcsOf 0 bl, outOf bl, q, n⟩ : Tb).idx[i]?.map (·.first) = bl[i]?.map fun b => b.headD ⟨#[]⟩ := by
  show (plcsOf 0 bl)[i]?.map (·.first) = _
  rw [← List.getElem?_map, plcsOf_first, List.getElem?_map]
theorem seekL_blocks {bl : List (List ByteArray)} (hb : ∀ b ∈ bl, b ≠ []) {k : ByteArray} (h : ∀ b, bl[0]? = some b → ltS (b.headD ⟨#[]⟩) k = false) : seekL bl.flatten k = bl[0]?.map fun b => b.headD ⟨#[]⟩ := by
  cases bl with
  | nil => rfl
  | cons b bl =>
    cases b with
    | nil => exact absurd rfl (hb [] List.mem_cons_self)
    | cons x l =>
      have := h (x :: l) rfl
      unfold seekL
      rw [List.flatten_cons, List.cons_append, List.find?_cons_of_pos (by simpa using this)]
      rfl
/-- What Seek answers of a table of keys. -/
theorem seek_put {bl : List (List ByteArray)} {q : List UInt8} {n : Nat} (hu : Up bl.flatten) (hb : ∀ b ∈ bl, b ≠ []) (hk : ∀ k ∈ bl.flatten, k.size ≤ 1000) (hl : bl.flatten.length ≤ 1000) {key : ByteArray} {w w' : World} {e : Ending}
    (h : RetSeek ⟨plcsOf 0 bl, outOf bl, q, n⟩ key w e w') : Ext w w' ∧ e = seekR (seekL bl.flatten key) := by
  obtain ⟨hx, i, hsp, h⟩ := h
  refine ⟨hx, ?_⟩
  have hf : (⟨plcsOf 0 bl, outOf bl, q, n⟩ : Tb).idx.map (·.first) = bl.map fun b => b.headD ⟨#[]⟩ := plcsOf_first 0 bl
  rw [hf] at hsp
  have hil : i ≤ bl.length := by have := hsp.1; rwa [List.length_map] at this
  have hhi : ∀ b, bl[i]? = some b → ltS (b.headD ⟨#[]⟩) key = false := fun b hb' => by
    obtain ⟨h1, h2⟩ := List.getElem?_eq_some_iff.1 hb'
    have := hsp.2.2 i (by rw [List.length_map]; exact h1) (Nat.le_refl _)
    rwa [List.getElem_map, h2] at this
  rcases h with ⟨er, hi0, _, hno, _⟩ | ⟨rfl, rfl⟩ | ⟨ks, hi0, hbk, rfl⟩
  · exact absurd (blk_put (q := q) (n := n) hu hb hk hl (i - 1) (by omega)) (hno _)
  · rw [heads_get, seekL_blocks hb hhi]
  · obtain ⟨m, rfl⟩ : ∃ m, i = m + 1 := ⟨i - 1, by omega⟩
    rw [Nat.add_sub_cancel] at hbk
    obtain rfl := hbk.uniq (blk_put (q := q) (n := n) hu hb hk hl m (by omega))
    have hfl : bl.flatten = (bl.take m).flatten ++ (bl[m] ++ (bl.drop (m + 1)).flatten) := by
      conv => lhs; rw [← List.take_append_drop m bl, List.drop_eq_getElem_cons (show m < bl.length by omega)]
      rw [List.flatten_append, List.flatten_cons]
    have hlow : seekL (bl.take m).flatten key = none := seekL_none fun x hx' => by
      have h1 : ltS (bl[m].headD ⟨#[]⟩) key = true := by
        have := hsp.2.1 m (by rw [List.length_map]; omega) (Nat.lt_succ_self m)
        rwa [List.getElem_map] at this
      have hu2 := hu
      rw [hfl] at hu2
      have h2 : bl[m].headD ⟨#[]⟩ ∈ bl[m] ++ (bl.drop (m + 1)).flatten := by
        have := hb _ (List.getElem_mem (show m < bl.length by omega))
        cases h : bl[m] with
        | nil => exact absurd h this
        | cons y l => simp
      exact ltS_trans ((List.pairwise_append.1 hu2).2.2 x hx' _ h2) h1
    have hhigh : seekL (bl.drop (m + 1)).flatten key = bl[m + 1]?.map fun b => b.headD ⟨#[]⟩ := by
      rw [seekL_blocks (fun b hb' => hb b (List.mem_of_mem_drop hb')) (fun b hb' => hhi b (by rwa [List.getElem?_drop, Nat.add_zero] at hb'))]
      rw [List.getElem?_drop, Nat.add_zero]
    rw [hfl, seekL_append, hlow, Option.none_or, seekL_append, hhigh, heads_get]
/-- What All answers of a table of keys. -/
theorem all_put {bl : List (List ByteArray)} {q : List UInt8} {n : Nat} (hu : Up bl.flatten) (hb : ∀ b ∈ bl, b ≠ []) (hk : ∀ k ∈ bl.flatten, k.size ≤ 1000) (hl : bl.flatten.length ≤ 1000) {w w' : World} {e : Ending}
    (h : RetAll ⟨plcsOf 0 bl, outOf bl, q, n⟩ w e w') : Ext w w' ∧ ∃ v, e = .returned (.tuple #[v, .int .i64 0]) ∧ Own w' w.heap.size 9 1 v (sc bl.flatten) := by
  obtain ⟨hx, h⟩ := h
  have hil : (⟨plcsOf 0 bl, outOf bl, q, n⟩ : Tb).idx.length = bl.length := plcsOf_len 0 bl
  rw [hil] at h
  rcases h with ⟨bs, v, h1, h2, h3, h4⟩ | ⟨⟨j, hj, hno⟩, _⟩
  · have e : bs = bl := List.ext_getElem h1 fun j k1 k2 => (h2 j k1).uniq (blk_put (q := q) (n := n) hu hb hk hl j k2)
    subst e
    exact ⟨hx, v, h3, h4⟩
  · exact absurd (blk_put (q := q) (n := n) hu hb hk hl j hj) (hno _)
theorem tbOk_put {bl : List (List ByteArray)} {q : List UInt8} {n : Nat} (hu : Up bl.flatten) (hb : ∀ b ∈ bl, b ≠ []) (hk : ∀ k ∈ bl.flatten, k.size ≤ 400) (hl : bl.flatten.length ≤ 100) (hq : q.length ≤ 10000) : TbOk ⟨plcsOf 0 bl, outOf bl, q, n⟩ := by
  have hol := outOf_bound 400 (by decide) bl hb hk
  have hbl : bl.length ≤ 100 := by
    have h0 : ∀ l : List (List ByteArray), (∀ b ∈ l, b ≠ []) → l.length ≤ l.flatten.length := fun l => by
      induction l with
      | nil => intro _; exact Nat.le_refl _
      | cons b l ih =>
        intro h
        have := ih fun x hx => h x (List.mem_cons_of_mem _ hx)
        have := List.length_pos_iff.2 (h b List.mem_cons_self)
        rw [List.flatten_cons, List.length_append, List.length_cons]
        omega
    have := h0 bl hb
    omega
  have hol2 : (outOf bl).length ≤ 60000 := by
    have : bl.flatten.length * (400 + 36) ≤ 100 * 436 := Nat.mul_le_mul hl (Nat.le_refl _)
    omega
  refine ⟨?_, hol2, by show q.length ≤ 60000; omega, ?_, fun p hp => ?_⟩
  · show Up ((plcsOf 0 bl).map (·.first))
    rw [plcsOf_first]
    exact heads_up hu hb
  · show (plcsOf 0 bl).length ≤ 60000
    rw [plcsOf_len]
    omega
  · obtain ⟨j, hj, rfl⟩ := List.getElem_of_mem hp
    have hj' : j < bl.length := by rw [← plcsOf_len 0 bl]; exact hj
    rw [plcsOf_get bl 0 j hj' hj]
    dsimp only
    have := congrArg List.length (outOf_split bl j hj')
    simp only [List.length_append] at this
    unfold frmB
    omega

end Go.Proofs.YtmmeofiocbfamaaDoor
