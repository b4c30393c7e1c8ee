/- sentrylaw14's keys; sentryref11's Same. What a table's bytes are, opened: the plain law. No condition: lemmas. -/
import Derived.Test.YtmmeofiocbfamaaGreatDoorZ27
import Derived.Test.YtmmeofiocbfamaaGreatDoorZ19
import Derived.Test.YtmmeofiocbfamaaGreatDoorZ26
namespace Go.Proofs.YtmmeofiocbfamaaGreatDoor
open Go Go.RowKit

set_option maxRecDepth 100000 in
set_option maxHeartbeats 800000 in
theorem keys14_any (x : Value) (es : List Ent) (w : World) (hx : Sl (· < w.heap.size) w 3 x (ec es)) (hl : es.length ≤ 4398046511104) (hu : ∀ e ∈ es, U64 e.2.1) :
    Calls Tryz.prog 8 #[x] w fun e w' => ∃ v, e = .returned (.tuple #[v, .bool (fewB es)]) ∧ (fewB es = true → Sl (· < w'.heap.size) w' 1 v (sc (rowsL es))) ∧ Below w.heap.size w w' := by
  obtain ⟨ao, c, rfl, hac, hcm, hacell⟩ := hx.ents
  have HAC := Lib.hid hacell
  have HL := Lib.hid hl
  clear hacell hx hl
  go_enter Tryz.func8, Tryz.ntmps8
  go_wp2
  go_loopw [4, 9] (fun vv ii wr => ∃ i : Nat, i ≤ es.length ∧ ii = .int .i64 i ∧ (∀ j (hj : j < es.length), j < i → es[j].1.size ≤ 100) ∧ Sl (· < wr.heap.size) wr 1 vv (sc (rowsL (es.take i))) ∧ Below w.heap.size w wr) (fun _ ii _ => es.length - (intOf ii).toNat)
  case atStart => exact ⟨0, by omega, rfl, fun _ _ h => absurd h (Nat.not_lt_zero _), Sl.nil _ _ _, Below.refl _ _⟩
  case round =>
    obtain ⟨i, hi, rfl, hall, hsl, hbel⟩ := hrel
    have HALL := Lib.hid hall
    clear hall
    by_cases hlt : i < es.length
    · obtain ⟨b, off, rfl, hb, hc⟩ := HAC.out (by omega)
      obtain ⟨c0, c1, c2⟩ := hc i hlt
      have d0 := (hbel.cell (p := ⟨b, off + i * 3, none⟩) hb).trans c0
      have d1 := (hbel.cell (p := ⟨b, off + i * 3 + 1, none⟩) hb).trans c1
      have d2 := (hbel.cell (p := ⟨b, off + i * 3 + 2, none⟩) hb).trans c2
      have hue := hu _ (List.getElem_mem hlt)
      have HUP := Lib.hid (fun h => upto_succ (p := fun j hj => es[j].1.size ≤ 100) HALL.out hlt h)
      have HLG := Lib.hid (fun (h : 100 < es[i].1.size) => fewB_long hlt h)
      have HT := Lib.hid (show rowsL (es.take (i + 1)) = (putS (rowsL (es.take i)) (innerA es[i])).1 from by unfold rowsL; rw [List.take_succ_eq_append_getElem hlt, List.foldl_append]; rfl)
      have hlen : (rowsL (es.take i)).length ≤ 4398046511104 := by
        have := rows_length (es.take i) []
        have := HL.out
        rw [List.length_take] at *
        simp only [List.length_nil] at *
        unfold rowsL
        omega
      have HLEN := Lib.hid hlen
      clear hc c0 c1 c2 hlen
      generalize rowsL (es.take i) = out at *
      generalize es[i] = y at *
      obtain ⟨yk, yr, yd⟩ := y
      dsimp only at *
      have hbA := hbel.alloc hbel.size (Obj.cells #[Value.string yk, Value.int IntKind.u64 yr, Value.bool yd] 53)
      by_cases hbig : 100 < yk.size
      · have HF := Lib.hid (show fewB es = false from HLG.out hbig)
        have hbi : (100 : Int) < (yk.size : Int) := by omega
        have HBA := Lib.hid hbA
        clear hbA hbel hsl
        go_wp2_with fail
        go_ret2
        rw [HF.out]
        exact ⟨_, rfl, (fun h => by cases h), HBA.out⟩
      have hke : yk.size ≤ 10000000 := by omega
      have hbi : ¬ ((100 : Int) < (yk.size : Int)) := by omega
      have HUP2 := Lib.hid (HUP.out (by omega))
      go_wp2_with fail
      refine (refInner_any yk yr yd _ hue hke).mono ?_
      rintro e w2 ⟨rfl, hb2⟩
      have hb02 := hbA.trans (hb2.mono hbA.size)
      have hsl2 := ((hsl.same (Same.below ((Below.refl _ _).alloc (Nat.le_refl _) (Obj.cells #[Value.string yk, Value.int IntKind.u64 yr, Value.bool yd] 53)))).mono (T := fun x => x < (wr.alloc (Obj.cells #[Value.string yk, Value.int IntKind.u64 yr, Value.bool yd] 53)).heap.size) (fun x h => by simp; omega))
      have hsl3 := (hsl2.same (Same.below hb2)).mono (T := fun x => x < w2.heap.size) (fun x h => Nat.lt_of_lt_of_le h hb2.size)
      go_wp2_with fail
      refine (put11w_any _ out (innerA (yk, yr, yd)) w2 hsl3 HLEN.out).mono ?_
      rintro e w3 ⟨v, rfl, hsl4, hb3⟩
      have hb03 := hb02.trans (hb3.mono hb02.size)
      have HS4 := Lib.hid hsl4
      go_wp2
      go_roundw
      case rel => exact ⟨i + 1, by omega, by go_num, HUP2.out, by rw [HT.out]; exact HS4.out, hb03⟩
      case measure => simp [intOf]; omega
    · obtain rfl : i = es.length := by omega
      rw [List.take_length] at hsl
      have HS := Lib.hid hsl
      go_wp2
      go_ret2
      rw [fewB_short fun j hj => HALL.out j hj hj]
      have hd : decide ((es.length : Int) ≤ 100) = decide (es.length ≤ 100) := by rw [decide_eq_decide]; omega
      exact ⟨_, by rw [← hd]; rfl, fun _ => HS.out, hbel⟩


set_option maxRecDepth 100000 in
set_option maxHeartbeats 800000 in
theorem same11_any {S T : Nat → Prop} (x y : Value) (l m : List ByteArray) (w : World) (hx : Sl S w 1 x (sc l)) (hy : Sl T w 1 y (sc m)) :
    Calls Tryz.prog 14 #[x, y] w fun e w' => e = .returned (.bool (decide (l = m))) ∧ Ext w w' := by
  obtain ⟨ao, c, rfl, hlc, hcm, -, hcell⟩ := Sl.strs0 hx
  obtain ⟨bo, d, rfl, hld, hdm, -, hdell⟩ := Sl.strs0 hy
  have HC := Lib.hid hcell
  have HD := Lib.hid hdell
  clear hcell hdell hx hy
  go_enter Tryz.func14, Tryz.ntmps14
  by_cases hlen : l.length = m.length
  rotate_left
  · have HN := Lib.hid (show decide (l = m) = false from decide_eq_false fun e => hlen (by rw [e]))
    have hli : ¬ ((l.length : Int) = (m.length : Int)) := by omega
    clear hlen
    go_wp2_with fail
    go_ret
    rw [HN.out]
    exact ⟨rfl, Ext.refl _⟩
  have hli : ((l.length : Int) = (m.length : Int)) := by omega
  go_wp2_with fail
  go_loopw [13] (fun iv wr => ∃ i : Nat, i ≤ l.length ∧ iv = .int .i64 i ∧ (∀ j (hj : j < l.length) (hj' : j < m.length), j < i → l[j] = m[j]) ∧ Ext w wr) (fun iv _ => l.length - (intOf iv).toNat)
  case atStart => exact ⟨0, Nat.zero_le _, rfl, (fun _ _ _ h => absurd h (Nat.not_lt_zero _)), Ext.refl _⟩
  case round =>
    obtain ⟨i, hi, rfl, hall, hx⟩ := hrel
    have HALL := Lib.hid hall
    have HX := Lib.hid hx
    clear hall hx
    by_cases hlt : i < l.length
    · have hlt' : i < m.length := by omega
      obtain ⟨b, off, rfl, -, hc⟩ := HC.out (by omega)
      obtain ⟨b2, off2, rfl, -, hd⟩ := HD.out (by omega)
      have c0 := HX.out.cell (a := ⟨b, off + i, none⟩) (hc i hlt)
      have c1 := HX.out.cell (a := ⟨b2, off2 + i, none⟩) (hd i hlt')
      have HEQ := Lib.hid (fun (e : l[i] = m[i]) => show ∀ j (hj : j < l.length) (hj' : j < m.length), j < i + 1 → l[j] = m[j] from fun j hj hj' h => by
        by_cases hji : j = i
        · subst hji; exact e
        · exact HALL.out j hj hj' (by omega))
      have HNE := Lib.hid (fun (e : ¬ l[i] = m[i]) => show decide (l = m) = false from decide_eq_false fun e2 => e (by subst e2; rfl))
      generalize l[i] = p at *
      generalize m[i] = q at *
      clear hc hd
      go_wp2_with fail
      obtain ⟨wd, hwd⟩ : ∃ wd, wd = wr.drew := ⟨_, rfl⟩
      have HXd := Lib.hid (show Ext w wd from by rw [hwd]; exact HX.out.trans (Ext.drew wr))
      have g0 : ∀ W, Ext wd W → W.cell? ⟨b, off + i, none⟩ = some (.string p) := fun W h => h.cell (a := ⟨b, off + i, none⟩) (by rw [hwd]; exact c0)
      have g1 : ∀ W, Ext wd W → W.cell? ⟨b2, off2 + i, none⟩ = some (.string q) := fun W h => h.cell (a := ⟨b2, off2 + i, none⟩) (by rw [hwd]; exact c1)
      refine region_walkN (Ext wd) (by rw [← hwd]; exact Ext.refl _) (by kernel_rfl) (by kernel_rfl) (fun _ _ d _ _ h => by cases d <;> exact h) ?_
      rw [← hwd]
      clear hwd c0 c1
      have hl1 : (i : Int) < (l.length : Int) := by omega
      have hl2 : (i : Int) < (m.length : Int) := by omega
      by_cases he : p = q
      · have HE := Lib.hid (HEQ.out he)
        have hb : (p.toList == q.toList) = true := by rw [he]; simp
        clear he
        ((refine WalkN.take 0 _ ?_ (by simp only [List.getElem?_toArray, List.getElem?_cons_zero]; rfl) (by kernel_rfl) (by kernel_rfl) (by rfl) (fun W hW => ?_) ?_; rotate_left; · (go_simp; try with_reducible rfl)); simp only [Act.put, List.setIfInBounds_toArray, List.set_cons_zero, List.set_cons_succ]); ((refine WalkN.take 1 _ ?_ (by simp only [List.getElem?_toArray, List.getElem?_cons_succ, List.getElem?_cons_zero]; rfl) (by kernel_rfl) (by kernel_rfl) (by rfl) (fun W hW => ?_) ?_; rotate_left; · (go_simp; try with_reducible rfl)); simp only [Act.put, List.setIfInBounds_toArray, List.set_cons_zero, List.set_cons_succ]); ((refine WalkN.take 2 _ ?_ (by simp only [List.getElem?_toArray, List.getElem?_cons_succ, List.getElem?_cons_zero]; rfl) (by kernel_rfl) (by kernel_rfl) (by rfl) (fun W hW => ?_) ?_; rotate_left; · (go_simp; try with_reducible rfl)); simp only [Act.put, List.setIfInBounds_toArray, List.set_cons_zero, List.set_cons_succ]); ((refine WalkN.take 3 _ ?_ (by simp only [List.getElem?_toArray, List.getElem?_cons_succ, List.getElem?_cons_zero]; rfl) (by kernel_rfl) (by kernel_rfl) (by rfl) (fun W hW => ?_) ?_; rotate_left; · (go_simp; try with_reducible rfl)); simp only [Act.put, List.setIfInBounds_toArray, List.set_cons_zero, List.set_cons_succ]); ((refine WalkN.take 4 _ ?_ (by simp only [List.getElem?_toArray, List.getElem?_cons_succ, List.getElem?_cons_zero]; rfl) (by kernel_rfl) (by kernel_rfl) (by rfl) (fun W hW => ?_) ?_; rotate_left; · (go_simp; try with_reducible rfl)); simp only [Act.put, List.setIfInBounds_toArray, List.set_cons_zero, List.set_cons_succ]); ((refine WalkN.take 5 _ ?_ (by simp only [List.getElem?_toArray, List.getElem?_cons_succ, List.getElem?_cons_zero]; rfl) (by kernel_rfl) (by kernel_rfl) (by rfl) (fun W hW => ?_) ?_; rotate_left; · (go_simp; try with_reducible rfl)); simp only [Act.put, List.setIfInBounds_toArray, List.set_cons_zero, List.set_cons_succ]); ((refine WalkN.take 6 _ ?_ (by simp only [List.getElem?_toArray, List.getElem?_cons_succ, List.getElem?_cons_zero]; rfl) (by kernel_rfl) (by kernel_rfl) (by rfl) (fun W hW => ?_) ?_; rotate_left; · (go_simp; try with_reducible rfl)); simp only [Act.put, List.setIfInBounds_toArray, List.set_cons_zero, List.set_cons_succ]); ((refine WalkN.take 7 _ ?_ (by simp only [List.getElem?_toArray, List.getElem?_cons_succ, List.getElem?_cons_zero]; rfl) (by kernel_rfl) (by kernel_rfl) (by rfl) (fun W hW => ?_) ?_; rotate_left; · (go_simp; try with_reducible rfl)); simp only [Act.put, List.setIfInBounds_toArray, List.set_cons_zero, List.set_cons_succ]); ((refine WalkN.take 8 _ ?_ (by simp only [List.getElem?_toArray, List.getElem?_cons_succ, List.getElem?_cons_zero]; rfl) (by kernel_rfl) (by kernel_rfl) (by rfl) (fun W hW => ?_) ?_; rotate_left; · (go_simp; try with_reducible rfl)); simp only [Act.put, List.setIfInBounds_toArray, List.set_cons_zero, List.set_cons_succ])
        refine WalkN.done (by kernel_rfl) ?_
        clear g0 g1
        go_wp2_with fail
        go_roundw
        case rel => exact ⟨i + 1, by omega, by go_num, HE.out, HXd.out⟩
        case measure => simp [intOf]; omega
      · have HE := Lib.hid (HNE.out he)
        have hb : (p.toList == q.toList) = false := by rw [ByteArray.toList_eq, ByteArray.toList_eq]; exact ba_beq' he
        clear he
        ((refine WalkN.take 0 _ ?_ (by simp only [List.getElem?_toArray, List.getElem?_cons_zero]; rfl) (by kernel_rfl) (by kernel_rfl) (by rfl) (fun W hW => ?_) ?_; rotate_left; · (go_simp; try with_reducible rfl)); simp only [Act.put, List.setIfInBounds_toArray, List.set_cons_zero, List.set_cons_succ]); ((refine WalkN.take 1 _ ?_ (by simp only [List.getElem?_toArray, List.getElem?_cons_succ, List.getElem?_cons_zero]; rfl) (by kernel_rfl) (by kernel_rfl) (by rfl) (fun W hW => ?_) ?_; rotate_left; · (go_simp; try with_reducible rfl)); simp only [Act.put, List.setIfInBounds_toArray, List.set_cons_zero, List.set_cons_succ]); ((refine WalkN.take 2 _ ?_ (by simp only [List.getElem?_toArray, List.getElem?_cons_succ, List.getElem?_cons_zero]; rfl) (by kernel_rfl) (by kernel_rfl) (by rfl) (fun W hW => ?_) ?_; rotate_left; · (go_simp; try with_reducible rfl)); simp only [Act.put, List.setIfInBounds_toArray, List.set_cons_zero, List.set_cons_succ]); ((refine WalkN.take 3 _ ?_ (by simp only [List.getElem?_toArray, List.getElem?_cons_succ, List.getElem?_cons_zero]; rfl) (by kernel_rfl) (by kernel_rfl) (by rfl) (fun W hW => ?_) ?_; rotate_left; · (go_simp; try with_reducible rfl)); simp only [Act.put, List.setIfInBounds_toArray, List.set_cons_zero, List.set_cons_succ]); ((refine WalkN.take 4 _ ?_ (by simp only [List.getElem?_toArray, List.getElem?_cons_succ, List.getElem?_cons_zero]; rfl) (by kernel_rfl) (by kernel_rfl) (by rfl) (fun W hW => ?_) ?_; rotate_left; · (go_simp; try with_reducible rfl)); simp only [Act.put, List.setIfInBounds_toArray, List.set_cons_zero, List.set_cons_succ]); ((refine WalkN.take 5 _ ?_ (by simp only [List.getElem?_toArray, List.getElem?_cons_succ, List.getElem?_cons_zero]; rfl) (by kernel_rfl) (by kernel_rfl) (by rfl) (fun W hW => ?_) ?_; rotate_left; · (go_simp; try with_reducible rfl)); simp only [Act.put, List.setIfInBounds_toArray, List.set_cons_zero, List.set_cons_succ]); ((refine WalkN.take 6 _ ?_ (by simp only [List.getElem?_toArray, List.getElem?_cons_succ, List.getElem?_cons_zero]; rfl) (by kernel_rfl) (by kernel_rfl) (by rfl) (fun W hW => ?_) ?_; rotate_left; · (go_simp; try with_reducible rfl)); simp only [Act.put, List.setIfInBounds_toArray, List.set_cons_zero, List.set_cons_succ]); ((refine WalkN.take 7 _ ?_ (by simp only [List.getElem?_toArray, List.getElem?_cons_succ, List.getElem?_cons_zero]; rfl) (by kernel_rfl) (by kernel_rfl) (by rfl) (fun W hW => ?_) ?_; rotate_left; · (go_simp; try with_reducible rfl)); simp only [Act.put, List.setIfInBounds_toArray, List.set_cons_zero, List.set_cons_succ]); ((refine WalkN.take 8 _ ?_ (by simp only [List.getElem?_toArray, List.getElem?_cons_succ, List.getElem?_cons_zero]; rfl) (by kernel_rfl) (by kernel_rfl) (by rfl) (fun W hW => ?_) ?_; rotate_left; · (go_simp; try with_reducible rfl)); simp only [Act.put, List.setIfInBounds_toArray, List.set_cons_zero, List.set_cons_succ])
        refine WalkN.done (by kernel_rfl) ?_
        clear g0 g1
        go_wp2_with fail
        go_ret
        rw [HE.out]
        exact ⟨rfl, HXd.out⟩
    · have HE := Lib.hid (show decide (l = m) = true from decide_eq_true (List.ext_getElem hlen fun j h1 h2 => HALL.out j h1 h2 (by omega)))
      go_wp2_with fail
      go_ret
      rw [HE.out]
      exact ⟨rfl, HX.out⟩

end Go.Proofs.YtmmeofiocbfamaaGreatDoor
namespace Go.Proofs.YtmmeofiocbfamaaGreatDoor
open Go Go.RowKit

/-- A block's frame. -/
def frmB (b : List ByteArray) : List UInt8 := sealB (blkF (dl b))
def outOf (bl : List (List ByteArray)) : List UInt8 := bl.flatMap frmB
def plcsOf : Nat → List (List ByteArray) → List Plc
  | _, [] => []
  | a, b :: bl => ⟨b.headD ⟨#[]⟩, a, (frmB b).length⟩ :: plcsOf (a + (frmB b).length) bl
theorem plcsOf_snoc : ∀ (a : Nat) (bl : List (List ByteArray)) (b : List ByteArray), plcsOf a (bl ++ [b]) = plcsOf a bl ++ [⟨b.headD ⟨#[]⟩, a + (outOf bl).length, (frmB b).length⟩]
  | a, [], b => by simp [plcsOf, outOf]
  | a, x :: bl, b => by
    rw [List.cons_append, plcsOf, plcsOf, plcsOf_snoc, List.cons_append]
    simp [outOf, Nat.add_assoc]
theorem plcsOf_len : ∀ (a : Nat) (bl : List (List ByteArray)), (plcsOf a bl).length = bl.length
  | _, [] => rfl
  | a, b :: bl => by rw [plcsOf, List.length_cons, List.length_cons, plcsOf_len]
theorem plcsOf_first : ∀ (a : Nat) (bl : List (List ByteArray)), (plcsOf a bl).map (·.first) = bl.map fun b => b.headD ⟨#[]⟩
  | _, [] => rfl
  | a, b :: bl => by rw [plcsOf, List.map_cons, List.map_cons, plcsOf_first]
/-- The blocks of keys. -/
structure WBl (ks : List ByteArray) (s : WS) (bl : List (List ByteArray)) : Prop where
  out : s.out = outOf bl
  idx : s.idx = plcsOf 0 bl
  all : ks = bl.flatten ++ s.keys
  ne : ∀ b ∈ bl, b ≠ []
theorem WBl.pushed {ks : List ByteArray} {s : WS} {bl : List (List ByteArray)} (h : WBl ks s bl) (k : ByteArray) : WBl (ks ++ [k]) (s.pushed k) bl :=
  ⟨h.out, h.idx, by show ks ++ [k] = bl.flatten ++ (s.keys ++ [k]); rw [h.all, List.append_assoc], h.ne⟩
theorem WBl.ended {ks : List ByteArray} {s : WS} {bl : List (List ByteArray)} (h : WBl ks s bl) (hne : s.keys ≠ []) : WBl ks s.ended (bl ++ [s.keys]) := by
  refine ⟨?_, ?_, ?_, fun b hb => ?_⟩
  · show s.out ++ _ = _
    rw [h.out]
    simp [outOf, frmB]
  · show s.idx ++ _ = _
    rw [h.idx, plcsOf_snoc, h.out, Nat.zero_add]
    rfl
  · show ks = _ ++ []
    rw [List.append_nil, List.flatten_append, List.flatten_cons, List.flatten_nil, List.append_nil]
    exact h.all
  · rcases List.mem_append.1 hb with hb | hb
    · exact h.ne b hb
    · rw [List.mem_singleton.1 hb]; exact hne
/-- One key more, cut into blocks: the blocks, the open one, its size. -/
def cutS (split : Int) (c : List (List ByteArray) × List ByteArray × Nat) (k : ByteArray) : List (List ByteArray) × List ByteArray × Nat :=
  if split ≤ ((c.2.2 + k.size : Nat) : Int) then (c.1 ++ [c.2.1 ++ [k]], [], 0) else (c.1, c.2.1 ++ [k], c.2.2 + k.size)
def cutA (split : Int) (ks : List ByteArray) : List (List ByteArray) × List ByteArray × Nat := ks.foldl (cutS split) ([], [], 0)
/-- Keys, cut into blocks. -/
def cutL (split : Int) (ks : List ByteArray) : List (List ByteArray) := if (cutA split ks).2.1 = [] then (cutA split ks).1 else (cutA split ks).1 ++ [(cutA split ks).2.1]
theorem WBl.add {ks : List ByteArray} {s : WS} {c : List (List ByteArray) × List ByteArray × Nat} (split : Int) (k : ByteArray) (h : WBl ks s c.1) (hk : s.keys = c.2.1) (hz : s.size = c.2.2) :
    WBl (ks ++ [k]) (s.add k split) (cutS split c k).1 ∧ (s.add k split).keys = (cutS split c k).2.1 ∧ (s.add k split).size = (cutS split c k).2.2 := by
  unfold WS.add cutS
  rw [hz]
  split
  · refine ⟨?_, rfl, rfl⟩
    have := (h.pushed k).ended (by unfold WS.pushed; simp)
    rw [show (s.pushed k).keys = c.2.1 ++ [k] from by rw [← hk]; rfl] at this
    exact this
  · refine ⟨h.pushed k, by rw [← hk]; rfl, by rw [← hz]; rfl⟩
theorem WBl.adds (split : Int) : ∀ (ks : List ByteArray) (pre : List ByteArray) (s : WS) (c : List (List ByteArray) × List ByteArray × Nat), WBl pre s c.1 → s.keys = c.2.1 → s.size = c.2.2 →
    WBl (pre ++ ks) (ks.foldl (fun s k => s.add k split) s) (ks.foldl (cutS split) c).1 ∧ (ks.foldl (fun s k => s.add k split) s).keys = (ks.foldl (cutS split) c).2.1
  | [], pre, s, c, h, hk, _ => ⟨by rw [List.append_nil]; exact h, hk⟩
  | k :: ks, pre, s, c, h, hk, hz => by
    obtain ⟨h1, h2, h3⟩ := h.add split k hk hz
    have := WBl.adds split ks (pre ++ [k]) _ _ h1 h2 h3
    rw [List.append_assoc] at this
    exact this
/-- The table's blocks are the keys, cut. -/
theorem blocks_cut (ks : List ByteArray) (split : Int) : (buildW ks split).out = outOf (cutL split ks) ∧ (buildW ks split).idx = plcsOf 0 (cutL split ks) ∧ ks = (cutL split ks).flatten ∧ ∀ b ∈ cutL split ks, b ≠ [] := by
  obtain ⟨h, he⟩ := WBl.adds split ks [] ws0 ([], [], 0) ⟨rfl, rfl, rfl, fun _ h => by cases h⟩ rfl rfl
  rw [List.nil_append] at h
  have h' : WBl ks (addsW split ks) (cutA split ks).1 := h
  have he' : (addsW split ks).keys = (cutA split ks).2.1 := he
  unfold buildW cutL
  rw [← he']
  split
  · next hk => exact ⟨h'.out, h'.idx, by have := h'.all; rw [hk, List.append_nil] at this; exact this, h'.ne⟩
  · next hk =>
    have h2 := h'.ended hk
    exact ⟨h2.out, h2.idx, by have := h2.all; rw [show (addsW split ks).ended.keys = [] from rfl, List.append_nil] at this; exact this, h2.ne⟩
/-- The table's blocks. -/
theorem blocks_of (ks : List ByteArray) (split : Int) : ∃ bl, (buildW ks split).out = outOf bl ∧ (buildW ks split).idx = plcsOf 0 bl ∧ ks = bl.flatten ∧ ∀ b ∈ bl, b ≠ [] := ⟨_, blocks_cut ks split⟩

theorem numB_eight (n : Nat) (h : n < 18446744073709551616) (rest : List UInt8) : numB ((eightB n ++ rest).take 8) = n := by
  rw [show (eightB n ++ rest).take 8 = eightB n from List.take_left' rfl]
  unfold numB eightB
  simp only [List.foldl_cons, List.foldl_nil, UInt8.toNat_ofNat']
  omega
theorem numI_eight (n : Nat) (h : n ≤ 1099511627776) (rest : List UInt8) : numI (eightB n ++ rest) = n := by
  unfold numI
  rw [numB_eight n (by omega), if_neg (by omega)]
theorem partB_frame (a p z : List UInt8) (h : p.length < 4294967296) : partB (a ++ sealB p ++ z) (a.length : Int) ((a.length + (sealB p).length : Nat) : Int) = (p, 0) := by
  have hl : (a ++ sealB p ++ z).length = a.length + (sealB p).length + z.length := by simp only [List.length_append]
  have hw : ((a ++ sealB p ++ z).drop a.length).take (sealB p).length = sealB p := by rw [List.append_assoc, List.drop_left, List.take_left]
  unfold partB
  rw [if_neg (by rw [hl]; omega)]
  simp only [Int.toNat_natCast, show a.length + (sealB p).length - a.length = (sealB p).length from by omega, hw, nextB_seal p h]
  rw [if_neg (by decide), if_neg (by rw [sealB_length]; simp)]
/-- One place is read back. -/
theorem plcD_put (endN : Nat) (p : Plc) (rest : List UInt8) (h1 : U64 p.first.size) (h2 : p.at_ ≤ endN) (h3 : p.size ≤ endN) (he : U64 endN) : plcD endN (plcB p ++ rest) = some (p, rest) := by
  have hf : U64 p.first.data.toList.length := by rw [show p.first.data.toList.length = p.first.size from Array.length_toList]; exact h1
  have e0 : plcB p ++ rest = putT p.first.data.toList ++ (putB p.at_ ++ (putB p.size ++ rest)) := by unfold plcB; simp only [List.append_assoc]
  have g0 : getT (plcB p ++ rest) = (p.first.data.toList, (putT p.first.data.toList).length, 0) := by rw [e0]; exact getT_put _ _ hf
  have d0 : (plcB p ++ rest).drop (putT p.first.data.toList).length = putB p.at_ ++ (putB p.size ++ rest) := by rw [e0, List.drop_left]
  have g1 : getG (putB p.at_ ++ (putB p.size ++ rest)) 0 0 = (p.at_, (putB p.at_).length, 0) := getG_put _ (Nat.lt_of_le_of_lt h2 he) _
  have g2 : getG (putB p.size ++ rest) 0 0 = (p.size, (putB p.size).length, 0) := getG_put _ (Nat.lt_of_le_of_lt h3 he) _
  rw [plcD_eq, g0]
  dsimp only
  rw [d0, g1]
  dsimp only
  rw [List.drop_left, g2]
  dsimp only
  rw [if_neg (by decide), if_neg (by omega), if_neg (by omega), List.drop_left]
/-- All places are read back. -/
theorem readL_put (endN : Nat) (he : U64 endN) : ∀ (bl : List (List ByteArray)) (a : Nat) (ps : List Plc), a + (outOf bl).length ≤ endN → (∀ b ∈ bl, b ≠ [] ∧ U64 (b.headD ⟨#[]⟩).size) →
    Up ((ps.map (·.first)) ++ bl.map fun b => b.headD ⟨#[]⟩) → readL endN bl.length ((plcsOf a bl).flatMap plcB) a ps = some (ps ++ plcsOf a bl, [], a + (outOf bl).length)
  | [], a, ps, _, _, _ => by simp [readL, plcsOf, outOf]
  | b :: bl, a, ps, h, hb, hu => by
    have hol : (outOf (b :: bl)).length = (frmB b).length + (outOf bl).length := by simp [outOf]
    have hf8 : 8 ≤ (frmB b).length := by unfold frmB; rw [sealB_length]; omega
    rw [List.length_cons, readL, plcsOf, List.flatMap_cons, plcD_put endN _ _ (hb b List.mem_cons_self).2 (by dsimp only; omega) (by dsimp only; omega) he]
    dsimp only
    have hok : plcOk a ps ⟨b.headD ⟨#[]⟩, a, (frmB b).length⟩ := by
      refine ⟨rfl, by dsimp only; omega, fun q hq => ?_⟩
      dsimp only
      have hm : q.first ∈ ps.map (·.first) := List.mem_map.2 ⟨q, List.mem_of_getLast? hq, rfl⟩
      exact (List.pairwise_append.1 hu).2.2 _ hm _ (by simp)
    rw [if_pos hok, readL_put endN he bl _ _ (by omega) (fun x hx => hb x (List.mem_cons_of_mem _ hx)) (by
      rw [List.map_append, List.append_assoc]
      simpa using hu)]
    rw [hol, List.append_assoc, Nat.add_assoc]
    rfl
theorem plcs_len (l : List Plc) : l.length ≤ (l.flatMap plcB).length := by
  induction l with
  | nil => exact Nat.le_refl _
  | cons p l ih =>
    rw [List.flatMap_cons, List.length_append, List.length_cons]
    have : 0 < (plcB p).length := by unfold plcB; rw [List.length_append]; have := putB_pos p.size; omega
    omega
theorem readB_put (bl : List (List ByteArray)) (hne : bl ≠ []) (h : (outOf bl).length < 4294967296) (hl : bl.length < 4294967296) (hb : ∀ b ∈ bl, b ≠ [] ∧ U64 (b.headD ⟨#[]⟩).size) (hu : Up (bl.map fun b => b.headD ⟨#[]⟩)) :
    readB (idxB (plcsOf 0 bl)) (outOf bl).length = some (plcsOf 0 bl) := by
  have hg : getG (idxB (plcsOf 0 bl)) 0 0 = (bl.length, (putB bl.length).length, 0) := by unfold idxB; rw [plcsOf_len]; exact getG_put _ (by unfold U64; omega) _
  have hd : (idxB (plcsOf 0 bl)).drop (putB bl.length).length = (plcsOf 0 bl).flatMap plcB := by unfold idxB; rw [plcsOf_len, List.drop_left]
  have hlen : bl.length ≤ (idxB (plcsOf 0 bl)).length := by
    have := plcs_len (plcsOf 0 bl)
    rw [plcsOf_len] at this
    unfold idxB
    rw [List.length_append]
    omega
  have hr := readL_put (outOf bl).length (by unfold U64; omega) bl 0 [] (by omega) hb (by simpa using hu)
  unfold readB
  rw [hg]
  dsimp only
  rw [hd, hr, if_neg (by
    have : bl.length ≠ 0 := fun e => hne (List.eq_nil_of_length_eq_zero e)
    omega)]
  simp
theorem heads_up {bl : List (List ByteArray)} (h : Up bl.flatten) (hne : ∀ b ∈ bl, b ≠ []) : Up (bl.map fun b => b.headD ⟨#[]⟩) := by
  have h2 := (List.pairwise_flatten.1 h).2
  unfold Up
  rw [List.pairwise_map]
  refine List.Pairwise.imp_of_mem ?_ h2
  intro a b ha hb hab
  have hm : ∀ c ∈ bl, c.headD ⟨#[]⟩ ∈ c := fun c hc => by
    cases c with
    | nil => exact absurd rfl (hne _ hc)
    | cons x l => simp
  exact hab _ (hm a ha) _ (hm b hb)

end Go.Proofs.YtmmeofiocbfamaaGreatDoor
