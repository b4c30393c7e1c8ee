/- block's open. block's cursor: next. No condition: lemmas. -/
import Derived.Test.YtmmeofiocbfamaaGreatDoorZ12
namespace Go.Proofs.YtmmeofiocbfamaaGreatDoor
open Go Go.RowKit

theorem results_cell_tmp2 {fn : Func} {p u v : Tmp} {ty : TypeId} (h : fn.results = #[.cell p ty, .tmp u, .tmp v]) (tmps : Array Value) (P : Program) (w : World) :
    (results fn tmps).run P w = ((asAddr (tmps.getD p undef)).run P w).andThen fun a w₁ => ((loadVar ty a).run P w₁).andThen fun x w₂ => .ok (.tuple #[x, tmps.getD u undef, tmps.getD v undef]) w₂ := by
  simp only [results, h]
  simp [Sem.run_bind, Result.andThen]
/-- A block cut: its keys' bytes, the places' bytes. -/
def openB (bs : List UInt8) : Option (List UInt8 × List UInt8) :=
  if bs.length < 4 then none
  else if bs.length - 4 < 4 * get4 (bs.drop (bs.length - 4)) then none
  else some (bs.take (bs.length - 4 - 4 * get4 (bs.drop (bs.length - 4))), (bs.drop (bs.length - 4 - 4 * get4 (bs.drop (bs.length - 4)))).take (4 * get4 (bs.drop (bs.length - 4))))
def RetOpen (S : Nat → Prop) (r : Option (List UInt8 × List UInt8)) (w : World) (e : Ending) (w' : World) : Prop := match r with
  | none => e = .returned (.tuple #[.agg #[.slice none 0 0, .int .i64 0, .string ⟨#[]⟩], .slice none 0 0, .bool false]) ∧ Ext w w'
  | some (k, p) => ∃ vk vp, e = .returned (.tuple #[.agg #[vk, .int .i64 0, .string ⟨#[]⟩], vp, .bool true]) ∧ Sl S w' 1 vk (bc k) ∧ Sl S w' 1 vp (bc p) ∧ Ext w w'

set_option maxRecDepth 100000 in
set_option maxHeartbeats 1600000 in
theorem open_any {S : Nat → Prop} (v : Value) (bs : List UInt8) (w : World) (hSw : ∀ b, S b → b < w.heap.size) (h : Sl S w 1 v (bc bs)) (hl : bs.length ≤ 100000000) :
    Calls Tryz.prog 74 #[v] w (RetOpen S (openB bs) w) := by
  have HS := Lib.hid h
  have HSW := Lib.hid hSw
  obtain ⟨ao, c, rfl, hlc, hcm, -, -⟩ := Sl.bytes h
  clear h hSw
  go_enter Tryz.func74, Tryz.ntmps74
  by_cases h4 : bs.length < 4
  · have HR := Lib.hid (show openB bs = none from if_pos h4)
    go_wp2_with fail
    refine bodyPost_ret (v := .tuple #[.agg #[.slice none 0 0, .int .i64 0, .string ⟨#[]⟩], .slice none 0 0, .bool false]) ?_ rfl (by rw [HR.out]; exact ⟨rfl, Ext.alloc _ _⟩)
    rw [results_cell_tmp2 rfl]
    have hl := run_loadVar_row (P := Tryz.prog) _ w.heap.size _ 115 _ _ _ (Blk.made w #[.slice none 0 0, .int .i64 0, .string ⟨#[]⟩] 115) Tryz.underlying115 rfl (by kernel_rfl)
    simp [asAddr, hl, Result.andThen]
  · obtain ⟨ao', c', hv, -, -, -, hcell⟩ := Sl.bytes HS.out
    cases hv
    obtain ⟨b, off, rfl, hb, -⟩ := hcell (by omega)
    clear hcell
    have HD := Lib.hid (show Sl S w 1 (.slice (some ⟨b, off + (bs.length - 4), none⟩) (bs.length - (bs.length - 4)) (c - (bs.length - 4))) ((bc bs).drop (bs.length - 4)) from by have := HS.out.drop (bs.length - 4) (Nat.sub_le _ _); rw [Option.map_some, Addr.add_lit] at this; exact this)
    have HX1 := Lib.hid (Ext.alloc w (.cells #[.slice none 0 0, .int .i64 0, .string ⟨#[]⟩] 115))
    have HG := Lib.hid (get_block (S := S) (.slice (some ⟨b, off + (bs.length - 4), none⟩) (bs.length - (bs.length - 4)) (c - (bs.length - 4))) (bs.drop (bs.length - 4)) (w.alloc (.cells #[.slice none 0 0, .int .i64 0, .string ⟨#[]⟩] 115)) (by rw [show bc (bs.drop (bs.length - 4)) = (bc bs).drop (bs.length - 4) from by unfold bc; rw [List.map_drop]]; exact HD.out.same ((Same.below HX1.out).mono HSW.out)) (by rw [List.length_drop]; omega))
    go_wp2_with fail
    refine HG.out.mono ?_
    rintro e w1 ⟨rfl, hx1⟩
    have HX2 := Lib.hid (HX1.out.trans hx1)
    have HB2 := Lib.hid (show Blk w1 w.heap.size #[.slice none 0 0, .int .i64 0, .string ⟨#[]⟩] 115 from (Blk.made w _ _).below hx1)
    have HOB := Lib.hid (show openB bs = if bs.length - 4 < 4 * get4 (bs.drop (bs.length - 4)) then none else some (bs.take (bs.length - 4 - 4 * get4 (bs.drop (bs.length - 4))), (bs.drop (bs.length - 4 - 4 * get4 (bs.drop (bs.length - 4)))).take (4 * get4 (bs.drop (bs.length - 4)))) from if_neg h4)
    clear hx1 HG HD HX1
    have HGB := Lib.hid (get4_lt (bs.drop (bs.length - 4)))
    generalize get4 (bs.drop (bs.length - 4)) = g at *
    by_cases hg : bs.length - 4 < 4 * g
    · have HR := Lib.hid (show openB bs = none from by rw [HOB.out, if_pos hg])
      have hneg : (bs.length : Int) - 4 - 4 * (g : Int) < 0 := by omega
      have hgb := HGB.out
      have HC := HB2.out.cells
      have HF := HB2.out.free
      go_wp2_with fail
      have HB3 := Lib.hid (((HB2.out.set_to 0 (.slice none 0 0) rfl).set_to 1 (.int .i64 0) rfl).set_to 2 (.string ⟨#[]⟩) rfl)
      refine bodyPost_ret (v := .tuple #[.agg #[.slice none 0 0, .int .i64 0, .string ⟨#[]⟩], .slice none 0 0, .bool false]) ?_ rfl (by rw [HR.out]; exact ⟨rfl, ((HX2.out.setCell (Nat.le_refl _) _).setCell (Nat.le_refl _) _).setCell (Nat.le_refl _) _⟩)
      rw [results_cell_tmp2 rfl]
      have hl := run_loadVar_row (P := Tryz.prog) _ w.heap.size _ 115 _ _ _ HB3.out Tryz.underlying115 rfl (by kernel_rfl)
      simp [asAddr, hl, Result.andThen]
    · obtain ⟨a, ha⟩ : ∃ a, a = bs.length - 4 - 4 * g := ⟨_, rfl⟩
      have HR := Lib.hid (show openB bs = some (bs.take a, (bs.drop a).take (4 * g)) from by rw [HOB.out, if_neg hg, ← ha])
      obtain ⟨m, hm⟩ : ∃ m, bs.length = m + 4 := ⟨bs.length - 4, by omega⟩
      have HA := Lib.hid (show a + 4 * g = m from by omega)
      have hA : (m : Int) - 4 * (g : Int) = (a : Int) := by omega
      have ham : a ≤ m := by omega
      have hmc : m + 4 ≤ c := by omega
      have hgb := HGB.out
      clear HOB ha
      go_wp2_with fail
      obtain ⟨wd, hwd⟩ : ∃ wd, wd = w1.drew := ⟨_, rfl⟩
      have HXd := Lib.hid (show Ext w wd from by rw [hwd]; exact HX2.out.trans (Ext.drew w1))
      have HBd := Lib.hid (show Blk wd w.heap.size #[.slice none 0 0, .int .i64 0, .string ⟨#[]⟩] 115 from by rw [hwd]; exact HB2.out.drew)
      refine region_walkN (Ext w) (by rw [← hwd]; exact HXd.out) (by kernel_rfl) (by kernel_rfl) (fun _ _ d _ _ h => by cases d <;> exact h) ?_
      rw [← hwd]
      have hac : a ≤ c := by omega
      have hca : ¬ (c = a) := by omega
      have hwm : IntKind.i64.wrap (m : Int) = (m : Int) := IntWalk.i64_in _ (by omega)
      have hmci : (m : Int) ≤ (c : Int) := by omega
      clear hwd
      ((refine WalkN.take 0 _ ?_ (by simp only [List.getElem?_toArray, List.getElem?_cons_zero]; rfl) (by kernel_rfl) (by kernel_rfl) (by rfl) (fun W hW => ?_) ?_; rotate_left; · (go_simp; try with_reducible rfl)); simp only [Act.put, List.setIfInBounds_toArray, List.set_cons_zero, List.set_cons_succ]); ((refine WalkN.take 1 _ ?_ (by simp only [List.getElem?_toArray, List.getElem?_cons_succ, List.getElem?_cons_zero]; rfl) (by kernel_rfl) (by kernel_rfl) (by rfl) (fun W hW => ?_) ?_; rotate_left; · (go_simp; try with_reducible rfl)); simp only [Act.put, List.setIfInBounds_toArray, List.set_cons_zero, List.set_cons_succ]); ((refine WalkN.take 2 _ ?_ (by simp only [List.getElem?_toArray, List.getElem?_cons_succ, List.getElem?_cons_zero]; rfl) (by kernel_rfl) (by kernel_rfl) (by rfl) (fun W hW => ?_) ?_; rotate_left; · (go_simp; try with_reducible rfl)); simp only [Act.put, List.setIfInBounds_toArray, List.set_cons_zero, List.set_cons_succ]); ((refine WalkN.take 3 _ ?_ (by simp only [List.getElem?_toArray, List.getElem?_cons_succ, List.getElem?_cons_zero]; rfl) (by kernel_rfl) (by kernel_rfl) (by rfl) (fun W hW => ?_) ?_; rotate_left; · (go_simp; try with_reducible rfl)); simp only [Act.put, List.setIfInBounds_toArray, List.set_cons_zero, List.set_cons_succ]); ((refine WalkN.take 4 _ ?_ (by simp only [List.getElem?_toArray, List.getElem?_cons_succ, List.getElem?_cons_zero]; rfl) (by kernel_rfl) (by kernel_rfl) (by rfl) (fun W hW => ?_) ?_; rotate_left; · (go_simp; try with_reducible rfl)); simp only [Act.put, List.setIfInBounds_toArray, List.set_cons_zero, List.set_cons_succ]); ((refine WalkN.take 5 _ ?_ (by simp only [List.getElem?_toArray, List.getElem?_cons_succ, List.getElem?_cons_zero]; rfl) (by kernel_rfl) (by kernel_rfl) (by rfl) (fun W hW => ?_) ?_; rotate_left; · (go_simp; try with_reducible rfl)); simp only [Act.put, List.setIfInBounds_toArray, List.set_cons_zero, List.set_cons_succ]); ((refine WalkN.take 6 _ ?_ (by simp only [List.getElem?_toArray, List.getElem?_cons_succ, List.getElem?_cons_zero]; rfl) (by kernel_rfl) (by kernel_rfl) (by rfl) (fun W hW => ?_) ?_; rotate_left; · (go_simp; try with_reducible rfl)); simp only [Act.put, List.setIfInBounds_toArray, List.set_cons_zero, List.set_cons_succ]); ((refine WalkN.take 7 _ ?_ (by simp only [List.getElem?_toArray, List.getElem?_cons_succ, List.getElem?_cons_zero]; rfl) (by kernel_rfl) (by kernel_rfl) (by rfl) (fun W hW => ?_) ?_; rotate_left; · (go_simp; try with_reducible rfl)); simp only [Act.put, List.setIfInBounds_toArray, List.set_cons_zero, List.set_cons_succ]); ((refine WalkN.take 8 _ ?_ (by simp only [List.getElem?_toArray, List.getElem?_cons_succ, List.getElem?_cons_zero]; rfl) (by kernel_rfl) (by kernel_rfl) (by rfl) (fun W hW => ?_) ?_; rotate_left; · (go_simp; try with_reducible rfl)); simp only [Act.put, List.setIfInBounds_toArray, List.set_cons_zero, List.set_cons_succ]); ((refine WalkN.take 9 _ ?_ (by simp only [List.getElem?_toArray, List.getElem?_cons_succ, List.getElem?_cons_zero]; rfl) (by kernel_rfl) (by kernel_rfl) (by rfl) (fun W hW => ?_) ?_; rotate_left; · (go_simp; try with_reducible rfl)); simp only [Act.put, List.setIfInBounds_toArray, List.set_cons_zero, List.set_cons_succ])
      have rd := HBd.out.cells
      have fd := HBd.out.free
      have HB4 := Lib.hid (((HBd.out.set_to 0 (.slice (some ⟨b, off, none⟩) a c) rfl).set_to 1 (.int .i64 0) rfl).set_to 2 (.string ⟨#[]⟩) rfl)
      have HX4 := Lib.hid (show Ext w (((wd.setCell ⟨w.heap.size, 0, none⟩ (.slice (some ⟨b, off, none⟩) a c)).setCell ⟨w.heap.size, 1, none⟩ (.int .i64 0)).setCell ⟨w.heap.size, 2, none⟩ (.string ⟨#[]⟩)) from ((HXd.out.setCell (Nat.le_refl _) _).setCell (Nat.le_refl _) _).setCell (Nat.le_refl _) _)
      have HS1 := Lib.hid (HS.out.take a (by omega))
      have HS2 := Lib.hid (HS.out.window (ao' := some ⟨b, off + a, none⟩) a m ham (by omega) (fun _ => by rw [Option.map_some, Addr.add_lit]))
      refine WalkN.one 10 (by kernel_rfl) ?_
      refine ⟨_, (by simp only [List.getElem?_toArray, List.getElem?_cons_succ, List.getElem?_cons_zero]; rfl), by rfl, fun K hK => ?_⟩
      go_simp
      refine hK.out _ _ HX4.out ?_
      clear hK
      ((refine WalkN.take 11 _ ?_ (by simp only [List.getElem?_toArray, List.getElem?_cons_succ, List.getElem?_cons_zero]; rfl) (by kernel_rfl) (by kernel_rfl) (by rfl) (fun W hW => ?_) ?_; rotate_left; · (go_simp; try with_reducible rfl)); simp only [Act.put, List.setIfInBounds_toArray, List.set_cons_zero, List.set_cons_succ]); ((refine WalkN.take 12 _ ?_ (by simp only [List.getElem?_toArray, List.getElem?_cons_succ, List.getElem?_cons_zero]; rfl) (by kernel_rfl) (by kernel_rfl) (by rfl) (fun W hW => ?_) ?_; rotate_left; · (go_simp; try with_reducible rfl)); simp only [Act.put, List.setIfInBounds_toArray, List.set_cons_zero, List.set_cons_succ])
      refine WalkN.done (by kernel_rfl) ?_
      go_wp2_with fail
      have hSame := (Same.below HX4.out).mono HSW.out
      have HF := Lib.hid (show RetOpen S (openB bs) w (.returned (.tuple #[.agg #[.slice (some ⟨b, off, none⟩) a c, .int .i64 0, .string ⟨#[]⟩], .slice (some ⟨b, off + a, none⟩) (m - a) (c - a), .bool true])) (((wd.setCell ⟨w.heap.size, 0, none⟩ (.slice (some ⟨b, off, none⟩) a c)).setCell ⟨w.heap.size, 1, none⟩ (.int .i64 0)).setCell ⟨w.heap.size, 2, none⟩ (.string ⟨#[]⟩)) from by
        rw [HR.out]
        refine ⟨_, _, rfl, ?_, ?_, HX4.out⟩
        · have := HS1.out.same hSame
          rw [Nat.mul_one] at this
          rw [show bc (bs.take a) = (bc bs).take a from by unfold bc; rw [List.map_take]]
          exact this
        · have := HS2.out.same hSame
          rw [show bc ((bs.drop a).take (4 * g)) = ((bc bs).drop a).take (m - a) from by unfold bc; rw [List.map_take, List.map_drop, show m - a = 4 * g from by have := HA.out; omega]]
          exact this)
      refine bodyPost_ret (v := .tuple #[.agg #[.slice (some ⟨b, off, none⟩) a c, .int .i64 0, .string ⟨#[]⟩], .slice (some ⟨b, off + a, none⟩) (m - a) (c - a), .bool true]) ?_ rfl HF.out
      · rw [results_cell_tmp2 rfl]
        have hl := run_loadVar_row (P := Tryz.prog) _ w.heap.size _ 115 _ _ _ HB4.out Tryz.underlying115 rfl (by kernel_rfl)
        simp [asAddr, hl, Result.andThen]

end Go.Proofs.YtmmeofiocbfamaaGreatDoor
namespace Go.Proofs.YtmmeofiocbfamaaGreatDoor
open Go Go.RowKit

/-- A cursor that lies at cb. -/
def Cur (w : World) (cb : Nat) (v : Value) (at_ : Nat) (key : ByteArray) : Prop := Blk w cb #[v, .int .i64 at_, .string key] 115
def RetNext (cb : Nat) (v : Value) (at_ : Nat) (r : Option (List UInt8 × Nat)) (w : World) (e : Ending) (w' : World) : Prop := match r with
  | none => e = .returned (.bool false) ∧ Kept (fun x => x ≠ cb) w w'
  | some (k, m) => e = .returned (.bool true) ∧ Cur w' cb v (at_ + m) ⟨k.toArray⟩ ∧ Kept (fun x => x ≠ cb) w w'

theorem sum_small {n s t l q : Nat} (h1 : n ≤ s) (h2 : s ≤ 1000000000) (h3 : t ≤ l - q) (h4 : l ≤ 100000000) : ¬ (9223372036854775807 < n + t) := by omega
theorem getT_len (bs : List UInt8) : (getT bs).1.length ≤ bs.length := by
  unfold getT
  split
  · exact Nat.zero_le _
  · split
    · exact Nat.zero_le _
    · show (List.take _ (List.drop _ bs)).length ≤ _
      rw [List.length_take, List.length_drop]; omega
theorem getT_bound (bs : List UInt8) (h : (getT bs).2.2 = 0) : (getT bs).2.1 ≤ bs.length := by
  unfold getT at h ⊢
  have hf := getG_facts bs 0 0
  split at h
  · next h0 => exact absurd h h0
  · next h0 =>
    rw [if_neg h0]
    split at h
    · cases h
    · next h1 =>
      rw [if_neg h1]
      have : (getG bs 0 0).2.2 = 0 := Decidable.byContradiction h0
      rcases hf with ⟨_, h2, h3⟩ | h2 | h2
      · dsimp only; omega
      · omega
      · omega

set_option maxRecDepth 100000 in
set_option maxHeartbeats 1600000 in
theorem next_any {S : Nat → Prop} (cb : Nat) (v : Value) (bs : List UInt8) (at_ : Nat) (key : ByteArray) (w : World) (hc : Cur w cb v at_ key) (hcS : ¬ S cb) (hSw : ∀ b, S b → b < w.heap.size) (h : Sl S w 1 v (bc bs)) (hl : bs.length ≤ 100000000) (hat : at_ < bs.length) (hk : key.size ≤ 1000000000) :
    Calls Tryz.prog 75 #[.pointer (some ⟨cb, 0, none⟩)] w (RetNext cb v at_ (nextD (bs.drop at_) key.data.toList) w) := by
  have HS := Lib.hid h
  have HSW := Lib.hid hSw
  have HB := Lib.hid hc
  obtain ⟨ao, c, rfl, hlc, hcm, -, hcell⟩ := Sl.bytes h
  obtain ⟨b, off, rfl, hb, -⟩ := hcell (by omega)
  clear hcell h hSw hc
  have HND := Lib.hid (show nextD (bs.drop at_) key.data.toList = if (getG (bs.drop at_) 0 0).2.2 ≠ 0 ∨ key.data.toList.length < (getG (bs.drop at_) 0 0).1 then none else if (getT ((bs.drop at_).drop (getG (bs.drop at_) 0 0).2.1)).2.2 ≠ 0 then none else some (key.data.toList.take (getG (bs.drop at_) 0 0).1 ++ (getT ((bs.drop at_).drop (getG (bs.drop at_) 0 0).2.1)).1, (getG (bs.drop at_) 0 0).2.1 + (getT ((bs.drop at_).drop (getG (bs.drop at_) 0 0).2.1)).2.1) from rfl)
  have HGF := Lib.hid (getG_facts (bs.drop at_) 0 0)
  rw [List.length_drop] at HGF
  have HW := Lib.hid (show Sl S w 1 (.slice (some ⟨b, off + at_, none⟩) (bs.length - at_) (c - at_)) (bc (bs.drop at_)) from by
    have := HS.out.drop at_ (by omega)
    rw [Option.map_some, Addr.add_lit] at this
    rw [show bc (bs.drop at_) = (bc bs).drop at_ from by unfold bc; rw [List.map_drop]]
    exact this)
  go_enter Tryz.func75, Tryz.ntmps75
  go_wp2_with fail
  obtain ⟨wd, hwd⟩ : ∃ wd, wd = w.drew := ⟨_, rfl⟩
  have HBd := Lib.hid (show Blk wd cb #[.slice (some ⟨b, off, none⟩) bs.length c, .int .i64 at_, .string key] 115 from by rw [hwd]; exact HB.out.drew)
  have HKd := Lib.hid (show Kept (fun x => x ≠ cb) w wd from by rw [hwd]; exact (Kept.refl _ w).drew)
  have HWd := Lib.hid (show Sl S wd 1 (.slice (some ⟨b, off + at_, none⟩) (bs.length - at_) (c - at_)) (bc (bs.drop at_)) from by rw [hwd]; exact HW.out)
  have HSd := Lib.hid (show Sl S wd 1 (.slice (some ⟨b, off, none⟩) bs.length c) (bc bs) from by rw [hwd]; exact HS.out)
  refine region_walkN (fun W => W = wd) (by rw [← hwd]) (by kernel_rfl) (by kernel_rfl) (fun _ _ d _ _ h => by cases d <;> exact h) ?_
  rw [← hwd]
  clear hwd
  have g : ∀ W, W = wd → ∀ i, W.cell? ⟨cb, i, none⟩ = (#[.slice (some ⟨b, off, none⟩) bs.length c, .int .i64 (at_ : Int), .string key] : Array Value)[i]? := fun W h => by subst h; exact HBd.out.cells
  have hac : at_ ≤ c := by omega
  have hca : ¬ (c = at_) := by omega
  have hcl : at_ ≤ bs.length := by omega
  ((refine WalkN.take 0 _ ?_ (by simp only [List.getElem?_toArray, List.getElem?_cons_zero]; rfl) (by kernel_rfl) (by kernel_rfl) (by rfl) (fun W hW => ?_) ?_; rotate_left; · (go_simp; try with_reducible rfl)); simp only [Act.put, List.setIfInBounds_toArray, List.set_cons_zero, List.set_cons_succ]); ((refine WalkN.take 1 _ ?_ (by simp only [List.getElem?_toArray, List.getElem?_cons_succ, List.getElem?_cons_zero]; rfl) (by kernel_rfl) (by kernel_rfl) (by rfl) (fun W hW => ?_) ?_; rotate_left; · (go_simp; try with_reducible rfl)); simp only [Act.put, List.setIfInBounds_toArray, List.set_cons_zero, List.set_cons_succ]); ((refine WalkN.take 2 _ ?_ (by simp only [List.getElem?_toArray, List.getElem?_cons_succ, List.getElem?_cons_zero]; rfl) (by kernel_rfl) (by kernel_rfl) (by rfl) (fun W hW => ?_) ?_; rotate_left; · (go_simp; try with_reducible rfl)); simp only [Act.put, List.setIfInBounds_toArray, List.set_cons_zero, List.set_cons_succ]); ((refine WalkN.take 3 _ ?_ (by simp only [List.getElem?_toArray, List.getElem?_cons_succ, List.getElem?_cons_zero]; rfl) (by kernel_rfl) (by kernel_rfl) (by rfl) (fun W hW => ?_) ?_; rotate_left; · (go_simp; try with_reducible rfl)); simp only [Act.put, List.setIfInBounds_toArray, List.set_cons_zero, List.set_cons_succ]); ((refine WalkN.take 4 _ ?_ (by simp only [List.getElem?_toArray, List.getElem?_cons_succ, List.getElem?_cons_zero]; rfl) (by kernel_rfl) (by kernel_rfl) (by rfl) (fun W hW => ?_) ?_; rotate_left; · (go_simp; try with_reducible rfl)); simp only [Act.put, List.setIfInBounds_toArray, List.set_cons_zero, List.set_cons_succ]); ((refine WalkN.take 5 _ ?_ (by simp only [List.getElem?_toArray, List.getElem?_cons_succ, List.getElem?_cons_zero]; rfl) (by kernel_rfl) (by kernel_rfl) (by rfl) (fun W hW => ?_) ?_; rotate_left; · (go_simp; try with_reducible rfl)); simp only [Act.put, List.setIfInBounds_toArray, List.set_cons_zero, List.set_cons_succ]); ((refine WalkN.take 6 _ ?_ (by simp only [List.getElem?_toArray, List.getElem?_cons_succ, List.getElem?_cons_zero]; rfl) (by kernel_rfl) (by kernel_rfl) (by rfl) (fun W hW => ?_) ?_; rotate_left; · (go_simp; try with_reducible rfl)); simp only [Act.put, List.setIfInBounds_toArray, List.set_cons_zero, List.set_cons_succ]); ((refine WalkN.take 7 _ ?_ (by simp only [List.getElem?_toArray, List.getElem?_cons_succ, List.getElem?_cons_zero]; rfl) (by kernel_rfl) (by kernel_rfl) (by rfl) (fun W hW => ?_) ?_; rotate_left; · (go_simp; try with_reducible rfl)); simp only [Act.put, List.setIfInBounds_toArray, List.set_cons_zero, List.set_cons_succ]); ((refine WalkN.take 8 _ ?_ (by simp only [List.getElem?_toArray, List.getElem?_cons_succ, List.getElem?_cons_zero]; rfl) (by kernel_rfl) (by kernel_rfl) (by rfl) (fun W hW => ?_) ?_; rotate_left; · (go_simp; try with_reducible rfl)); simp only [Act.put, List.setIfInBounds_toArray, List.set_cons_zero, List.set_cons_succ])
  have HG := Lib.hid (get_any (.slice (some ⟨b, off + at_, none⟩) (bs.length - at_) (c - at_)) (bs.drop at_) wd S HWd.out (by rw [List.length_drop]; omega))
  generalize getG (bs.drop at_) 0 0 = r at *
  obtain ⟨n, k, er⟩ := r
  dsimp only at HND HGF
  refine WalkN.one 9 (by kernel_rfl) ?_
  refine ⟨_, (by simp only [List.getElem?_toArray, List.getElem?_cons_succ, List.getElem?_cons_zero]; rfl), by rfl, fun K hK => ?_⟩
  go_simp
  refine HG.out.mono ?_
  rintro e w1 ⟨rfl, rfl⟩
  dsimp only
  refine hK.out _ _ rfl ?_
  clear hK HG
  ((refine WalkN.take 10 _ ?_ (by simp only [List.getElem?_toArray, List.getElem?_cons_succ, List.getElem?_cons_zero]; rfl) (by kernel_rfl) (by kernel_rfl) (by rfl) (fun W hW => ?_) ?_; rotate_left; · (go_simp; try with_reducible rfl)); simp only [Act.put, List.setIfInBounds_toArray, List.set_cons_zero, List.set_cons_succ]); ((refine WalkN.take 11 _ ?_ (by simp only [List.getElem?_toArray, List.getElem?_cons_succ, List.getElem?_cons_zero]; rfl) (by kernel_rfl) (by kernel_rfl) (by rfl) (fun W hW => ?_) ?_; rotate_left; · (go_simp; try with_reducible rfl)); simp only [Act.put, List.setIfInBounds_toArray, List.set_cons_zero, List.set_cons_succ]); ((refine WalkN.take 12 _ ?_ (by simp only [List.getElem?_toArray, List.getElem?_cons_succ, List.getElem?_cons_zero]; rfl) (by kernel_rfl) (by kernel_rfl) (by rfl) (fun W hW => ?_) ?_; rotate_left; · (go_simp; try with_reducible rfl)); simp only [Act.put, List.setIfInBounds_toArray, List.set_cons_zero, List.set_cons_succ]); ((refine WalkN.take 13 _ ?_ (by simp only [List.getElem?_toArray, List.getElem?_cons_succ, List.getElem?_cons_zero]; rfl) (by kernel_rfl) (by kernel_rfl) (by rfl) (fun W hW => ?_) ?_; rotate_left; · (go_simp; try with_reducible rfl)); simp only [Act.put, List.setIfInBounds_toArray, List.set_cons_zero, List.set_cons_succ]); ((refine WalkN.take 14 _ ?_ (by simp only [List.getElem?_toArray, List.getElem?_cons_succ, List.getElem?_cons_zero]; rfl) (by kernel_rfl) (by kernel_rfl) (by rfl) (fun W hW => ?_) ?_; rotate_left; · (go_simp; try with_reducible rfl)); simp only [Act.put, List.setIfInBounds_toArray, List.set_cons_zero, List.set_cons_succ]); ((refine WalkN.take 15 _ ?_ (by simp only [List.getElem?_toArray, List.getElem?_cons_succ, List.getElem?_cons_zero]; rfl) (by kernel_rfl) (by kernel_rfl) (by rfl) (fun W hW => ?_) ?_; rotate_left; · (go_simp; try with_reducible rfl)); simp only [Act.put, List.setIfInBounds_toArray, List.set_cons_zero, List.set_cons_succ]); ((refine WalkN.take 16 _ ?_ (by simp only [List.getElem?_toArray, List.getElem?_cons_succ, List.getElem?_cons_zero]; rfl) (by kernel_rfl) (by kernel_rfl) (by rfl) (fun W hW => ?_) ?_; rotate_left; · (go_simp; try with_reducible rfl)); simp only [Act.put, List.setIfInBounds_toArray, List.set_cons_zero, List.set_cons_succ])
  refine WalkN.done (by kernel_rfl) ?_
  clear g
  have HKL := Lib.hid (show key.data.toList.length = key.size from Array.length_toList)
  have hcells := HBd.out.cells
  have hwk : IntKind.u64.wrap (key.size : Int) = (key.size : Int) := by rw [IntKind.wrap_u64]; omega
  rcases HGF.out with ⟨he, hk1, hk2⟩ | he
  · subst he
    by_cases hbig : key.size < n
    · have HR := Lib.hid (show nextD (bs.drop at_) key.data.toList = none from by rw [HND.out, if_pos (.inr (by rw [HKL.out]; exact hbig))])
      go_wp2_with fail
      go_ret
      rw [HR.out]
      exact ⟨rfl, HKd.out⟩
    · have hk3 : at_ + k ≤ bs.length := by omega
      have HR := Lib.hid (show nextD (bs.drop at_) key.data.toList = if (getT (bs.drop (at_ + k))).2.2 ≠ 0 then none else some (key.data.toList.take n ++ (getT (bs.drop (at_ + k))).1, k + (getT (bs.drop (at_ + k))).2.1) from by rw [HND.out, if_neg (by rw [HKL.out]; simp; omega), List.drop_drop])
      clear HND HWd
      go_wp2_with fail
      obtain ⟨we, hwe⟩ : ∃ we, we = wd.drew := ⟨_, rfl⟩
      have HBe := Lib.hid (show Blk we cb #[.slice (some ⟨b, off, none⟩) bs.length c, .int .i64 at_, .string key] 115 from by rw [hwe]; exact HBd.out.drew)
      have HKe := Lib.hid (show Kept (fun x => x ≠ cb) w we from by rw [hwe]; exact HKd.out.drew)
      have HSe := Lib.hid (show Sl S we 1 (.slice (some ⟨b, off, none⟩) bs.length c) (bc bs) from by rw [hwe]; exact HSd.out)
      refine region_walkN (fun W => W = we) (by rw [← hwe]) (by kernel_rfl) (by kernel_rfl) (fun _ _ d _ _ h => by cases d <;> exact h) ?_
      rw [← hwe]
      clear hwe hcells
      have g : ∀ W, W = we → ∀ i, W.cell? ⟨cb, i, none⟩ = (#[.slice (some ⟨b, off, none⟩) bs.length c, .int .i64 (at_ : Int), .string key] : Array Value)[i]? := fun W h => by subst h; exact HBe.out.cells
      obtain ⟨q, hq⟩ : ∃ q, q = at_ + k := ⟨_, rfl⟩
      have HQ := Lib.hid hq
      rw [← hq] at hk3 HR
      have hqi : (at_ : Int) + (k : Int) = (q : Int) := by omega
      have hqc : q ≤ c := by omega
      have hwq : IntKind.i64.wrap (q : Int) = (q : Int) := IntWalk.i64_in _ (by omega)
      have HGT := Lib.hid (fun A (hA : ¬ c = q → A = some (⟨b, off + q, none⟩ : Addr)) => getText_any (.slice A (bs.length - q) (c - q)) (bs.drop q) we S (by
        have := HSe.out.window (ao' := A) q bs.length hk3 (Nat.le_refl _) (fun h => by rw [hA h, Option.map_some, Addr.add_lit])
        rw [show bc (bs.drop q) = ((bc bs).drop q).take (bs.length - q) from by unfold bc; rw [List.take_of_length_le (by rw [List.length_drop, List.length_map]; omega), List.map_drop]]
        exact this) (by rw [List.length_drop]; omega))
      clear hq hk2 hk1 hac hca hcl
      ((refine WalkN.take 0 _ ?_ (by simp only [List.getElem?_toArray, List.getElem?_cons_zero]; rfl) (by kernel_rfl) (by kernel_rfl) (by rfl) (fun W hW => ?_) ?_; rotate_left; · (go_simp; try with_reducible rfl)); simp only [Act.put, List.setIfInBounds_toArray, List.set_cons_zero, List.set_cons_succ]); ((refine WalkN.take 1 _ ?_ (by simp only [List.getElem?_toArray, List.getElem?_cons_succ, List.getElem?_cons_zero]; rfl) (by kernel_rfl) (by kernel_rfl) (by rfl) (fun W hW => ?_) ?_; rotate_left; · (go_simp; try with_reducible rfl)); simp only [Act.put, List.setIfInBounds_toArray, List.set_cons_zero, List.set_cons_succ]); ((refine WalkN.take 2 _ ?_ (by simp only [List.getElem?_toArray, List.getElem?_cons_succ, List.getElem?_cons_zero]; rfl) (by kernel_rfl) (by kernel_rfl) (by rfl) (fun W hW => ?_) ?_; rotate_left; · (go_simp; try with_reducible rfl)); simp only [Act.put, List.setIfInBounds_toArray, List.set_cons_zero, List.set_cons_succ]); ((refine WalkN.take 3 _ ?_ (by simp only [List.getElem?_toArray, List.getElem?_cons_succ, List.getElem?_cons_zero]; rfl) (by kernel_rfl) (by kernel_rfl) (by rfl) (fun W hW => ?_) ?_; rotate_left; · (go_simp; try with_reducible rfl)); simp only [Act.put, List.setIfInBounds_toArray, List.set_cons_zero, List.set_cons_succ]); ((refine WalkN.take 4 _ ?_ (by simp only [List.getElem?_toArray, List.getElem?_cons_succ, List.getElem?_cons_zero]; rfl) (by kernel_rfl) (by kernel_rfl) (by rfl) (fun W hW => ?_) ?_; rotate_left; · (go_simp; try with_reducible rfl)); simp only [Act.put, List.setIfInBounds_toArray, List.set_cons_zero, List.set_cons_succ]); ((refine WalkN.take 5 _ ?_ (by simp only [List.getElem?_toArray, List.getElem?_cons_succ, List.getElem?_cons_zero]; rfl) (by kernel_rfl) (by kernel_rfl) (by rfl) (fun W hW => ?_) ?_; rotate_left; · (go_simp; try with_reducible rfl)); simp only [Act.put, List.setIfInBounds_toArray, List.set_cons_zero, List.set_cons_succ]); ((refine WalkN.take 6 _ ?_ (by simp only [List.getElem?_toArray, List.getElem?_cons_succ, List.getElem?_cons_zero]; rfl) (by kernel_rfl) (by kernel_rfl) (by rfl) (fun W hW => ?_) ?_; rotate_left; · (go_simp; try with_reducible rfl)); simp only [Act.put, List.setIfInBounds_toArray, List.set_cons_zero, List.set_cons_succ]); ((refine WalkN.take 7 _ ?_ (by simp only [List.getElem?_toArray, List.getElem?_cons_succ, List.getElem?_cons_zero]; rfl) (by kernel_rfl) (by kernel_rfl) (by rfl) (fun W hW => ?_) ?_; rotate_left; · (go_simp; try with_reducible rfl)); simp only [Act.put, List.setIfInBounds_toArray, List.set_cons_zero, List.set_cons_succ]); ((refine WalkN.take 8 _ ?_ (by simp only [List.getElem?_toArray, List.getElem?_cons_succ, List.getElem?_cons_zero]; rfl) (by kernel_rfl) (by kernel_rfl) (by rfl) (fun W hW => ?_) ?_; rotate_left; · (go_simp; try with_reducible rfl)); simp only [Act.put, List.setIfInBounds_toArray, List.set_cons_zero, List.set_cons_succ]); ((refine WalkN.take 9 _ ?_ (by simp only [List.getElem?_toArray, List.getElem?_cons_succ, List.getElem?_cons_zero]; rfl) (by kernel_rfl) (by kernel_rfl) (by rfl) (fun W hW => ?_) ?_; rotate_left; · (go_simp; try with_reducible rfl)); simp only [Act.put, List.setIfInBounds_toArray, List.set_cons_zero, List.set_cons_succ]); ((refine WalkN.take 10 _ ?_ (by simp only [List.getElem?_toArray, List.getElem?_cons_succ, List.getElem?_cons_zero]; rfl) (by kernel_rfl) (by kernel_rfl) (by rfl) (fun W hW => ?_) ?_; rotate_left; · (go_simp; try with_reducible rfl)); simp only [Act.put, List.setIfInBounds_toArray, List.set_cons_zero, List.set_cons_succ])
      have HTB := Lib.hid (getT_bound (bs.drop q))
      have HTL := Lib.hid (getT_len (bs.drop q))
      rw [List.length_drop] at HTB HTL
      have HA := Lib.hid (fun h : ¬ c = q => (if_neg h : (if c = q then some (⟨b, off, none⟩ : Addr) else some ⟨b, off + q, none⟩) = some ⟨b, off + q, none⟩))
      generalize (if c = q then some (⟨b, off, none⟩ : Addr) else some ⟨b, off + q, none⟩) = A at *
      generalize getT (bs.drop q) = r at *
      obtain ⟨tx, m, er⟩ := r
      dsimp only at HR HTB HTL
      refine WalkN.one 11 (by kernel_rfl) ?_
      refine ⟨_, (by simp only [List.getElem?_toArray, List.getElem?_cons_succ, List.getElem?_cons_zero]; rfl), by rfl, fun K hK => ?_⟩
      go_simp
      refine (HGT.out _ HA.out).mono ?_
      rintro e w1 ⟨rfl, rfl⟩
      dsimp only
      refine hK.out _ _ rfl ?_
      clear hK HGT
      ((refine WalkN.take 12 _ ?_ (by simp only [List.getElem?_toArray, List.getElem?_cons_succ, List.getElem?_cons_zero]; rfl) (by kernel_rfl) (by kernel_rfl) (by rfl) (fun W hW => ?_) ?_; rotate_left; · (go_simp; try with_reducible rfl)); simp only [Act.put, List.setIfInBounds_toArray, List.set_cons_zero, List.set_cons_succ]); ((refine WalkN.take 13 _ ?_ (by simp only [List.getElem?_toArray, List.getElem?_cons_succ, List.getElem?_cons_zero]; rfl) (by kernel_rfl) (by kernel_rfl) (by rfl) (fun W hW => ?_) ?_; rotate_left; · (go_simp; try with_reducible rfl)); simp only [Act.put, List.setIfInBounds_toArray, List.set_cons_zero, List.set_cons_succ]); ((refine WalkN.take 14 _ ?_ (by simp only [List.getElem?_toArray, List.getElem?_cons_succ, List.getElem?_cons_zero]; rfl) (by kernel_rfl) (by kernel_rfl) (by rfl) (fun W hW => ?_) ?_; rotate_left; · (go_simp; try with_reducible rfl)); simp only [Act.put, List.setIfInBounds_toArray, List.set_cons_zero, List.set_cons_succ]); ((refine WalkN.take 15 _ ?_ (by simp only [List.getElem?_toArray, List.getElem?_cons_succ, List.getElem?_cons_zero]; rfl) (by kernel_rfl) (by kernel_rfl) (by rfl) (fun W hW => ?_) ?_; rotate_left; · (go_simp; try with_reducible rfl)); simp only [Act.put, List.setIfInBounds_toArray, List.set_cons_zero, List.set_cons_succ]); ((refine WalkN.take 16 _ ?_ (by simp only [List.getElem?_toArray, List.getElem?_cons_succ, List.getElem?_cons_zero]; rfl) (by kernel_rfl) (by kernel_rfl) (by rfl) (fun W hW => ?_) ?_; rotate_left; · (go_simp; try with_reducible rfl)); simp only [Act.put, List.setIfInBounds_toArray, List.set_cons_zero, List.set_cons_succ]); ((refine WalkN.take 17 _ ?_ (by simp only [List.getElem?_toArray, List.getElem?_cons_succ, List.getElem?_cons_zero]; rfl) (by kernel_rfl) (by kernel_rfl) (by rfl) (fun W hW => ?_) ?_; rotate_left; · (go_simp; try with_reducible rfl)); simp only [Act.put, List.setIfInBounds_toArray, List.set_cons_zero, List.set_cons_succ]); ((refine WalkN.take 18 _ ?_ (by simp only [List.getElem?_toArray, List.getElem?_cons_succ, List.getElem?_cons_zero]; rfl) (by kernel_rfl) (by kernel_rfl) (by rfl) (fun W hW => ?_) ?_; rotate_left; · (go_simp; try with_reducible rfl)); simp only [Act.put, List.setIfInBounds_toArray, List.set_cons_zero, List.set_cons_succ])
      refine WalkN.done (by kernel_rfl) ?_
      clear g
      have hcells := HBe.out.cells
      have hfree := HBe.out.free
      by_cases her : er = 0
      · subst her
        have HR2 := Lib.hid (show nextD (bs.drop at_) key.data.toList = some (key.data.toList.take n ++ tx, k + m) from by rw [HR.out, if_neg (by simp)])
        have hmb := HTB.out rfl
        have hkm : (k : Int) + (m : Int) = ((k + m : Nat) : Int) := by omega
        have HFN := Lib.hid (show at_ + (k + m) ≤ 200000000 from by have := HQ.out; omega)
        have hn : n ≤ key.size := by omega
        clear hcm hlc hmb hqi hwq hwk
        generalize k + m = km at *
        have hak : wrap64 ((at_ : Int) + (km : Int)) = ((at_ + km : Nat) : Int) := by unfold wrap64; have := HFN.out; omega
        have hwkm : wrap64 (km : Int) = (km : Int) := by unfold wrap64; have := HFN.out; omega
        have hsum : ¬ (9223372036854775807 < n + tx.length) := sum_small hn hk HTL.out hl
        go_wp2_with fail
        rw [← Int.natCast_add at_ km]
        have HB5 := Lib.hid ((HBe.out.set_to 2 (.string (key.extract 0 n ++ ⟨tx.toArray⟩)) rfl).set_to 1 (.int .i64 ((at_ + km : Nat) : Int)) rfl)
        have HK5 := Lib.hid ((HKe.out.set (a := ⟨cb, 2, none⟩) (fun h => h rfl) (.string (key.extract 0 n ++ ⟨tx.toArray⟩))).set (a := ⟨cb, 1, none⟩) (fun h => h rfl) (.int .i64 ((at_ + km : Nat) : Int)))
        have HKN := Lib.hid (show key.extract 0 n ++ ⟨tx.toArray⟩ = (⟨(key.data.toList.take n ++ tx).toArray⟩ : ByteArray) from by
          have e : key.extract 0 n = ⟨(key.data.toList.take n).toArray⟩ := ByteArray.ext (by rw [← Array.toList_inj, Lib.extract_data]; simp)
          rw [e, ba_append])
        go_ret
        rw [HR2.out]
        refine ⟨rfl, ?_, HK5.out⟩
        rw [← HKN.out]
        exact HB5.out
      · have HR2 := Lib.hid (show nextD (bs.drop at_) key.data.toList = none from by rw [HR.out, if_pos her])
        have hei : ¬ ((er : Int) = 0) := by omega
        go_wp2_with fail
        go_ret
        rw [HR2.out]
        exact ⟨rfl, HKe.out⟩
  · have HR := Lib.hid (show nextD (bs.drop at_) key.data.toList = none from by rw [HND.out, if_pos (.inl (by omega))])
    rcases he with rfl | rfl
    · go_wp2_with fail
      go_ret
      rw [HR.out]
      exact ⟨rfl, HKd.out⟩
    · go_wp2_with fail
      go_ret
      rw [HR.out]
      exact ⟨rfl, HKd.out⟩

end Go.Proofs.YtmmeofiocbfamaaGreatDoor
