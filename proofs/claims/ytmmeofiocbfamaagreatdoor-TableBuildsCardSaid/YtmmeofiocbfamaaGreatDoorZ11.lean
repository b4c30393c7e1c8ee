/- block's Common. Appends that leave the row the call's own. No condition: lemmas. -/
import Derived.Test.YtmmeofiocbfamaaGreatDoorZ10
namespace Go.Proofs.YtmmeofiocbfamaaGreatDoor
open Go Go.RowKit

theorem WalkN.skip {P : Program} {ops : Array Oper} {Q : Exit → Act → World → Prop} {S : World → Prop} {f : Nat} {l : Array Bool} {a : Act} {w : World} (i : Nat) (o : Oper) (ho : ops[i]? = some o) (hf : Region.free .any ops l i = true) (hr : (Region.ready .any ops l).contains i = true)
    (hw : Region.wanted o (yielded ops a.tmps) = false) (h : WalkN P ops Q S f (l.setIfInBounds i true) (a.put o.dst undef) w) : WalkN P ops Q S (f + 1) l a w :=
  .inr (.inl ⟨i, o, undef, ho, hf, hr, .inr ⟨hw, rfl⟩, h⟩)

theorem comm_step : ∀ (a b : List UInt8) (i : Nat), i ≤ comm a b → (ha : i < a.length) → (hb : i < b.length) → if a[i] = b[i] then i + 1 ≤ comm a b else comm a b = i
  | [], _, _, _, ha, _ => by simp at ha
  | _ :: _, [], _, _, _, hb => by simp at hb
  | x :: a, y :: b, 0, _, _, _ => by
    by_cases h : x = y
    · simp [comm, h]
    · simp [comm, h]
  | x :: a, y :: b, i + 1, h, ha, hb => by
    rw [comm] at h ⊢
    by_cases hxy : x = y
    · rw [if_pos hxy] at h ⊢
      have := comm_step a b i (by omega) (by simpa using ha) (by simpa using hb)
      simp only [List.getElem_cons_succ]
      split
      · next e => rw [if_pos e] at this; omega
      · next e => rw [if_neg e] at this; omega
    · rw [if_neg hxy] at h; omega

set_option maxRecDepth 100000 in
set_option maxHeartbeats 1000000 in
theorem common_any (s t : ByteArray) (w : World) (hs : s.size ≤ 1000000000) (ht : t.size ≤ 1000000000) :
    Calls Tryz.prog 82 #[.string s, .string t] w fun e w' => e = .returned (.int .i64 (comm s.data.toList t.data.toList)) ∧ Ext w w' := by
  have HC := Lib.hid (show ∀ i, i ≤ comm s.data.toList t.data.toList → (h1 : i < s.size) → (h2 : i < t.size) → if s[i] = t[i] then i + 1 ≤ comm s.data.toList t.data.toList else comm s.data.toList t.data.toList = i from fun i hi h1 h2 => by
    have := comm_step s.data.toList t.data.toList i hi (by simpa using h1) (by simpa using h2)
    simpa [ByteArray.getElem_eq_getElem_data] using this)
  have HL := Lib.hid (show comm s.data.toList t.data.toList ≤ s.size ∧ comm s.data.toList t.data.toList ≤ t.size from by have := comm_le s.data.toList t.data.toList; simpa using this)
  generalize comm s.data.toList t.data.toList = cm at *
  go_enter Tryz.func82, Tryz.ntmps82
  go_wp2_with fail
  go_loopw [5] (fun iv wr => ∃ i : Nat, i ≤ cm ∧ iv = .int .i64 i ∧ Ext w wr) (fun iv _ => cm - (intOf iv).toNat)
  case atStart => exact ⟨0, by omega, rfl, Ext.refl _⟩
  case round =>
    obtain ⟨i, hi, rfl, hx⟩ := hrel
    have HX := Lib.hid hx
    clear hx
    have HM := Lib.hid (show min (s.size : Int) (t.size : Int) = ((min s.size t.size : Nat) : Int) from by omega)
    have hms : min s.size t.size ≤ s.size ∧ min s.size t.size ≤ t.size := by omega
    have HMI := Lib.hid (show min s.size t.size = s.size ∨ min s.size t.size = t.size from by omega)
    generalize min s.size t.size = m at *
    have hmin := HM.out
    go_wp2_with fail
    obtain ⟨wd, hwd⟩ : ∃ wd, wd = wr.drew := ⟨_, rfl⟩
    have HXd := Lib.hid (show Ext w wd from by rw [hwd]; exact HX.out.trans (Ext.drew wr))
    refine region_walkN (Ext wd) (by rw [← hwd]; exact Ext.refl _) (by kernel_rfl) (by kernel_rfl) (fun _ _ d _ _ h => by cases d <;> exact h) ?_
    rw [← hwd]
    clear hwd
    by_cases hlt : i < m
    · have hi1 : i < s.size := by omega
      have hi2 : i < t.size := by omega
      have hc := HC.out i hi hi1 hi2
      by_cases he : s[i] = t[i]
      · rw [if_pos he] at hc
        have HCM := Lib.hid hc
        clear hc
        have hen : s[i].toNat = t[i].toNat := by rw [he]
        ((refine WalkN.take 0 _ ?_ (by simp only [List.getElem?_toArray, List.getElem?_cons_zero]; rfl) (by kernel_rfl) (by kernel_rfl) (by rfl) (fun W hW => ?_) ?_; rotate_left; · (go_simp; try with_reducible rfl)); simp only [Act.put, List.setIfInBounds_toArray, List.set_cons_zero, List.set_cons_succ]); ((refine WalkN.take 1 _ ?_ (by simp only [List.getElem?_toArray, List.getElem?_cons_succ, List.getElem?_cons_zero]; rfl) (by kernel_rfl) (by kernel_rfl) (by rfl) (fun W hW => ?_) ?_; rotate_left; · (go_simp; try with_reducible rfl)); simp only [Act.put, List.setIfInBounds_toArray, List.set_cons_zero, List.set_cons_succ]); ((refine WalkN.take 2 _ ?_ (by simp only [List.getElem?_toArray, List.getElem?_cons_succ, List.getElem?_cons_zero]; rfl) (by kernel_rfl) (by kernel_rfl) (by rfl) (fun W hW => ?_) ?_; rotate_left; · (go_simp; try with_reducible rfl)); simp only [Act.put, List.setIfInBounds_toArray, List.set_cons_zero, List.set_cons_succ]); ((refine WalkN.take 3 _ ?_ (by simp only [List.getElem?_toArray, List.getElem?_cons_succ, List.getElem?_cons_zero]; rfl) (by kernel_rfl) (by kernel_rfl) (by rfl) (fun W hW => ?_) ?_; rotate_left; · (go_simp; try with_reducible rfl)); simp only [Act.put, List.setIfInBounds_toArray, List.set_cons_zero, List.set_cons_succ]); ((refine WalkN.take 4 _ ?_ (by simp only [List.getElem?_toArray, List.getElem?_cons_succ, List.getElem?_cons_zero]; rfl) (by kernel_rfl) (by kernel_rfl) (by rfl) (fun W hW => ?_) ?_; rotate_left; · (go_simp; try with_reducible rfl)); simp only [Act.put, List.setIfInBounds_toArray, List.set_cons_zero, List.set_cons_succ]); ((refine WalkN.take 5 _ ?_ (by simp only [List.getElem?_toArray, List.getElem?_cons_succ, List.getElem?_cons_zero]; rfl) (by kernel_rfl) (by kernel_rfl) (by rfl) (fun W hW => ?_) ?_; rotate_left; · (go_simp; try with_reducible rfl)); simp only [Act.put, List.setIfInBounds_toArray, List.set_cons_zero, List.set_cons_succ]); ((refine WalkN.take 6 _ ?_ (by simp only [List.getElem?_toArray, List.getElem?_cons_succ, List.getElem?_cons_zero]; rfl) (by kernel_rfl) (by kernel_rfl) (by rfl) (fun W hW => ?_) ?_; rotate_left; · (go_simp; try with_reducible rfl)); simp only [Act.put, List.setIfInBounds_toArray, List.set_cons_zero, List.set_cons_succ]); ((refine WalkN.take 7 _ ?_ (by simp only [List.getElem?_toArray, List.getElem?_cons_succ, List.getElem?_cons_zero]; rfl) (by kernel_rfl) (by kernel_rfl) (by rfl) (fun W hW => ?_) ?_; rotate_left; · (go_simp; try with_reducible rfl)); simp only [Act.put, List.setIfInBounds_toArray, List.set_cons_zero, List.set_cons_succ]); ((refine WalkN.take 8 _ ?_ (by simp only [List.getElem?_toArray, List.getElem?_cons_succ, List.getElem?_cons_zero]; rfl) (by kernel_rfl) (by kernel_rfl) (by rfl) (fun W hW => ?_) ?_; rotate_left; · (go_simp; try with_reducible rfl)); simp only [Act.put, List.setIfInBounds_toArray, List.set_cons_zero, List.set_cons_succ]); ((refine WalkN.take 9 _ ?_ (by simp only [List.getElem?_toArray, List.getElem?_cons_succ, List.getElem?_cons_zero]; rfl) (by kernel_rfl) (by kernel_rfl) (by rfl) (fun W hW => ?_) ?_; rotate_left; · (go_simp; try with_reducible rfl)); simp only [Act.put, List.setIfInBounds_toArray, List.set_cons_zero, List.set_cons_succ]); ((refine WalkN.take 10 _ ?_ (by simp only [List.getElem?_toArray, List.getElem?_cons_succ, List.getElem?_cons_zero]; rfl) (by kernel_rfl) (by kernel_rfl) (by rfl) (fun W hW => ?_) ?_; rotate_left; · (go_simp; try with_reducible rfl)); simp only [Act.put, List.setIfInBounds_toArray, List.set_cons_zero, List.set_cons_succ]); ((refine WalkN.take 11 _ ?_ (by simp only [List.getElem?_toArray, List.getElem?_cons_succ, List.getElem?_cons_zero]; rfl) (by kernel_rfl) (by kernel_rfl) (by rfl) (fun W hW => ?_) ?_; rotate_left; · (go_simp; try with_reducible rfl)); simp only [Act.put, List.setIfInBounds_toArray, List.set_cons_zero, List.set_cons_succ]); ((refine WalkN.take 12 _ ?_ (by simp only [List.getElem?_toArray, List.getElem?_cons_succ, List.getElem?_cons_zero]; rfl) (by kernel_rfl) (by kernel_rfl) (by rfl) (fun W hW => ?_) ?_; rotate_left; · (go_simp; try with_reducible rfl)); simp only [Act.put, List.setIfInBounds_toArray, List.set_cons_zero, List.set_cons_succ]); ((refine WalkN.take 13 _ ?_ (by simp only [List.getElem?_toArray, List.getElem?_cons_succ, List.getElem?_cons_zero]; rfl) (by kernel_rfl) (by kernel_rfl) (by rfl) (fun W hW => ?_) ?_; rotate_left; · (go_simp; try with_reducible rfl)); simp only [Act.put, List.setIfInBounds_toArray, List.set_cons_zero, List.set_cons_succ]); ((refine WalkN.take 14 _ ?_ (by simp only [List.getElem?_toArray, List.getElem?_cons_succ, List.getElem?_cons_zero]; rfl) (by kernel_rfl) (by kernel_rfl) (by rfl) (fun W hW => ?_) ?_; rotate_left; · (go_simp; try with_reducible rfl)); simp only [Act.put, List.setIfInBounds_toArray, List.set_cons_zero, List.set_cons_succ]); ((refine WalkN.take 15 _ ?_ (by simp only [List.getElem?_toArray, List.getElem?_cons_succ, List.getElem?_cons_zero]; rfl) (by kernel_rfl) (by kernel_rfl) (by rfl) (fun W hW => ?_) ?_; rotate_left; · (go_simp; try with_reducible rfl)); simp only [Act.put, List.setIfInBounds_toArray, List.set_cons_zero, List.set_cons_succ])
        refine WalkN.done (by kernel_rfl) ?_
        go_wp2_with fail
        exact ⟨⟨i + 1, HCM.out, by go_num, HXd.out⟩, by have := HCM.out; simp [intOf]; omega⟩
      · rw [if_neg he] at hc
        have hen : ¬ ((s[i].toNat : Int) = (t[i].toNat : Int)) := fun e => he (UInt8.toNat_inj.1 (by omega))
        have heb : ((s[i].toNat : Int) == (t[i].toNat : Int)) = false := by simpa using hen
        obtain rfl : cm = i := hc
        clear he
        ((refine WalkN.take 0 _ ?_ (by simp only [List.getElem?_toArray, List.getElem?_cons_zero]; rfl) (by kernel_rfl) (by kernel_rfl) (by rfl) (fun W hW => ?_) ?_; rotate_left; · (go_simp; try with_reducible rfl)); simp only [Act.put, List.setIfInBounds_toArray, List.set_cons_zero, List.set_cons_succ]); ((refine WalkN.take 1 _ ?_ (by simp only [List.getElem?_toArray, List.getElem?_cons_succ, List.getElem?_cons_zero]; rfl) (by kernel_rfl) (by kernel_rfl) (by rfl) (fun W hW => ?_) ?_; rotate_left; · (go_simp; try with_reducible rfl)); simp only [Act.put, List.setIfInBounds_toArray, List.set_cons_zero, List.set_cons_succ]); ((refine WalkN.take 2 _ ?_ (by simp only [List.getElem?_toArray, List.getElem?_cons_succ, List.getElem?_cons_zero]; rfl) (by kernel_rfl) (by kernel_rfl) (by rfl) (fun W hW => ?_) ?_; rotate_left; · (go_simp; try with_reducible rfl)); simp only [Act.put, List.setIfInBounds_toArray, List.set_cons_zero, List.set_cons_succ]); ((refine WalkN.take 3 _ ?_ (by simp only [List.getElem?_toArray, List.getElem?_cons_succ, List.getElem?_cons_zero]; rfl) (by kernel_rfl) (by kernel_rfl) (by rfl) (fun W hW => ?_) ?_; rotate_left; · (go_simp; try with_reducible rfl)); simp only [Act.put, List.setIfInBounds_toArray, List.set_cons_zero, List.set_cons_succ]); ((refine WalkN.take 4 _ ?_ (by simp only [List.getElem?_toArray, List.getElem?_cons_succ, List.getElem?_cons_zero]; rfl) (by kernel_rfl) (by kernel_rfl) (by rfl) (fun W hW => ?_) ?_; rotate_left; · (go_simp; try with_reducible rfl)); simp only [Act.put, List.setIfInBounds_toArray, List.set_cons_zero, List.set_cons_succ]); ((refine WalkN.take 5 _ ?_ (by simp only [List.getElem?_toArray, List.getElem?_cons_succ, List.getElem?_cons_zero]; rfl) (by kernel_rfl) (by kernel_rfl) (by rfl) (fun W hW => ?_) ?_; rotate_left; · (go_simp; try with_reducible rfl)); simp only [Act.put, List.setIfInBounds_toArray, List.set_cons_zero, List.set_cons_succ]); ((refine WalkN.take 6 _ ?_ (by simp only [List.getElem?_toArray, List.getElem?_cons_succ, List.getElem?_cons_zero]; rfl) (by kernel_rfl) (by kernel_rfl) (by rfl) (fun W hW => ?_) ?_; rotate_left; · (go_simp; try with_reducible rfl)); simp only [Act.put, List.setIfInBounds_toArray, List.set_cons_zero, List.set_cons_succ]); ((refine WalkN.take 7 _ ?_ (by simp only [List.getElem?_toArray, List.getElem?_cons_succ, List.getElem?_cons_zero]; rfl) (by kernel_rfl) (by kernel_rfl) (by rfl) (fun W hW => ?_) ?_; rotate_left; · (go_simp; try with_reducible rfl)); simp only [Act.put, List.setIfInBounds_toArray, List.set_cons_zero, List.set_cons_succ]); ((refine WalkN.take 8 _ ?_ (by simp only [List.getElem?_toArray, List.getElem?_cons_succ, List.getElem?_cons_zero]; rfl) (by kernel_rfl) (by kernel_rfl) (by rfl) (fun W hW => ?_) ?_; rotate_left; · (go_simp; try with_reducible rfl)); simp only [Act.put, List.setIfInBounds_toArray, List.set_cons_zero, List.set_cons_succ]); ((refine WalkN.take 9 _ ?_ (by simp only [List.getElem?_toArray, List.getElem?_cons_succ, List.getElem?_cons_zero]; rfl) (by kernel_rfl) (by kernel_rfl) (by rfl) (fun W hW => ?_) ?_; rotate_left; · (go_simp; try with_reducible rfl)); simp only [Act.put, List.setIfInBounds_toArray, List.set_cons_zero, List.set_cons_succ]); ((refine WalkN.take 10 _ ?_ (by simp only [List.getElem?_toArray, List.getElem?_cons_succ, List.getElem?_cons_zero]; rfl) (by kernel_rfl) (by kernel_rfl) (by rfl) (fun W hW => ?_) ?_; rotate_left; · (go_simp; try with_reducible rfl)); simp only [Act.put, List.setIfInBounds_toArray, List.set_cons_zero, List.set_cons_succ]); ((refine WalkN.take 11 _ ?_ (by simp only [List.getElem?_toArray, List.getElem?_cons_succ, List.getElem?_cons_zero]; rfl) (by kernel_rfl) (by kernel_rfl) (by rfl) (fun W hW => ?_) ?_; rotate_left; · (go_simp; try with_reducible rfl)); simp only [Act.put, List.setIfInBounds_toArray, List.set_cons_zero, List.set_cons_succ]); ((refine WalkN.take 12 _ ?_ (by simp only [List.getElem?_toArray, List.getElem?_cons_succ, List.getElem?_cons_zero]; rfl) (by kernel_rfl) (by kernel_rfl) (by rfl) (fun W hW => ?_) ?_; rotate_left; · (go_simp; try with_reducible rfl)); simp only [Act.put, List.setIfInBounds_toArray, List.set_cons_zero, List.set_cons_succ]); ((refine WalkN.take 13 _ ?_ (by simp only [List.getElem?_toArray, List.getElem?_cons_succ, List.getElem?_cons_zero]; rfl) (by kernel_rfl) (by kernel_rfl) (by rfl) (fun W hW => ?_) ?_; rotate_left; · (go_simp; try with_reducible rfl)); simp only [Act.put, List.setIfInBounds_toArray, List.set_cons_zero, List.set_cons_succ]); ((refine WalkN.take 14 _ ?_ (by simp only [List.getElem?_toArray, List.getElem?_cons_succ, List.getElem?_cons_zero]; rfl) (by kernel_rfl) (by kernel_rfl) (by rfl) (fun W hW => ?_) ?_; rotate_left; · (go_simp; try with_reducible rfl)); simp only [Act.put, List.setIfInBounds_toArray, List.set_cons_zero, List.set_cons_succ]); ((refine WalkN.take 15 _ ?_ (by simp only [List.getElem?_toArray, List.getElem?_cons_succ, List.getElem?_cons_zero]; rfl) (by kernel_rfl) (by kernel_rfl) (by rfl) (fun W hW => ?_) ?_; rotate_left; · (go_simp; try with_reducible rfl)); simp only [Act.put, List.setIfInBounds_toArray, List.set_cons_zero, List.set_cons_succ])
        refine WalkN.done (by kernel_rfl) ?_
        go_wp2_with fail
        go_ret
        exact ⟨rfl, HXd.out⟩
    · obtain rfl : cm = i := by
        have := HMI.out
        have := HL.out
        omega
      have hlt2 : ¬ ((cm : Int) < (m : Int)) := by omega
      ((refine WalkN.take 0 _ ?_ (by simp only [List.getElem?_toArray, List.getElem?_cons_zero]; rfl) (by kernel_rfl) (by kernel_rfl) (by rfl) (fun W hW => ?_) ?_; rotate_left; · (go_simp; try with_reducible rfl)); simp only [Act.put, List.setIfInBounds_toArray, List.set_cons_zero, List.set_cons_succ]); ((refine WalkN.take 1 _ ?_ (by simp only [List.getElem?_toArray, List.getElem?_cons_succ, List.getElem?_cons_zero]; rfl) (by kernel_rfl) (by kernel_rfl) (by rfl) (fun W hW => ?_) ?_; rotate_left; · (go_simp; try with_reducible rfl)); simp only [Act.put, List.setIfInBounds_toArray, List.set_cons_zero, List.set_cons_succ]); ((refine WalkN.take 2 _ ?_ (by simp only [List.getElem?_toArray, List.getElem?_cons_succ, List.getElem?_cons_zero]; rfl) (by kernel_rfl) (by kernel_rfl) (by rfl) (fun W hW => ?_) ?_; rotate_left; · (go_simp; try with_reducible rfl)); simp only [Act.put, List.setIfInBounds_toArray, List.set_cons_zero, List.set_cons_succ]); ((refine WalkN.take 3 _ ?_ (by simp only [List.getElem?_toArray, List.getElem?_cons_succ, List.getElem?_cons_zero]; rfl) (by kernel_rfl) (by kernel_rfl) (by rfl) (fun W hW => ?_) ?_; rotate_left; · (go_simp; try with_reducible rfl)); simp only [Act.put, List.setIfInBounds_toArray, List.set_cons_zero, List.set_cons_succ]); ((refine WalkN.take 4 _ ?_ (by simp only [List.getElem?_toArray, List.getElem?_cons_succ, List.getElem?_cons_zero]; rfl) (by kernel_rfl) (by kernel_rfl) (by rfl) (fun W hW => ?_) ?_; rotate_left; · (go_simp; try with_reducible rfl)); simp only [Act.put, List.setIfInBounds_toArray, List.set_cons_zero, List.set_cons_succ]); ((refine WalkN.take 5 _ ?_ (by simp only [List.getElem?_toArray, List.getElem?_cons_succ, List.getElem?_cons_zero]; rfl) (by kernel_rfl) (by kernel_rfl) (by rfl) (fun W hW => ?_) ?_; rotate_left; · (go_simp; try with_reducible rfl)); simp only [Act.put, List.setIfInBounds_toArray, List.set_cons_zero, List.set_cons_succ]); ((refine WalkN.take 6 _ ?_ (by simp only [List.getElem?_toArray, List.getElem?_cons_succ, List.getElem?_cons_zero]; rfl) (by kernel_rfl) (by kernel_rfl) (by rfl) (fun W hW => ?_) ?_; rotate_left; · (go_simp; try with_reducible rfl)); simp only [Act.put, List.setIfInBounds_toArray, List.set_cons_zero, List.set_cons_succ]); ((refine WalkN.take 7 _ ?_ (by simp only [List.getElem?_toArray, List.getElem?_cons_succ, List.getElem?_cons_zero]; rfl) (by kernel_rfl) (by kernel_rfl) (by rfl) (fun W hW => ?_) ?_; rotate_left; · (go_simp; try with_reducible rfl)); simp only [Act.put, List.setIfInBounds_toArray, List.set_cons_zero, List.set_cons_succ])
      (refine WalkN.skip 8 _ (by simp only [List.getElem?_toArray, List.getElem?_cons_succ, List.getElem?_cons_zero]; rfl) (by kernel_rfl) (by kernel_rfl) (by rfl) ?_; simp only [Act.put, List.setIfInBounds_toArray, List.set_cons_zero, List.set_cons_succ]); (refine WalkN.skip 9 _ (by simp only [List.getElem?_toArray, List.getElem?_cons_succ, List.getElem?_cons_zero]; rfl) (by kernel_rfl) (by kernel_rfl) (by rfl) ?_; simp only [Act.put, List.setIfInBounds_toArray, List.set_cons_zero, List.set_cons_succ]); (refine WalkN.skip 10 _ (by simp only [List.getElem?_toArray, List.getElem?_cons_succ, List.getElem?_cons_zero]; rfl) (by kernel_rfl) (by kernel_rfl) (by rfl) ?_; simp only [Act.put, List.setIfInBounds_toArray, List.set_cons_zero, List.set_cons_succ]); (refine WalkN.skip 11 _ (by simp only [List.getElem?_toArray, List.getElem?_cons_succ, List.getElem?_cons_zero]; rfl) (by kernel_rfl) (by kernel_rfl) (by rfl) ?_; simp only [Act.put, List.setIfInBounds_toArray, List.set_cons_zero, List.set_cons_succ]); (refine WalkN.skip 12 _ (by simp only [List.getElem?_toArray, List.getElem?_cons_succ, List.getElem?_cons_zero]; rfl) (by kernel_rfl) (by kernel_rfl) (by rfl) ?_; simp only [Act.put, List.setIfInBounds_toArray, List.set_cons_zero, List.set_cons_succ]); (refine WalkN.skip 13 _ (by simp only [List.getElem?_toArray, List.getElem?_cons_succ, List.getElem?_cons_zero]; rfl) (by kernel_rfl) (by kernel_rfl) (by rfl) ?_; simp only [Act.put, List.setIfInBounds_toArray, List.set_cons_zero, List.set_cons_succ]); (refine WalkN.skip 14 _ (by simp only [List.getElem?_toArray, List.getElem?_cons_succ, List.getElem?_cons_zero]; rfl) (by kernel_rfl) (by kernel_rfl) (by rfl) ?_; simp only [Act.put, List.setIfInBounds_toArray, List.set_cons_zero, List.set_cons_succ])
      ((refine WalkN.take 15 _ ?_ (by simp only [List.getElem?_toArray, List.getElem?_cons_succ, List.getElem?_cons_zero]; rfl) (by kernel_rfl) (by kernel_rfl) (by rfl) (fun W hW => ?_) ?_; rotate_left; · (go_simp; try with_reducible rfl)); simp only [Act.put, List.setIfInBounds_toArray, List.set_cons_zero, List.set_cons_succ])
      refine WalkN.done (by kernel_rfl) ?_
      go_wp2_with fail
      go_ret
      exact ⟨rfl, HXd.out⟩

end Go.Proofs.YtmmeofiocbfamaaGreatDoor
namespace Go.Proofs.YtmmeofiocbfamaaGreatDoor
open Go Go.RowKit

/-- The law of append where something is appended: the row is the call's own then. -/
theorem wpList_appO {P : Program} {w : World} {ops : Array Oper} {rest : List Oper} {o : Oper} {a : Act} {Q : Exit → Act → World → Prop} {t e : TypeId} {size bytes : Nat} (E : ElemT P t e size bytes)
    (hg : o.guard = none) (s x : Operand) (hop : o.op = Op.call { callee := Callee.builtin Builtin.append, args := #[s, x], argTypes := #[t, t] })
    {B : Nat} {v : Value} {xs : List Value} (hs : a.eval s = v) (happ : App w B e size v xs) {S : Nat → Prop} {y : Value} {news : List Value} (hx : a.eval x = y) (hy : Sl S w size y news) (h1 : ∀ u ∈ news, u.oneCell' = true) (hne : news ≠ [])
    (hlen : xs.length + news.length ≤ 9223372036854775807) (hbytes : (xs.length + news.length) * bytes ≤ 140737488355328) (hB : B ≤ w.heap.size)
    (K : ∀ v' w', Own w' B e size v' (xs ++ news) → Below B w w' → w.grownBy w' v.ownBlock → wpList P ops Q rest (a.put o.dst v') w') : wpList P ops Q (o :: rest) a w := by
  rcases happ with h | ⟨ao, n, rfl, hxn, hnm, hnone, hxc⟩
  · exact wpList_own E hg s x hop hs h hx hy h1 hlen hbytes hB K
  · obtain ⟨hund, ⟨i, z, hi, hz, h4, h5, h6⟩, hpos⟩ := E
    obtain ⟨yo, m, c, rfl, hym, hmc, hcm, hyn, hyc⟩ := hy
    have e1 : ∀ k l : Nat, k ≤ l * size → l * size ≤ k → l ≤ k := fun k l _ hb => Nat.le_trans (Nat.le_mul_of_pos_right l hpos) hb
    have hnl : n ≤ xs.length := e1 _ _ (Nat.le_of_eq hxn) (Nat.le_of_eq hxn.symm)
    have hml : m ≤ news.length := e1 _ _ (Nat.le_of_eq hym) (Nat.le_of_eq hym.symm)
    have hb63 : n + m ≤ maxLen := by unfold maxLen; omega
    have hb47 : (n + m) * bytes ≤ 140737488355328 := Nat.le_trans (Nat.mul_le_mul_right _ (by omega)) hbytes
    have hm0 : m ≠ 0 := by
      intro e0; subst e0
      exact hne (List.eq_nil_of_length_eq_zero (by simpa using hym))
    obtain ⟨b, off, rfl, _, hcc⟩ := hyc hne
    refine wpList_append_grows w hg s x t hop e i z size bytes hund hi hz h4 h5 h6 hpos ao n n xs hs (fun h => ⟨hnone h, hnone h⟩) hxn (fun ad had j u hu => ?_) ⟨b, off, none⟩ m c news hx hym (fun j u hu => by rw [Addr.add_lit]; exact hcc j u hu) h1 (by omega) hb63 hb47 (fun v' w' h h' => ?_)
    · obtain ⟨b', off', hbo, _, hc'⟩ := hxc (fun e => by subst e; simp at hu)
      rw [had] at hbo
      cases hbo
      rw [Addr.add_lit]
      exact hc' j u hu
    · refine K v' w' ⟨n + m, h.1, ?_⟩ ((Below.refl B w).grown h' hB (fun k hk => by cases hk)) ⟨h'.os, h'.tape, h'.output, h'.size, fun k hk _ => h'.block k hk (by simp)⟩
      rcases h.2 with hn | ⟨g, cap, cur, hv, hbg, r⟩
      · exact .inl hn
      · exact .inr ⟨g, cap, cur, hv, by omega, r⟩
theorem wpList_appO_lit {P : Program} {w : World} {ops : Array Oper} {rest : List Oper} {o : Oper} {a : Act} {Q : Exit → Act → World → Prop} {t e : TypeId} {size bytes : Nat} (E : ElemT P t e size bytes)
    (hg : o.guard = none) (s x : Operand) (hop : o.op = Op.call { callee := Callee.builtin Builtin.append, args := #[s, x], argTypes := #[t, t] })
    {B : Nat} {v : Value} {xs : List Value} (hs : a.eval s = v) (happ : App w B e size v xs) {cs : Array Value} {m : Nat} (hx : a.eval x = .slice (some ⟨w.heap.size, 0, none⟩) m m) (hm : cs.size = m * size) (h1 : ∀ u ∈ cs.toList, u.oneCell' = true) (hne : cs.toList ≠ [])
    (hlen : xs.length + cs.size ≤ 9223372036854775807) (hbytes : (xs.length + cs.size) * bytes ≤ 140737488355328) (hB : B ≤ w.heap.size)
    (K : ∀ v' w', Own w' B e size v' (xs ++ cs.toList) → Below B w w' → w.grownBy w' v.ownBlock → wpList P ops Q rest (a.put o.dst v') w') : wpList P ops Q (o :: rest) a (w.alloc (.cells cs e)) := by
  have hmm : m ≤ cs.size := by rw [hm]; exact Nat.le_mul_of_pos_right m E.pos
  refine wpList_appO E hg s x hop hs (happ.below ((Below.refl _ _).alloc (Nat.le_refl _) _)) hx (Sl.made w (fun _ => True) size m e cs hm (by unfold maxLen; omega) trivial) h1 hne (by simpa using hlen) (by simpa using hbytes) (by simp; omega) (fun v' w' h h' h'' => ?_)
  exact K v' w' h (((Below.refl B w).alloc hB _).trans h') (grownBy_of_alloc h'')
theorem wpList_ownO_str {P : Program} {w : World} {ops : Array Oper} {rest : List Oper} {o : Oper} {a : Act} {Q : Exit → Act → World → Prop} {t e u : TypeId} (hund : P.underlying t = some (.slice e)) (hu : P.underlying u = some .string)
    (hinfo : (P.info? e).map (fun i => (i.zero, i.size, i.bytes)) = some (some (.int .u8 0), 1, 1))
    (hg : o.guard = none) (s x : Operand) (hop : o.op = Op.call { callee := Callee.builtin Builtin.append, args := #[s, x], argTypes := #[t, u] })
    {B : Nat} {v : Value} {xs : List Value} (hs : a.eval s = v) (hown : Own w B e 1 v xs) {str : ByteArray} (hx : a.eval x = .string str)
    (hlen : xs.length + str.size ≤ 140737488355328) (hB : B ≤ w.heap.size)
    (K : ∀ v' w', Own w' B e 1 v' (xs ++ Lib.strCells str) → Below B w w' → w.grownBy w' v.ownBlock → wpList P ops Q rest (a.put o.dst v') w') : wpList P ops Q (o :: rest) a w := by
  obtain ⟨i, hi, hz, h4, h5⟩ := info_parts hinfo
  obtain ⟨n, hown⟩ := hown
  have hn : xs.length = n := by simpa using hown.1
  exact Lib.wpList_append_own_string w hg s x t u hop B e i hund hu hi hz h4 h5 v n xs hs hown str hx (by unfold maxLen; omega) (by omega) hB
      (fun v' w' h h' _ => K v' w' ⟨_, h⟩ ((Below.refl B w).grown h' hB (fun k hk => (hown.lt k hk).1)) h')

set_option maxRecDepth 100000 in
set_option maxHeartbeats 400000 in
theorem putO_any (b : Value) (xs : List UInt8) (q : Nat) (w : World) (hb : Sl (· < w.heap.size) w 1 b (bc xs)) (hx : xs.length ≤ 8000000000) (hq : U64 q) :
    Calls Tryz.prog 59 #[b, .int .u64 q] w (fun e w' => ∃ v, e = .returned v ∧ Own w' w.heap.size 5 1 v (bc (xs ++ putB q)) ∧ Below w.heap.size w w') := by
  have hlen := hq.len
  have HX : Hid (bc (xs ++ putB q) = bc xs ++ bc (putB q)) := bc_append _ _
  have hxl := bc_length xs
  generalize bc xs = cs at *
  obtain ⟨ao, n, c, rfl, hn, hnc, hc, hnone, hcell⟩ := id hb
  have hc' : c ≤ 9223372036854775807 := by unfold maxLen at hc; omega
  have hcn : cs.length ≤ 8000000000 := by omega
  have happ0 : App w w.heap.size 5 1 (.slice ao n n) cs := App.full ⟨ao, n, n, rfl, hn, Nat.le_refl _, by omega, fun h => by have := hnone h; omega, hcell⟩
  have HN := Lib.hid hn
  clear hn hcell hb hxl
  go_enter Tryz.func59, Tryz.ntmps59
  go_wp2
  go_loopw [0, 1] (fun bb vv wr => ∃ (r : Nat) (ys : List Value), vv = .int .u64 r ∧ ys ++ bc (putB r) = cs ++ bc (putB q) ∧ App wr w.heap.size 5 1 bb ys ∧ Below w.heap.size w wr) (fun _ vv _ => (intOf vv).toNat)
  case atStart => exact ⟨q, cs, rfl, rfl, happ0, Below.refl _ _⟩
  case round =>
    obtain ⟨r, ys, rfl, hys, happ, hbel⟩ := hrel
    have hyl : ys.length ≤ 8000000010 := by
      have := congrArg List.length hys
      simp only [List.length_append, bc_length] at this
      omega
    have HY := Lib.hid hys
    have hbs := hbel.size
    clear hys
    by_cases hr : r < 128
    all_goals
      go_wp2_with (first | (at_builtin; refine wpList_appO_lit bytesT rfl (.tmp 15) (.tmp 19) rfl rfl happ rfl rfl (by simp [Value.oneCell']) (by simp) (by simp; omega) (by simp; omega) hbs ?_; intro v1 w1 happ1 hb1 _) | (at_builtin; refine wpList_appO_lit bytesT rfl (.tmp 21) (.tmp 24) rfl rfl happ rfl rfl (by simp [Value.oneCell']) (by simp) (by simp; omega) (by simp; omega) hbs ?_; intro v1 w1 happ1 hb1 _))
    · go_ret
      rw [HX.out, ← HY.out, putB_small hr]
      rw [← ofNat_toNat r (by omega)] at happ1
      exact ⟨_, rfl, by rw [show bc [UInt8.ofNat r] = [Value.int .u8 ((UInt8.ofNat r).toNat : Int)] from rfl]; exact happ1, hbel.trans hb1⟩
    · go_roundw
      case rel =>
        rw [or128] at happ1
        exact ⟨r / 128, _, by go_num, by rw [← HY.out, bc_putB_big (show 128 ≤ r by omega), List.append_assoc]; rfl, Own.app happ1, hbel.trans hb1⟩
      case measure => simp [intOf]; omega

set_option maxRecDepth 100000 in
set_option maxHeartbeats 400000 in
theorem putTextO_any (b : Value) (xs : List UInt8) (s : ByteArray) (w : World) (hb : Sl (· < w.heap.size) w 1 b (bc xs)) (hx : xs.length ≤ 7000000000) (hs : s.size ≤ 10000000) :
    Calls Tryz.prog 60 #[b, .string s] w (fun e w' => ∃ v, e = .returned v ∧ Own w' w.heap.size 5 1 v (bc (xs ++ putT s.data.toList)) ∧ Below w.heap.size w w') := by
  have hU : U64 s.size := by unfold U64; omega
  have hw : IntKind.u64.wrap (s.size : Int) = s.size := hU.wrap
  have HP := Lib.hid (putO_any b xs s.size w hb (by omega) hU)
  have hl := hU.len
  go_enter Tryz.func60, Tryz.ntmps60
  go_wp2_with fail
  refine HP.out.mono ?_
  rintro e w1 ⟨v, rfl, happ, hb1⟩
  have hbs := hb1.size
  have hcl := bc_length (xs ++ putB s.size)
  rw [List.length_append] at hcl
  go_wp2_with (at_builtin; refine wpList_ownO_str Tryz.underlying24 Tryz.underlying9 bytesInfo rfl (.tmp 9) (.tmp 10) rfl rfl happ rfl (by omega) hbs ?_; intro v2 w2 happ2 hb2 _)
  go_ret
  refine ⟨_, rfl, ?_, hb1.trans hb2⟩
  rw [show bc (xs ++ putT s.data.toList) = bc (xs ++ putB s.size) ++ Lib.strCells s from by rw [putT, size_data, ← List.append_assoc, bc_append (xs ++ putB s.size)]; rfl]
  exact happ2

end Go.Proofs.YtmmeofiocbfamaaGreatDoor
