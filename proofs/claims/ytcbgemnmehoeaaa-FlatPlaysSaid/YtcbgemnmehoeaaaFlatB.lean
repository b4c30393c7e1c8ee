/- Points in order; slices.SortFunc at points and at subjects. No condition: lemmas. -/
import Derived.Test.YtcbgemnmehoeaaaFlatA
import Derived.Test.YtcbgemnmehoeaaaSort
import Derived.Test.YtcbgemnmehoeaaaShelf
namespace Go.Proofs.Ytcbgemnmehoeaaa
open Go Go.RowKit

/-- Is a point less? -/
def ltP (a b : P3) : Bool := if a.t = b.t then (if a.i = b.i then ltS a.r b.r else ltS a.i b.i) else ltS a.t b.t
theorem lt_ordP (a b : P3) : Go.Proofs.ltOf ordP a b = ltP a b := by
  unfold Go.Proofs.ltOf ordP ltP
  rw [Bool.eq_iff_iff, decide_eq_true_eq]
  simp only [orL, cmpS_zero]
  by_cases h1 : a.t = b.t
  · simp only [h1, if_true]
    by_cases h2 : a.i = b.i
    · simp only [h2, if_true]
      by_cases h3 : a.r = b.r
      · simp [h3, ltS_irr]
      · simp only [h3, if_false]; exact cmpS_neg _ _
    · simp only [h2, if_false]; exact cmpS_neg _ _
  · simp only [h1, if_false]; exact cmpS_neg _ _
theorem ltS_asym {a b : ByteArray} (h : ltS a b = true) : ltS b a = false := by
  cases k : ltS b a with
  | false => rfl
  | true => have := ltS_trans h k; rw [ltS_irr] at this; cases this
theorem ltP_irr (a : P3) : ltP a a = false := by simp [ltP, ltS_irr]
theorem ltP_total {a b : P3} (h : ltP a b = false) (hne : a ≠ b) : ltP b a = true := by
  unfold ltP at *
  by_cases h1 : a.t = b.t
  · rw [if_pos h1] at h
    rw [if_pos h1.symm]
    by_cases h2 : a.i = b.i
    · rw [if_pos h2] at h
      rw [if_pos h2.symm]
      refine ltS_total h fun h3 => hne ?_
      cases a; cases b; simp_all
    · rw [if_neg h2] at h
      rw [if_neg (Ne.symm h2)]
      exact ltS_total h h2
  · rw [if_neg h1] at h
    rw [if_neg (Ne.symm h1)]
    exact ltS_total h h1
theorem ltS_ne {a b : ByteArray} (h : ltS a b = true) : a ≠ b := by
  rintro rfl
  rw [ltS_irr] at h
  cases h
theorem ltP_trans {a b c : P3} (h : ltP a b = true) (k : ltP b c = true) : ltP a c = true := by
  unfold ltP at *
  by_cases h1 : a.t = b.t <;> by_cases k1 : b.t = c.t
  · rw [if_pos h1] at h
    rw [if_pos k1] at k
    rw [if_pos (h1.trans k1)]
    by_cases h2 : a.i = b.i <;> by_cases k2 : b.i = c.i
    · rw [if_pos h2] at h
      rw [if_pos k2] at k
      rw [if_pos (h2.trans k2)]
      exact ltS_trans h k
    · rw [if_neg k2] at k
      rw [if_neg (h2 ▸ k2), h2]
      exact k
    · rw [if_neg h2] at h
      rw [if_neg (k2 ▸ h2), ← k2]
      exact h
    · rw [if_neg h2] at h
      rw [if_neg k2] at k
      have := ltS_trans h k
      rw [if_neg (ltS_ne this)]
      exact this
  · rw [if_neg k1] at k
    rw [if_neg (h1 ▸ k1), h1]
    exact k
  · rw [if_neg h1] at h
    rw [if_neg (k1 ▸ h1), ← k1]
    exact h
  · rw [if_neg h1] at h
    rw [if_neg k1] at k
    have := ltS_trans h k
    rw [if_neg (ltS_ne this)]
    exact this
theorem swoP : Go.Sort.SWO (Go.Proofs.ltOf ordP) where
  irrefl x := by rw [lt_ordP]; exact ltP_irr x
  trans x y z h k := by rw [lt_ordP] at *; exact ltP_trans h k
  ntrans x y z h k := by
    rw [lt_ordP] at *
    cases hxz : ltP x z with
    | false => rfl
    | true =>
      by_cases e1 : x = y
      · subst e1; rw [hxz] at k; cases k
      · have h1 := ltP_total h e1
        have h2 := ltP_trans h1 hxz
        rw [h2] at k
        cases k

/-- Points in order, each once. -/
def UpP (l : List P3) : Prop := l.Pairwise fun a b => ltP a b = true

theorem up_sorted {l : List P3} (hs : l.Pairwise fun a b => Go.Proofs.ltOf ordP b a = false) (hn : l.Nodup) : UpP l := by
  refine List.pairwise_iff_getElem.2 fun i j hi hj hij => ?_
  have h1 := List.pairwise_iff_getElem.1 hs i j hi hj hij
  have h2 := List.pairwise_iff_getElem.1 hn i j hi hj hij
  rw [lt_ordP] at h1
  exact ltP_total h1 (Ne.symm h2)

theorem sortP_any {w : World} {B : Nat} {v : Value} {l : List P3} (h : Own w B 37 3 v (pcs l)) (hl : l.length < 4611686018427387904) (hn : l.Nodup) :
    Calls Try.prog 33 #[v, .func (.func 30) #[] #[]] w fun e w' => e = .returned (.tuple #[]) ∧ ∃ l' : List P3, l'.Perm l ∧ UpP l' ∧ Own w' B 37 3 v (pcs l') ∧ Kept (fun b => b < w.heap.size ∧ v.ownBlock ≠ some b) w w' := by
  refine Calls.mono (sort_own Try.sortP pC 3 pC_length (by decide) pC_one Try.isAgg37 Try.sizeOf37 ordP swoP 30 #[] (enters_of Try.func30 (by kernel_rfl) rfl) (fun W x y => order_any x y W) h hl) ?_
  rintro e w' ⟨rfl, l', hp, hs, ho, hk⟩
  exact ⟨rfl, l', hp, up_sorted hs (hp.nodup_iff.2 hn), ho, hk⟩

end Go.Proofs.Ytcbgemnmehoeaaa
