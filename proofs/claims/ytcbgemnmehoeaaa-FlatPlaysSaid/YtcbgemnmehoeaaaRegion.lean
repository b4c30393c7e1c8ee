/- A region whose order is open, walked in one order: whatever yields its value in every world that has only grown is taken where it stands; a call is made where nothing else may come up. No condition: lemmas. -/
import Derived.Test.YtcbgemnmehoeaaaBase
import Derived.Deep.RegionHeld
namespace Go.Proofs.Ytcbgemnmehoeaaa
open Go Go.RowKit

/-- W is w with new blocks. -/
def Ext (w W : World) : Prop := Below w.heap.size w W
theorem Ext.refl (w : World) : Ext w w := Below.refl _ _
theorem Ext.trans {a b c : World} (h : Ext a b) (k : Ext b c) : Ext a c := Below.trans h (Below.mono k (Below.size h))
theorem Ext.drew (w : World) : Ext w w.drew := (Below.refl _ _).drew
theorem Ext.alloc (w : World) (o : Obj) : Ext w (w.alloc o) := (Below.refl _ _).alloc (Nat.le_refl _) o
theorem Ext.same {w W : World} (h : Ext w W) : Same (· < w.heap.size) w W := Same.below h
theorem Ext.size {w W : World} (h : Ext w W) : w.heap.size ≤ W.heap.size := Below.size h
theorem Ext.cell {w W : World} (h : Ext w W) {a : Addr} {v : Value} (hc : w.cell? a = some v) : W.cell? a = some v := (Below.cell h (World.block_lt_of_cell? w a hc)).trans hc

section
variable {P : Program} {ops : Array Oper} {Q : Exit → Act → World → Prop}

/-- May the schedule be followed: what is taken may come up and stands apart from what has not come up; what is made comes up alone. -/
def schedOk (ops : Array Oper) : List (Nat × Bool) → Array Bool → Bool
  | [], l => (Region.ready .any ops l).isEmpty
  | (i, true) :: r, l => Region.free .any ops l i && (Region.ready .any ops l).contains i && schedOk ops r (l.setIfInBounds i true)
  | (i, false) :: r, l => Region.ready .any ops l == [i] && schedOk ops r (l.setIfInBounds i true)

/-- What is to be shown along the schedule. -/
def Walk (P : Program) (ops : Array Oper) (Q : Exit → Act → World → Prop) : List (Nat × Bool) → Act → World → Prop
  | [], a, w => Q .normal a w
  | (i, true) :: r, a, w => ∃ o v, ops[i]? = some o ∧ YieldsIf P ops (Ext w) o v a ∧ Walk P ops Q r (a.put o.dst v) w
  | (i, false) :: r, a, w => ∃ o, ops[i]? = some o ∧ ∀ K' : Act → World → Prop, Shut (∀ a' w', Ext w w' → Walk P ops Q r a' w' → K' a' w') →
      if Region.wanted o (yielded ops a.tmps) = true then Oper.wp P o a w K' Q else K' (a.put o.dst undef) w

theorem wpOp_mono' {i : Nat} {K K' : Act → World → Prop} {a : Act} {w : World} (hk : ∀ a w, K a w → K' a w) (h : wpOp P ops Q i K a w) : wpOp P ops Q i K' a w := wpOp_mono hk h

theorem wpAnyH_mono {md : Region.Mode} {S S' : World → Prop} (hs : ∀ x, S' x → S x) : ∀ (fuel : Nat) (l : Array Bool) (a : Act) (w : World), wpAnyH P md ops Q S' fuel l a w → wpAnyH P md ops Q S fuel l a w
  | 0, _, _, _, h => h
  | fuel + 1, _, _, _, h => ⟨h.1, fun i hi => wpOp_mono' (fun a' w' h' => ⟨hs _ h'.1, wpAnyH_mono hs fuel _ a' w' h'.2⟩) (h.2 i hi)⟩

theorem walk_sound (hns : Region.noSelect ops = true) (hQ : ∀ c a d v w, Q (.panic c) (Act.put a d v) w → Q (.panic c) a w) :
    ∀ (s : List (Nat × Bool)) (k : Nat) (l : Array Bool) (a : Act) (w : World), schedOk ops s l = true → Walk P ops Q s a w → wpAnyH P .any ops Q (Ext w) (s.length + k) l a w
  | [], k, l, a, w, hok, h => wpAnyH_done (by simpa [schedOk] using hok) h _
  | (i, true) :: r, k, l, a, w, hok, ⟨o, v, ho, hy, h⟩ => by
    simp only [schedOk, Bool.and_eq_true] at hok
    have := walk_sound hns hQ r k (l.setIfInBounds i true) (a.put o.dst v) w hok.2 h
    rw [List.length_cons, Nat.add_right_comm]
    exact wpAnyH_take ho hns hok.1.1 hok.1.2 (fun c a w => hQ c a _ _ w) hy (Ext.refl w) this
  | (i, false) :: r, k, l, a, w, hok, ⟨o, ho, h⟩ => by
    simp only [schedOk, Bool.and_eq_true] at hok
    rw [List.length_cons, Nat.add_right_comm]
    refine wpAnyH_all (rs := [i]) (by simpa using hok.1) (by simp) (fun j hj => ?_)
    obtain rfl : j = i := by simpa using hj
    refine wpOp_step ho (fun K' hK => h K' (fun a' w' he hw => hK a' w' ⟨he, ?_⟩))
    exact wpAnyH_mono (fun x hx => he.trans hx) _ _ _ _ (walk_sound hns hQ r k (l.setIfInBounds j true) a' w' hok.2 hw)

/-- The beginning. -/
theorem region_walk {id : Nat} {a : Act} {w : World} (s : List (Nat × Bool)) (hm : P.follows .mixedOrders = true) (hns : Region.noSelect ops = true)
    (hok : schedOk ops s (Array.replicate ops.size false) = true) (hlen : s.length = ops.size) (hQ : ∀ c a d v w, Q (.panic c) (Act.put a d v) w → Q (.panic c) a w)
    (h : Walk P ops Q s a w.drew) : (Code.region id ops true).wp P Q a w := by
  refine wp_region_held (S := Ext w.drew) hm ?_
  have := walk_sound hns hQ s 0 _ a w.drew hok h
  rwa [Nat.add_zero, hlen] at this

theorem Walk.take {i : Nat} {r : List (Nat × Bool)} {a : Act} {w : World} (o : Oper) (v : Value) (ho : ops[i]? = some o) (hw : Region.wanted o (yielded ops a.tmps) = true)
    (hy : ∀ W, Ext w W → (execOp a.eval o).run P W = .ok (.value v) W) (h : Walk P ops Q r (a.put o.dst v) w) : Walk P ops Q ((i, true) :: r) a w := ⟨o, v, ho, .inl ⟨hw, hy⟩, h⟩

theorem Walk.pass {i : Nat} {r : List (Nat × Bool)} {a : Act} {w : World} (o : Oper) (ho : ops[i]? = some o) (hw : Region.wanted o (yielded ops a.tmps) = false)
    (h : Walk P ops Q r (a.put o.dst undef) w) : Walk P ops Q ((i, true) :: r) a w := ⟨o, undef, ho, .inr ⟨hw, rfl⟩, h⟩

theorem Walk.make {i : Nat} {r : List (Nat × Bool)} {a : Act} {w : World} (o : Oper) (ho : ops[i]? = some o) (hw : Region.wanted o (yielded ops a.tmps) = true)
    (h : ∀ K' : Act → World → Prop, Shut (∀ a' w', Ext w w' → Walk P ops Q r a' w' → K' a' w') → Oper.wp P o a w K' Q) : Walk P ops Q ((i, false) :: r) a w := ⟨o, ho, fun K' hK => by rw [if_pos hw]; exact h K' hK⟩
end

end Go.Proofs.Ytcbgemnmehoeaaa
