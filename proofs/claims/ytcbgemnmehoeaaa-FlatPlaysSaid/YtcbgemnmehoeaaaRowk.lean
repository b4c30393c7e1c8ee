/- Slices whose elements take several cells each. No condition: lemmas. -/
import Derived.Test.YtcbgemnmehoeaaaKept
import Derived.Sort.Grow
import Derived.Deep.Draws
namespace Go.Proofs.Ytcbgemnmehoeaaa
open Go Go.RowKit

theorem flat_length {α : Type} {enc : α → List Value} {sz : Nat} (hk : ∀ a, (enc a).length = sz) : ∀ l : List α, (l.flatMap enc).length = l.length * sz
  | [] => by simp
  | a :: l => by rw [List.flatMap_cons, List.length_append, flat_length hk l, hk, List.length_cons, Nat.add_mul, Nat.one_mul, Nat.add_comm]
theorem flat_get {α : Type} {enc : α → List Value} {sz : Nat} (hk : ∀ a, (enc a).length = sz) : ∀ (l : List α) (i : Nat) (h : i < l.length) (j : Nat), j < sz → (l.flatMap enc)[i * sz + j]? = (enc l[i])[j]?
  | a :: l, 0, _, j, hj => by rw [List.flatMap_cons, Nat.zero_mul, Nat.zero_add, List.getElem?_append_left (by rw [hk]; exact hj)]; rfl
  | a :: l, i + 1, h, j, hj => by
    rw [List.flatMap_cons, List.getElem?_append_right (by rw [hk, Nat.add_mul]; omega), hk, show (i + 1) * sz + j - sz = i * sz + j from by rw [Nat.add_mul]; omega]
    exact flat_get hk l i (by simpa using h) j hj

theorem Sl.rows {α : Type} {enc : α → List Value} {sz : Nat} (hk : ∀ a, (enc a).length = sz) (hpos : 0 < sz) {S : Nat → Prop} {w : World} {v : Value} {l : List α} (h : Sl S w sz v (l.flatMap enc)) :
    ∃ ao c, v = .slice ao l.length c ∧ l.length ≤ c ∧ c ≤ 9223372036854775807 ∧
      (0 < l.length → ∃ b off, ao = some ⟨b, off, none⟩ ∧ S b ∧ ∀ i (hi : i < l.length) (j : Nat) u, (enc l[i])[j]? = some u → w.cell? ⟨b, off + i * sz + j, none⟩ = some u) := by
  obtain ⟨ao, n, c, rfl, h1, h2, h3, h4, h5⟩ := h
  rw [flat_length hk] at h1
  obtain rfl : l.length = n := Nat.eq_of_mul_eq_mul_right hpos h1
  refine ⟨ao, c, rfl, h2, by unfold maxLen at h3; omega, fun hl => ?_⟩
  obtain ⟨b, off, rfl, hb, hc⟩ := h5 (fun e => by
    have := congrArg List.length e
    rw [flat_length hk, List.length_nil] at this
    have := Nat.mul_pos hl hpos
    omega)
  refine ⟨b, off, rfl, hb, fun i hi j u hu => ?_⟩
  rw [Nat.add_assoc]
  refine hc (i * sz + j) u ?_
  rw [flat_get hk l i hi j (by rw [← hk l[i]]; exact (List.getElem?_eq_some_iff.1 hu).1)]
  exact hu

theorem upto_succ {n i : Nat} {p : (j : Nat) → j < n → Prop} (h : ∀ j (hj : j < n), j < i → p j hj) (hi : i < n) (hp : p i hi) : ∀ j (hj : j < n), j < i + 1 → p j hj :=
  fun j hj hl => (Nat.lt_succ_iff_lt_or_eq.1 hl).elim (fun e => h j hj e) (fun e => by subst e; exact hp)

theorem ba_beq' {a b : ByteArray} (h : a ≠ b) : (a.data.toList == b.data.toList) = false := by
  rw [beq_eq_false_iff_ne]
  exact fun e => h (ByteArray.ext (by rw [← Array.toList_inj]; exact e))

/-- It returns v; nothing that was there has turned. -/
def Ret (v : Value) (w : World) (e : Ending) (w' : World) : Prop := e = .returned v ∧ Below w.heap.size w w'
/-- The world has drawn and has new blocks, no more. -/
def Gr (w w' : World) : Prop := ∃ q os, w' = Sort.grow (w.drewN q) os
theorem Gr.refl (w : World) : Gr w w := ⟨0, #[], by simp [Sort.grow, World.drewN]⟩
theorem Gr.alloc {w w' : World} (h : Gr w w') (o : Obj) : Gr w (w'.alloc o) := by
  obtain ⟨q, os, rfl⟩ := h
  exact ⟨q, os ++ #[o], by rw [Sort.alloc_eq_grow, Sort.grow_grow]⟩
theorem Gr.drew {w w' : World} (h : Gr w w') : Gr w w'.drew := by
  obtain ⟨q, os, rfl⟩ := h
  exact ⟨q + 1, os, rfl⟩
theorem Gr.below {w w' : World} (h : Gr w w') : Below w.heap.size w w' := by
  obtain ⟨q, os, rfl⟩ := h
  exact ⟨rfl, rfl, rfl, by simp [Sort.grow, World.drewN], fun k hk => by simp [Sort.grow, World.drewN, Array.getElem?_append, hk]⟩
theorem below_step {a b c : World} (h : Below a.heap.size a b) (k : Below b.heap.size b c) : Below a.heap.size a c := h.trans (k.mono h.size)
theorem Sl.up {w w' : World} {sz : Nat} {v : Value} {xs : List Value} (h : Sl (· < w.heap.size) w sz v xs) (hb : Below w.heap.size w w') : Sl (· < w'.heap.size) w' sz v xs :=
  (h.same (Same.below hb)).mono fun _ hx => Nat.lt_of_lt_of_le hx hb.size

end Go.Proofs.Ytcbgemnmehoeaaa
