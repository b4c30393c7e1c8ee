/- A world behind a call that has turned nothing but what it may. No condition: lemmas. -/
import Derived.Test.YtcbgemnmehoeaaaBlk
namespace Go.Proofs.Ytcbgemnmehoeaaa
open Go Go.RowKit

/-- What lies in K has not turned. -/
structure Kept (K : Nat → Prop) (w w' : World) : Prop where
  os : w'.os = w.os
  tape : w'.tape = w.tape
  output : w'.output = w.output
  size : w.heap.size ≤ w'.heap.size
  block : ∀ b, K b → w'.heap[b]? = w.heap[b]?

section
variable {K : Nat → Prop} {w w' w'' : World} {B : Nat}
theorem Kept.refl (K : Nat → Prop) (w : World) : Kept K w w := ⟨rfl, rfl, rfl, Nat.le_refl _, fun _ _ => rfl⟩
theorem Kept.trans (h : Kept K w w') (k : Kept K w' w'') : Kept K w w'' :=
  ⟨k.os.trans h.os, k.tape.trans h.tape, k.output.trans h.output, Nat.le_trans h.size k.size, fun b hb => (k.block b hb).trans (h.block b hb)⟩
theorem Kept.mono {J : Nat → Prop} (h : Kept K w w') (hj : ∀ b, J b → K b) : Kept J w w' := ⟨h.os, h.tape, h.output, h.size, fun b hb => h.block b (hj b hb)⟩
theorem Below.kept (h : Below B w w') (hk : ∀ b, K b → b < B) : Kept K w w' := ⟨h.os, h.tape, h.output, h.size, fun b hb => h.block b (hk b hb)⟩
theorem Kept.below (h : Kept K w w') (hk : ∀ b, b < B → K b) : Below B w w' := ⟨h.os, h.tape, h.output, h.size, fun b hb => h.block b (hk b hb)⟩
theorem Kept.alloc (h : Kept K w w') (hk : ∀ b, K b → b < w'.heap.size) (o : Obj) : Kept K w (w'.alloc o) := h.trans (Below.kept ((Below.refl _ _).alloc (Nat.le_refl _) o) hk)
theorem Kept.set (h : Kept K w w') {a : Addr} (ha : ¬ K a.block) (v : Value) : Kept K w (w'.setCell a v) :=
  h.trans ⟨rfl, rfl, rfl, Nat.le_of_eq (by simp), fun b hb => Below.heap_setCell w' a v b (fun e => ha (e ▸ hb))⟩
theorem Kept.drew (h : Kept K w w') : Kept K w w'.drew := ⟨h.os, h.tape, h.output, h.size, h.block⟩
theorem Kept.drewN (h : Kept K w w') (n : Nat) : Kept K w (w'.drewN n) := ⟨h.os, h.tape, h.output, h.size, h.block⟩
theorem Blk.drewN {cs : Array Value} {e : TypeId} (h : Blk w B cs e) (n : Nat) : Blk (w.drewN n) B cs e := h
theorem Blk.set_to {cs cs' : Array Value} {e : TypeId} (h : Blk w B cs e) (i : Nat) (v : Value) (he : cs.setIfInBounds i v = cs') : Blk (w.setCell ⟨B, i, none⟩ v) B cs' e := he ▸ h.set i v
theorem Kept.blk (h : Kept K w w') {cs : Array Value} {e : TypeId} (hB : Blk w B cs e) (hk : K B) : Blk w' B cs e := (h.block B hk).trans hB
end

end Go.Proofs.Ytcbgemnmehoeaaa
