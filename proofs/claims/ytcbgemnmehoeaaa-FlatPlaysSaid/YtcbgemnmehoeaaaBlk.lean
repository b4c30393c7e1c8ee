/- A block that a call made, known whole. No condition: lemmas. -/
import Derived.Test.YtcbgemnmehoeaaaBase
namespace Go.Proofs.Ytcbgemnmehoeaaa
open Go Go.RowKit

/-- Block B holds just these cells, none frozen. -/
def Blk (w : World) (B : Nat) (cs : Array Value) (e : TypeId) : Prop := w.heap[B]? = some (.cells cs e (0, 0))

section
variable {w W : World} {B : Nat} {cs : Array Value} {e : TypeId}
theorem Blk.made (w : World) (cs : Array Value) (e : TypeId) : Blk (w.alloc (.cells cs e)) w.heap.size cs e := heap_alloc_new w _
theorem Blk.made' {w : World} {B : Nat} (h : w.heap.size = B) (cs : Array Value) (e : TypeId) : Blk (w.alloc (.cells cs e)) B cs e := h ▸ Blk.made w cs e
theorem Blk.lt (h : Blk w B cs e) : B < w.heap.size := (Array.getElem?_eq_some_iff.1 h).1
theorem Blk.same {S : Nat → Prop} (h : Blk w B cs e) (hs : Same S w W) (hB : S B) : Blk W B cs e := (hs B hB).trans h
theorem Blk.below (h : Blk w B cs e) (hb : Below w.heap.size w W) : Blk W B cs e := (hb.block B h.lt).trans h
theorem Blk.alloc (h : Blk w B cs e) (o : Obj) : Blk (w.alloc o) B cs e := (Below.heap_alloc w o B h.lt).trans h
theorem Blk.drew (h : Blk w B cs e) : Blk w.drew B cs e := h
theorem Blk.cells (h : Blk w B cs e) : ∀ i, w.cell? ⟨B, i, none⟩ = cs[i]? := fun i => cell_of_row w B i cs e (0, 0) h
theorem Blk.free (h : Blk w B cs e) : ∀ i, w.frozen? ⟨B, i, none⟩ = false := fun i => frozen_of_row w B i cs e h
theorem Blk.set (h : Blk w B cs e) (i : Nat) (v : Value) : Blk (w.setCell ⟨B, i, none⟩ v) B (cs.setIfInBounds i v) e := heap_setCell_same w B i cs e v h
theorem Blk.other (h : Blk w B cs e) {a : Addr} (ha : B ≠ a.block) (v : Value) : Blk (w.setCell a v) B cs e := (Below.heap_setCell w a v B ha).trans h
end

theorem setAt {B i : Nat} {w w' : World} {v : Value} (h : Below B w w') : Below B w (w'.setCell ⟨B, i, none⟩ v) := h.setCell (Nat.le_refl B) v

end Go.Proofs.Ytcbgemnmehoeaaa
