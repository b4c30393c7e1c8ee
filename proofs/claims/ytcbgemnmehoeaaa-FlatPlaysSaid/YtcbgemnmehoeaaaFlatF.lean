/- The iterator over a nil map's keys: it gives nothing. No condition: lemmas. -/
import Derived.Test.YtcbgemnmehoeaaaFlatE
import Derived.Sort.KeysCollected
namespace Go.Proofs.Ytcbgemnmehoeaaa
open Go Go.RowKit Go.Maps Go.Sort

set_option maxRecDepth 100000 in
set_option maxHeartbeats 1000000 in
theorem keysS_nil (F : Fence) (n : Nat) (hf : F.fn 39) (hro : F.round = none) (Bm : Nat) (w : World) (hBm : Bm < w.heap.size) (hm : w.cell? ⟨Bm, 0, none⟩ = some (.map none)) :
    SeqStopsK F n Try.prog 39 #[.pointer (some ⟨Bm, 0, none⟩)] (fun x : P3 => #[pV x]) KeepsWalks (fun ss : List P3 => ss = []) (fun _ => True) 0 w := fun l J Jx W hW hJ _ _ h0 => by
  have hmW := (hW.cell (p := ⟨Bm, 0, none⟩) hBm).trans hm
  clear hm hW
  refine callsIn_of_wp Try.func39 rfl hf ?_ hro
  simp only [Try.ntmps39, List.size_toArray, List.length_cons, List.length_nil, Nat.reduceAdd, Nat.reduceSub, Array.replicate_succ, Array.replicate_zero, List.push_toArray, List.append_toArray, List.nil_append, List.cons_append]
  have hrg := run_range_nilMap (P := Try.prog) W 63 30 4 Try.underlying63
  have hnx : ∀ ty, (Instr.next (.pointer (some ⟨W.heap.size, 0, none⟩)) false ty).run Try.prog (W.alloc (.mapIter none 0 #[] 0)) = _ := fun ty => run_next_nilMap _ ty 0 0 #[]
  gi_wp2
  refine wpIn_loop_rounds 1 ?_
  rw [roundsIn_succ]
  gi_wp2
  go_end0
  exact ⟨⟨_, rfl⟩, .inl ⟨[], rfl, hJ [] W _ none h0 (World.grownBy_alloc W _ none) (fun r e => by cases e)⟩⟩

set_option maxRecDepth 100000 in
set_option maxHeartbeats 1000000 in
theorem keysP_nil (F : Fence) (n : Nat) (hf : F.fn 60) (hro : F.round = none) (Bm : Nat) (w : World) (hBm : Bm < w.heap.size) (hm : w.cell? ⟨Bm, 0, none⟩ = some (.map none)) :
    SeqStopsK F n Try.prog 60 #[.pointer (some ⟨Bm, 0, none⟩)] (fun x : P3 => #[pV x]) KeepsWalks (fun ss : List P3 => ss = []) (fun _ => True) 0 w := fun l J Jx W hW hJ _ _ h0 => by
  have hmW := (hW.cell (p := ⟨Bm, 0, none⟩) hBm).trans hm
  clear hm hW
  refine callsIn_of_wp Try.func60 rfl hf ?_ hro
  simp only [Try.ntmps60, List.size_toArray, List.length_cons, List.length_nil, Nat.reduceAdd, Nat.reduceSub, Array.replicate_succ, Array.replicate_zero, List.push_toArray, List.append_toArray, List.nil_append, List.cons_append]
  have hrg := run_range_nilMap (P := Try.prog) W 77 37 4 Try.underlying77
  have hnx : ∀ ty, (Instr.next (.pointer (some ⟨W.heap.size, 0, none⟩)) false ty).run Try.prog (W.alloc (.mapIter none 0 #[] 0)) = _ := fun ty => run_next_nilMap _ ty 0 0 #[]
  gi_wp2
  refine wpIn_loop_rounds 1 ?_
  rw [roundsIn_succ]
  gi_wp2
  go_end0
  exact ⟨⟨_, rfl⟩, .inl ⟨[], rfl, hJ [] W _ none h0 (World.grownBy_alloc W _ none) (fun r e => by cases e)⟩⟩

end Go.Proofs.Ytcbgemnmehoeaaa
