/- The walk of sentrylaw02.CodecOrder: true for whatever two entries. No condition: lemmas. -/
import Derived.Test.YtkllfdfipkcddaaDoorCodecG
import Derived.Test.YtkllfdfipkcddaaDoorRefLess
import Derived.Test.YtkllfdfipkcddaaDoorRegion
namespace Go.Proofs.YtkllfdfipkcddaaDoor
open Go Go.RowKit

theorem inner_length (k : ByteArray) (r : Nat) (d : Bool) (h : k.size ≤ 1000000) : (innerB k.data.toList r d).length ≤ 100000000 := by
  have := esc_length k.data.toList
  rw [size_data] at this
  simp only [innerB, List.length_append, List.length_cons, List.length_nil, be8]
  omega

set_option maxRecDepth 100000 in
set_option maxHeartbeats 1600000 in
/-- What the comparison of two entries, one by one, is to the walk: the three facts that decide it. -/
theorem order_law (k1 : ByteArray) (r1 : Nat) (d1 : Bool) (k2 : ByteArray) (r2 : Nat) (d2 : Bool) (w : World) (henv : Env w) (h1 : U64 r1) (h2 : U64 r2) :
    Calls Tryd.prog 4 #[entV k1 r1 d1, entV k2 r2 d2] w (RetV (.bool true) w) := by
  have hless := inner_less k1.data.toList r1 d1 k2.data.toList r2 d2 h1 h2

  unfold entV
  have hb00 : Below w.heap.size w ((w.alloc (.cells #[Value.string k1, Value.int IntKind.u64 r1, Value.bool d1] 31)).alloc (.cells #[Value.string k2, Value.int IntKind.u64 r2, Value.bool d2] 31)) :=
    ((Below.refl _ _).alloc (Nat.le_refl _) _).alloc (by simp) _
  have hA0 : Blk ((w.alloc (.cells #[Value.string k1, Value.int IntKind.u64 r1, Value.bool d1] 31)).alloc (.cells #[Value.string k2, Value.int IntKind.u64 r2, Value.bool d2] 31)) w.heap.size #[Value.string k1, Value.int IntKind.u64 r1, Value.bool d1] 31 := (Blk.made w _ _).alloc _
  have hC0 : Blk ((w.alloc (.cells #[Value.string k1, Value.int IntKind.u64 r1, Value.bool d1] 31)).alloc (.cells #[Value.string k2, Value.int IntKind.u64 r2, Value.bool d2] 31)) (w.heap.size + 1) #[Value.string k2, Value.int IntKind.u64 r2, Value.bool d2] 31 := by
    have := Blk.made (w.alloc (.cells #[Value.string k1, Value.int IntKind.u64 r1, Value.bool d1] 31)) #[Value.string k2, Value.int IntKind.u64 r2, Value.bool d2] 31
    rwa [show (w.alloc (.cells #[Value.string k1, Value.int IntKind.u64 r1, Value.bool d1] 31)).heap.size = w.heap.size + 1 from by simp] at this
  have henv0 := henv.below hb00
  have HL := Lib.hid hless

  clear hless
  by_cases hk : k1.size ≤ 2000 ∧ k2.size ≤ 2000
  · obtain ⟨hk1, hk2⟩ := hk
    go_enter Tryd.func4, Tryd.ntmps4
    go_wp2_with fail
    refine (fixed02 _ henv0).mono ?_
    rintro e w1 ⟨rfl, hb1⟩
    have hb01 := hb00.trans (hb1.mono (by simp; omega))
    have hA1 := hA0.below hb1
    have hC1 := hC0.below hb1
    have hca := hA1.cells
    have hcc := hC1.cells
    go_wp2_with fail
    have hra : ∀ W, Ext w1 W → ∀ i, W.cell? ⟨w.heap.size, i, none⟩ = (#[Value.string k1, Value.int IntKind.u64 r1, Value.bool d1] : Array Value)[i]? := fun W h => (hA1.below h).cells
    have hrc : ∀ W, Ext w1 W → ∀ i, W.cell? ⟨w.heap.size + 1, i, none⟩ = (#[Value.string k2, Value.int IntKind.u64 r2, Value.bool d2] : Array Value)[i]? := fun W h => (hC1.below h).cells
    have hE : Ext w1 w1.drew := Ext.drew w1
    clear hca hcc
    refine region_walk [(0, true), (2, true), (1, false), (3, false), (4, true), (5, true)] (by kernel_rfl) (by kernel_rfl) (by kernel_rfl) rfl (fun _ _ d _ _ h => by cases d <;> exact h) ?_
    iterate 2 ((refine Walk.take _ ?_ (by simp only [List.getElem?_toArray, List.getElem?_cons_succ, List.getElem?_cons_zero]; rfl) (by rfl) (fun W hW => ?_) ?_; rotate_left; · (have hE0 := hE.trans hW; go_simp; try with_reducible rfl)); simp only [Act.put, List.setIfInBounds_toArray, List.set_cons_zero, List.set_cons_succ])
    refine Walk.make _ (by simp only [List.getElem?_toArray, List.getElem?_cons_succ, List.getElem?_cons_zero]; rfl) (by rfl) (fun K hK => ?_); go_simp
    refine (inner_any k1 r1 d1 _ h1 (henv.below (hb01.drew)) (by omega)).mono ?_
    rintro e w2 ⟨rfl, hb2⟩
    refine hK.out _ _ hb2 ?_
    have hE := hE.trans hb2
    clear hK
    refine Walk.make _ (by simp only [List.getElem?_toArray, List.getElem?_cons_succ, List.getElem?_cons_zero]; rfl) (by rfl) (fun K hK => ?_); go_simp
    refine (inner_any k2 r2 d2 _ h2 (henv.below (hb01.trans (hE.mono hb01.size))) (by omega)).mono ?_
    rintro e w3 ⟨rfl, hb3⟩
    refine hK.out _ _ hb3 ?_
    have hE := hE.trans hb3
    clear hK
    iterate 2 ((refine Walk.take _ ?_ (by simp only [List.getElem?_toArray, List.getElem?_cons_succ, List.getElem?_cons_zero]; rfl) (by rfl) (fun W hW => ?_) ?_; rotate_left; · (have hE0 := hE.trans hW; go_simp; try with_reducible rfl)); simp only [Act.put, List.setIfInBounds_toArray, List.set_cons_zero, List.set_cons_succ])
    unfold Walk
    have hA3 := hA1.below hE
    have hC3 := hC1.below hE
    have hca := hA3.cells
    have hcc := hC3.cells
    have hb03 := hb01.trans (hE.mono hb01.size)
    clear hra hrc
    go_wp2_with fail
    refine (refLess_any k1 r1 d1 k2 r2 d2 _).mono ?_
    rintro e w4 ⟨rfl, hb4⟩
    have hA4 := hA3.below hb4
    have hC4 := hC3.below hb4
    have hca := hA4.cells
    have hcc := hC4.cells
    have hb04 := hb03.trans (hb4.mono hb03.size)
    have hl := HL.out
    go_wp2_with fail
    all_goals
      go_ret
      refine ⟨congrArg (fun b => Ending.returned (Value.bool b)) ?_, hb04⟩
      rw [inner_eq _ _ _ _ _ _ h1 h2, ← ByteArray.toList_eq, ← ByteArray.toList_eq]
      clear hl HL hb04 hb4 hA0 hC0 henv henv0 hb00 hb1 hA1 hC1 hA3 hC3 hA4 hC4 hca hcc hE
      simp_all <;> first | omega | (left; omega)
  · have hor : 2000 < k1.size ∨ (k1.size ≤ 2000 ∧ 2000 < k2.size) := by omega
    clear hk
    rcases hor with hk1 | ⟨hk1, hk2⟩
    all_goals
      go_enter Tryd.func4, Tryd.ntmps4
      go_wp2_with fail
      refine (fixed02 _ henv0).mono ?_
      rintro e w1 ⟨rfl, hb1⟩
      have hca := (hA0.below hb1).cells
      have hcc := (hC0.below hb1).cells
      go_wp2_with fail
      go_ret
      exact ⟨rfl, hb00.trans (hb1.mono (by simp; omega))⟩

end Go.Proofs.YtkllfdfipkcddaaDoor
