/- The walks of sentrylaw02.CodecInner, CodecOuter and CodecOrder. No condition: lemmas. -/
import Derived.Test.YtkllfdfipkcddaaDoorCodecG
import Derived.Test.YtkllfdfipkcddaaDoorCodecF
import Derived.Test.YtkllfdfipkcddaaDoorPlainOrder
namespace Go.Proofs.YtkllfdfipkcddaaDoor
open Go Go.RowKit

theorem outer_inner (k : List UInt8) (r : Nat) (d : Bool) (hr : U64 r) : outerS (innerB k r d) = some (k, r, d) := by
  have hl := hr.lt
  have hs : scan (innerB k r d) = some (k, be8 (flip64 r) ++ [if d then 0 else 1]) := by
    have := scan_esc k (be8 (flip64 r) ++ [if d then 0 else 1])
    rw [← this]
    simp [innerB]
  unfold outerS
  rw [hs]
  dsimp only
  have e : ∀ a : Nat, (UInt8.ofNat a).toNat = a % 256 := fun a => by simp
  have hv : revOf ((be8 (flip64 r) ++ [if d then 0 else 1]).take 8) 0 = r := by
    show revOf (be8 (flip64 r)) 0 = r
    simp only [revOf, be8, List.foldl_cons, List.foldl_nil, e]
    unfold flip64
    omega
  rw [hv]
  cases d <;> simp [be8]

set_option maxRecDepth 100000 in
set_option maxHeartbeats 1600000 in
theorem inner_law (k : ByteArray) (r : Nat) (d : Bool) (w : World) (henv : Env w) (hr : U64 r) :
    Calls Tryd.prog 6 #[entV k r d] w (RetV (.bool true) w) := by
  unfold entV
  have hB0 := Blk.made w #[Value.string k, Value.int IntKind.u64 r, Value.bool d] 31
  have hb00 : Below w.heap.size w (w.alloc (.cells #[Value.string k, Value.int IntKind.u64 r, Value.bool d] 31)) := (Below.refl _ _).alloc (Nat.le_refl _) _
  have henv0 := henv.below hb00
  by_cases hk : k.size ≤ 2000
  · go_enter Tryd.func6, Tryd.ntmps6
    go_wp2_with fail
    refine (fixed02 _ henv0).mono ?_
    rintro e w1 ⟨rfl, hb1⟩
    have hB1 := hB0.below hb1
    have hb01 := hb00.trans (hb1.mono (by simp))
    have hc := hB1.cells
    go_wp2_with fail
    refine (inner_any k r d _ hr (henv.below hb01) (by omega)).mono ?_
    rintro e w2 ⟨rfl, hb2⟩
    have hB2 := hB1.below hb2
    have hb02 := hb01.trans (hb2.mono hb01.size)
    have hlen : (⟨(innerB k.data.toList r d).toArray⟩ : ByteArray).size ≤ 100000000 := by
      show (innerB k.data.toList r d).length ≤ 100000000
      have := esc_length k.data.toList
      rw [size_data] at this
      simp only [innerB, List.length_append, List.length_cons, List.length_nil, be8]
      omega
    clear hc
    go_wp2_with fail
    refine (outer_any _ _ (henv.below hb02) hlen).mono ?_
    rintro e w3 ⟨rfl, hb3⟩
    rw [show (⟨(innerB k.data.toList r d).toArray⟩ : ByteArray).data.toList = innerB k.data.toList r d from rfl, outer_inner _ r d hr]
    have hB3 := hB2.below hb3
    have hb03 := hb02.trans (hb3.mono hb02.size)
    have hc := hB3.cells
    unfold outV entV
    have hlt3 := hB3.lt
    have hcA : ∀ o i, (w3.alloc o).cell? ⟨w.heap.size, i, none⟩ = (#[Value.string k, Value.int IntKind.u64 r, Value.bool d] : Array Value)[i]? := fun o => (hB3.alloc o).cells
    go_wp2_with fail
    refine (refInner_any k r d _ hr (by omega)).mono ?_
    rintro e w4 ⟨rfl, hb4⟩
    have hB4 := (hB3.alloc _).below hb4
    have hB5 := (Blk.made w3 _ _).below hb4
    have hc4 := hB4.cells
    have hc5 := hB5.cells
    have hb04 : Below w.heap.size w w4 := (hb03.trans ((Below.refl _ _).alloc hb03.size _)).trans (hb4.mono (by simp; omega))
    clear hcA hc
    go_wp2_with fail
    go_ret
    exact ⟨rfl, hb04⟩
  · go_enter Tryd.func6, Tryd.ntmps6
    go_wp2_with fail
    refine (fixed02 _ henv0).mono ?_
    rintro e w1 ⟨rfl, hb1⟩
    have hc := (hB0.below hb1).cells
    go_wp2_with fail
    go_ret
    exact ⟨rfl, hb00.trans (hb1.mono (by simp))⟩

end Go.Proofs.YtkllfdfipkcddaaDoor
