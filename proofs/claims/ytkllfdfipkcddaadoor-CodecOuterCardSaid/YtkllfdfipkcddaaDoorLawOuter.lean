/- The walk of sentrylaw02.CodecOuter: true for whatever text. No condition: lemmas. -/
import Derived.Test.YtkllfdfipkcddaaDoorCodecH
namespace Go.Proofs.YtkllfdfipkcddaaDoor
open Go Go.RowKit

/-- An Outer's answer, its two parts. -/
def outE (o : Option (List UInt8 × Nat × Bool)) : Value := match o with | some (k, r, d) => entV ⟨k.toArray⟩ r d | none => entV ByteArray.empty 0 false
def outN (o : Option (List UInt8 × Nat × Bool)) : Int := match o with | some _ => 0 | none => 9

theorem outV_some (o : Option (List UInt8 × Nat × Bool)) : ∃ (k : ByteArray) (r : Nat) (d : Bool) (n : Int), outV o = .tuple #[.agg #[.string k, .int .u64 r, .bool d], .int .i64 n] := by
  cases o with
  | none => exact ⟨ByteArray.empty, 0, false, 9, rfl⟩
  | some x => obtain ⟨k, r, d⟩ := x; exact ⟨⟨k.toArray⟩, r, d, 0, rfl⟩

set_option maxRecDepth 100000 in
set_option maxHeartbeats 1600000 in
theorem outer_law (s : ByteArray) (w : World) (henv : Env w) :
    Calls Tryd.prog 7 #[.string s] w (RetV (.bool true) w) := by
  obtain ⟨k, r, d, n, ho⟩ := outV_some (outerS s.data.toList)
  have HO := Lib.hid ho
  clear ho
  by_cases hs : s.size ≤ 2000
  · go_enter Tryd.func7, Tryd.ntmps7
    go_wp2_with fail
    refine (fixed02 _ henv).mono ?_
    rintro e w1 ⟨rfl, hb1⟩
    go_wp2_with fail
    refine (outer_any s _ (henv.below hb1) (by omega)).mono ?_
    rintro e w2 ⟨rfl, hb2⟩
    rw [HO.out]
    have hb02 := hb1.trans (hb2.mono hb1.size)
    go_wp2_with fail
    refine (refOuter_any s _ (by omega)).mono ?_
    rintro e w3 ⟨rfl, hb3⟩
    rw [HO.out]
    have hB3 := (Blk.made w2 _ _).below hb3
    have hc := hB3.cells
    have hlt := hB3.lt
    have hcA : ∀ o i, (w3.alloc o).cell? ⟨w2.heap.size, i, none⟩ = (#[Value.string k, Value.int IntKind.u64 r, Value.bool d] : Array Value)[i]? := fun o => (hB3.alloc o).cells
    have hb03 : Below w.heap.size w w3 := (hb02.trans ((Below.refl _ _).alloc hb02.size _)).trans (hb3.mono (by have := hb02.size; simp; omega))
    go_wp2_with fail
    go_ret
    exact ⟨rfl, hb03.alloc hb03.size _⟩
  · go_enter Tryd.func7, Tryd.ntmps7
    go_wp2_with fail
    refine (fixed02 _ henv).mono ?_
    rintro e w1 ⟨rfl, hb1⟩
    go_wp2_with fail
    go_ret
    exact ⟨rfl, hb1⟩

end Go.Proofs.YtkllfdfipkcddaaDoor
