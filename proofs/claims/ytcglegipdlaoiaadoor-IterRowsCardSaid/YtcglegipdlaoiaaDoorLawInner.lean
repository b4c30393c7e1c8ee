/- The walks of sentrylaw02.CodecInner, CodecOuter and CodecOrder. No condition: lemmas. -/
import Derived.Test.YtcglegipdlaoiaaDoorCodecG
import Derived.Test.YtcglegipdlaoiaaDoorCodecF
import Derived.Test.YtcglegipdlaoiaaDoorPlainOrder
namespace Go.Proofs.YtcglegipdlaoiaaDoor
open Go Go.RowKit

theorem outer_inner (k : List UInt8) (r : Nat) (d : Bool) (hr : U64 r) : outerS (innerB k r d) = some (k, r, d) := by
  have hl := hr.lt
  have hs : scan (innerB k r d) = some (k, be8 (flip64 r) ++ [if d then 0 else 1]) := by
    have := scan_esc k (be8 (flip64 r) ++ [if d then 0 else 1])
    rw [← this]
    simp [innerB]
  unfold outerS
  rw [hs]
  dsimp only
  have e : ∀ a : Nat, (UInt8.ofNat a).toNat = a % 256 := fun a => by simp
  have hv : revOf ((be8 (flip64 r) ++ [if d then 0 else 1]).take 8) 0 = r := by
    show revOf (be8 (flip64 r)) 0 = r
    simp only [revOf, be8, List.foldl_cons, List.foldl_nil, e]
    unfold flip64
    omega
  rw [hv]
  cases d <;> simp [be8]

end Go.Proofs.YtcglegipdlaoiaaDoor
