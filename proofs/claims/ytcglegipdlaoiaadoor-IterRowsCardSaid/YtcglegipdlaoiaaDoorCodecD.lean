/- The walk of sentrylaw02.fixed: the calls whose answers the document fixes. No condition: lemmas. -/
import Derived.Test.YtcglegipdlaoiaaDoorCodecC
import Derived.Lib.BufferRead
namespace Go.Proofs.YtcglegipdlaoiaaDoor
open Go Go.RowKit

/-- 'string(b)' of a slice that reads as bytes. -/
theorem str_sl {S : Nat → Prop} {w : World} {v : Value} {l : List UInt8} (h : Sl S w 1 v (bc l)) : (convert 63 9 v).run Tryd.prog w = .ok (.string ⟨l.toArray⟩) w := by
  obtain ⟨ao, n, c, rfl, hn, hnc, hc, hnone, hcell⟩ := h
  rw [bc_length] at hn
  obtain rfl : n = l.length := by omega
  cases ao with
  | none =>
    obtain rfl : c = 0 := hnone rfl
    obtain rfl : l = [] := List.eq_nil_of_length_eq_zero (by omega)
    exact Lib.run_convert_nil_bytes (P := Tryd.prog) w 63 9 5 0 Tryd.underlying63 Tryd.underlying5 Tryd.underlying9
  | some a =>
    refine run_convert_bytes_back (P := Tryd.prog) w 63 9 5 a c l Tryd.underlying63 Tryd.underlying5 Tryd.underlying9 (fun j hj => ?_)
    obtain ⟨b, off, hbo, _, hcc⟩ := hcell (fun e => by have := congrArg List.length e; simp [bc_length] at this; subst this; exact absurd hj (by simp))
    cases hbo
    rw [Addr.add_lit]
    exact hcc j _ (by simp [bc, hj])

theorem Below.step {B : Nat} {w0 W w1 : World} (h : Below B w0 W) (hb : Below W.heap.size W w1) (hB : B ≤ w0.heap.size) : Below B w0 w1 := h.trans (hb.mono (Nat.le_trans hB h.size))

end Go.Proofs.YtcglegipdlaoiaaDoor
