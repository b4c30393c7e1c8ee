/- The walk of sentrylaw02.fixed: the calls whose answers the document fixes. No condition: lemmas. -/
import Derived.Test.YtkllfdfipkcddaaDoorCodecC
import Derived.Lib.BufferRead
namespace Go.Proofs.YtkllfdfipkcddaaDoor
open Go Go.RowKit

/-- 'string(b)' of a slice that reads as bytes. -/
theorem str_sl {S : Nat → Prop} {w : World} {v : Value} {l : List UInt8} (h : Sl S w 1 v (bc l)) : (convert 22 9 v).run Tryd.prog w = .ok (.string ⟨l.toArray⟩) w := by
  obtain ⟨ao, n, c, rfl, hn, hnc, hc, hnone, hcell⟩ := h
  rw [bc_length] at hn
  obtain rfl : n = l.length := by omega
  cases ao with
  | none =>
    obtain rfl : c = 0 := hnone rfl
    obtain rfl : l = [] := List.eq_nil_of_length_eq_zero (by omega)
    exact Lib.run_convert_nil_bytes (P := Tryd.prog) w 22 9 5 0 Tryd.underlying22 Tryd.underlying5 Tryd.underlying9
  | some a =>
    refine run_convert_bytes_back (P := Tryd.prog) w 22 9 5 a c l Tryd.underlying22 Tryd.underlying5 Tryd.underlying9 (fun j hj => ?_)
    obtain ⟨b, off, hbo, _, hcc⟩ := hcell (fun e => by have := congrArg List.length e; simp [bc_length] at this; subst this; exact absurd hj (by simp))
    cases hbo
    rw [Addr.add_lit]
    exact hcc j _ (by simp [bc, hj])

theorem Below.step {B : Nat} {w0 W w1 : World} (h : Below B w0 W) (hb : Below W.heap.size W w1) (hB : B ≤ w0.heap.size) : Below B w0 w1 := h.trans (hb.mono (Nat.le_trans hB h.size))

set_option maxRecDepth 100000 in
set_option maxHeartbeats 800000 in
theorem fixed02 (w : World) (henv : Env w) : Calls Tryd.prog 12 #[] w (RetV (.bool true) w) := by
  have hU : U64 300 := by unfold U64; omega
  have hU0 : U64 0 := by unfold U64; omega
  have h300 : putB 300 = [172, 2] := by rw [putB_big (by decide), putB_small (by decide)]; rfl
  have hp := put_any (.slice none 0 0) [] 300 w (Sl.nil _ w 1) (by simp) hU
  rw [show ((300 : Nat) : Int) = 300 from rfl, h300] at hp
  have hg : getG [172, 2] 0 0 = (300, 2, 0) := by decide
  have hg0 : getG [] 0 0 = (0, 0, 7) := rfl
  have HP := Lib.hid hp
  have HG := Lib.hid hg
  have HG0 := Lib.hid hg0
  clear hp hg hg0 h300
  go_enter Tryd.func12, Tryd.ntmps12
  go_wp2_with fail
  refine HP.out.mono ?_
  rintro e w1 ⟨v, rfl, happ, hb⟩
  have hsl := happ.sl
  have hcv := str_sl hsl
  have HS := Lib.hid hsl
  clear happ hsl
  go_wp2_with fail
  refine (get_any _ _ _ _ HS.out (by simp)).mono ?_
  rintro e w2 ⟨rfl, rfl⟩
  simp only [List.nil_append, HG.out]
  go_wp2_with fail
  refine (get_any (.slice none 0 0) [] _ (fun _ => True) (Sl.nil _ _ _) (by simp)).mono ?_
  rintro e w2 ⟨rfl, rfl⟩
  simp only [HG0.out]
  have hin := inner_any ⟨#[97]⟩ 0 false w1 hU0 (henv.below hb) (by decide)
  rw [show (ByteArray.mk #[97]).data.toList = [97] from rfl, show innerB [97] 0 false = [97, 0, 1, 255, 255, 255, 255, 255, 255, 255, 255, 1] from rfl] at hin
  unfold entV at hin
  have HI := Lib.hid hin
  clear hin
  go_wp2_with fail
  refine HI.out.mono ?_
  rintro e w2 ⟨rfl, hb2⟩
  go_wp2_with fail
  go_ret
  exact ⟨rfl, hb.trans (hb2.mono hb.size)⟩

end Go.Proofs.YtkllfdfipkcddaaDoor
