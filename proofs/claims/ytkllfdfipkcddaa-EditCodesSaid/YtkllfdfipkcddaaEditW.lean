/- The walk of sentrylaw16.fixed. No condition: lemmas. -/
import Derived.Test.YtkllfdfipkcddaaEditV
namespace Go.Proofs.Ytkllfdfipkcddaa
open Go Go.RowKit

set_option maxRecDepth 100000 in
set_option maxHeartbeats 1600000 in
theorem fixed16_any (w : World) : Calls Try.prog 6 #[] w (Ret (.bool true) w) := by
  have hA := Blk.made w #[.slice none 0 0, .int .u64 0, .int .u64 0, .int .i64 0, .int .i64 1] 25
  have hAc := (hA.alloc (.cells #[.int .i64 1, .int .i64 1, .int .i64 5, .string ⟨#[97]⟩, .string ⟨#[98]⟩] 38)).cells
  have hAc0 := hA.cells
  have hE0 : Below w.heap.size w (w.alloc (.cells #[.slice none 0 0, .int .u64 0, .int .u64 0, .int .i64 0, .int .i64 1] 25)) := (Below.refl _ _).alloc (Nat.le_refl _) _
  have hE1 := hE0.alloc (by simp) (.cells #[.int .i64 1, .int .i64 1, .int .i64 5, .string ⟨#[97]⟩, .string ⟨#[98]⟩] 38)
  have hA1 := hA.alloc (.cells #[.int .i64 1, .int .i64 1, .int .i64 5, .string ⟨#[97]⟩, .string ⟨#[98]⟩] 38)
  have hsl := Sl.made (w.alloc (.cells #[.slice none 0 0, .int .u64 0, .int .u64 0, .int .i64 0, .int .i64 1] 25)) (· < w.heap.size + 1 + 1) 5 1 38 #[.int .i64 1, .int .i64 1, .int .i64 5, .string ⟨#[97]⟩, .string ⟨#[98]⟩] rfl (by unfold maxLen; omega) (by simp)
  have hsz : (w.alloc (.cells #[.slice none 0 0, .int .u64 0, .int .u64 0, .int .i64 0, .int .i64 1] 25)).heap.size = w.heap.size + 1 := by simp
  rw [hsz] at hsl
  generalize hwA : (w.alloc (.cells #[.slice none 0 0, .int .u64 0, .int .u64 0, .int .i64 0, .int .i64 1] 25)).alloc (.cells #[.int .i64 1, .int .i64 1, .int .i64 5, .string ⟨#[97]⟩, .string ⟨#[98]⟩] 38) = wA at *
  have hszA : wA.heap.size = w.heap.size + 1 + 1 := by rw [← hwA]; simp
  have h1 := apply_any (.slice none 0 0) (.slice (some ⟨w.heap.size + 1, 0, none⟩) 1 1) (.slice none 0 0) ver0 edi1 wA (Sl.nil _ _ _) (by rw [hszA]; exact hsl) (Sl.nil _ _ _) ver0_ok edi1_ok (by decide) (by decide)
  rw [applied1] at h1
  have H1 := Lib.hid h1
  have HWA := Lib.hid hwA
  clear h1 hsl hszA hsz hwA
  unfold ver0 edi1 at H1
  unfold eV vV at H1
  dsimp only at H1
  go_enter Try.func6, Try.ntmps6
  go_wp2_with fail
  rw [HWA.out]
  refine (H1.out).mono ?_
  rintro e w1 ⟨tv, rfl, hS1, hb1⟩
  have hA2 := hA1.below hb1
  have hE2 : Below w.heap.size w w1 := hE1.trans (hb1.mono hE1.size)
  have hS1' := hS1
  obtain ⟨ao, c, rfl, hac, hcm, _⟩ := hS1'.tabs
  simp only [ver1, List.length_cons, List.length_nil, Nat.zero_add] at hac hS1 ⊢
  have hB := Blk.made w1 #[.slice ao 1 c, .int .u64 0, .int .u64 0, .int .i64 0, .int .i64 2] 25
  have hA3 := hA2.alloc (.cells #[.slice ao 1 c, .int .u64 0, .int .u64 0, .int .i64 0, .int .i64 2] 25)
  have hE3 := hE2.alloc hE2.size (.cells #[.slice ao 1 c, .int .u64 0, .int .u64 0, .int .i64 0, .int .i64 2] 25)
  have hS3 := hS1.up ((Below.refl _ _).alloc (Nat.le_refl _) (.cells #[.slice ao 1 c, .int .u64 0, .int .u64 0, .int .i64 0, .int .i64 2] 25))
  have hsz : (w1.alloc (.cells #[.slice ao 1 c, .int .u64 0, .int .u64 0, .int .i64 0, .int .i64 2] 25)).heap.size = w1.heap.size + 1 := by simp
  have hBc := (hB.alloc (.cells #[.int .i64 2] 3)).cells
  have hBc0 := hB.cells
  have hsl := Sl.made (w1.alloc (.cells #[.slice ao 1 c, .int .u64 0, .int .u64 0, .int .i64 0, .int .i64 2] 25)) (· < w1.heap.size + 1 + 1) 1 1 3 #[.int .i64 2] rfl (by unfold maxLen; omega) (by simp)
  rw [hsz] at hsl
  have hA4 := hA3.alloc (.cells #[.int .i64 2] 3)
  have hB4 := hB.alloc (.cells #[.int .i64 2] 3)
  have hE4 := hE3.alloc hE3.size (.cells #[.int .i64 2] 3)
  have hS4 := hS3.up ((Below.refl _ _).alloc (Nat.le_refl _) (.cells #[.int .i64 2] 3))
  generalize hwC : (w1.alloc (.cells #[.slice ao 1 c, .int .u64 0, .int .u64 0, .int .i64 0, .int .i64 2] 25)).alloc (.cells #[.int .i64 2] 3) = wC at *
  have hszC : wC.heap.size = w1.heap.size + 1 + 1 := by rw [← hwC]; simp
  have h2 := apply_any (.slice ao 1 c) (.slice none 0 0) (.slice (some ⟨w1.heap.size + 1, 0, none⟩) 1 1) ver1 edi2 wC hS4 (Sl.nil _ _ _) (by rw [hszC]; exact hsl) ver1_ok edi2_ok (by decide) (by decide)
  rw [applied2] at h2
  have H2 := Lib.hid h2
  have HWC := Lib.hid hwC
  have hlt := hA2.lt
  clear h2 hsl hszC hsz hwC hS1 hS3 hA hAc hAc0 hE0 hE1 hA1 hA2 hA3 hE3 hB
  unfold ver1 edi2 zeroVer at H2
  unfold eV vV at H2
  dsimp only at H2
  go_wp2_with fail
  rw [HWC.out]
  refine (H2.out).mono ?_
  rintro e w2 ⟨uv, rfl, hS5, hb2⟩
  have hA5 := hA4.below hb2
  have hB5 := hB4.below hb2
  have hE5 := hE4.trans (hb2.mono hE4.size)
  obtain ⟨uo, cu, rfl, _, _, _⟩ := hS5.tabs
  have hA5 := hA5.alloc (.cells #[.slice uo 0 cu, .int .u64 0, .int .u64 0, .int .i64 0, .int .i64 0] 25)
  have hB5 := hB5.alloc (.cells #[.slice uo 0 cu, .int .u64 0, .int .u64 0, .int .i64 0, .int .i64 0] 25)
  have hE5 := hE5.alloc hE5.size (.cells #[.slice uo 0 cu, .int .u64 0, .int .u64 0, .int .i64 0, .int .i64 0] 25)
  generalize hwD : w2.alloc (.cells #[.slice uo 0 cu, .int .u64 0, .int .u64 0, .int .i64 0, .int .i64 0] 25) = wD at *
  have HWD := Lib.hid hwD
  have h3 := encode_any (.slice none 0 0) (.slice none 0 0) edi0 wD (Sl.nil _ _ _) (Sl.nil _ _ _) edi0_ok (by unfold U64 edi0; decide) (by unfold U64 edi0; decide) (by kernel_rfl)
  rw [show rightE edi0 = true from by kernel_rfl, if_pos rfl, encoded0] at h3
  have H3 := Lib.hid h3
  have hAc := hA5.cells
  have hBc := hB5.cells
  clear h3 hS5 hS4 hA4 hB4 hE4 H1 H2 HWA HWC hBc0 hwD
  unfold edi0 at H3
  unfold eV at H3
  dsimp only at H3
  go_wp2_with fail
  rw [HWD.out]
  refine (H3.out).mono ?_
  rintro e w3 ⟨bv, rfl, hS6, hb3⟩
  have hAc := (hA5.below hb3).cells
  have hBc := (hB5.below hb3).cells
  have hE6 := hE5.trans (hb3.mono hE5.size)
  have HC := Lib.hid (check_any (.slice none 0 0) ver0 w3 (Sl.nil _ _ _) ver0_ok)
  rw [chk0] at HC
  unfold ver0 vV at HC
  dsimp only at HC
  go_wp2_with fail
  refine (HC.out).mono ?_
  rintro e w4 ⟨rfl, hb4⟩
  have hAc := ((hA5.below hb3).below hb4).cells
  have hBc := ((hB5.below hb3).below hb4).cells
  have hcv := str_sl (hS6.up hb4)
  obtain ⟨bo, bn, bcp, rfl, _, _⟩ := hS6.len
  go_wp2_with fail
  go_ret
  exact ⟨rfl, hE6.trans (hb4.mono hE6.size)⟩

end Go.Proofs.Ytkllfdfipkcddaa
