/- The walk of FlatNil. No condition: lemmas. -/
import Derived.Test.YtcbgemnmehoeaaaFlatS
namespace Go.Proofs.Ytcbgemnmehoeaaa
open Go Go.RowKit Go.Maps

set_option maxRecDepth 100000 in
set_option maxHeartbeats 2000000 in
theorem nilLaw_any (t : Tup) (w : World) : Calls Try.prog 6 #[tV t] w fun e w' => e = .returned (.bool true) ∧ Below w.heap.size w w' := by
  obtain ⟨⟨ot, oi, or_⟩, ⟨st, si, sr⟩⟩ := t
  unfold tV
  dsimp only
  have hB1 := Blk.made w #[.string ot, .string oi, .string or_, .string st, .string si, .string sr] 32
  have hb1 : Below w.heap.size w (w.alloc (.cells #[.string ot, .string oi, .string or_, .string st, .string si, .string sr] 32)) := (Below.refl _ _).alloc (Nat.le_refl _) _
  have HF := Lib.hid (fixed_any (w.alloc (.cells #[.string ot, .string oi, .string or_, .string st, .string si, .string sr] 32)))
  go_enter Try.func6, Try.ntmps6
  go_wp2_with fail
  refine HF.out.mono ?_
  rintro e w2 ⟨rfl, hb2⟩
  have hB2 := hB1.below hb2
  have HB2 := Lib.hid (hb1.trans (hb2.mono hb1.size))
  have cB := hB2.cells
  have hB3 := hB2.alloc (.cells #[.string ot, .string oi, .string or_] 37)
  have cB3 := hB3.cells
  have hP3 := Blk.made w2 #[.string ot, .string oi, .string or_] 37
  have HBB := Lib.hid (show Below w.heap.size w (w2.alloc (.cells #[.string ot, .string oi, .string or_] 37)) from HB2.out.alloc HB2.out.size _)
  have HB3 := Lib.hid hB3
  have HP3 := Lib.hid hP3
  have HN := Lib.hid (add_nil ⟨⟨ot, oi, or_⟩, ⟨st, si, sr⟩⟩ (w2.alloc (.cells #[.string ot, .string oi, .string or_] 37)))
  unfold tV at HN
  dsimp only at HN
  clear HF hb1 hb2 hB1 hB2 hB3 hP3 HB2
  go_wp2_with fail
  refine HN.out.mono ?_
  rintro e w4 ⟨rfl, hb4⟩
  have HB4 := Lib.hid (HB3.out.below hb4)
  have HP4 := Lib.hid (HP3.out.below hb4)
  have HBB4 := Lib.hid (HBB.out.trans (hb4.mono HBB.out.size))
  have cB4 := HB4.out.cells
  have cP4 := HP4.out.cells
  have HN := Lib.hid (drop_nil ⟨⟨ot, oi, or_⟩, ⟨st, si, sr⟩⟩ w4)
  unfold tV at HN
  dsimp only at HN
  clear hb4 cB cB3 HB3 HP3 HBB
  go_wp2_with fail
  refine HN.out.mono ?_
  rintro e w5 ⟨rfl, hb5⟩
  have HB5 := Lib.hid (HB4.out.below hb5)
  have HP5 := Lib.hid (HP4.out.below hb5)
  have HBB5 := Lib.hid (HBB4.out.trans (hb5.mono HBB4.out.size))
  have cB5 := HB5.out.cells
  have cP5 := HP5.out.cells
  have HN := Lib.hid (has_nil ⟨ot, oi, or_⟩ ⟨st, si, sr⟩ w5)
  unfold pV at HN
  dsimp only at HN
  clear hb5 HB4 HP4 HBB4 cB4 cP4
  go_wp2_with fail
  refine HN.out.mono ?_
  rintro e w6 ⟨rfl, hb6⟩
  have HB6 := Lib.hid (HB5.out.below hb6)
  have HP6 := Lib.hid (HP5.out.below hb6)
  have HBB6 := Lib.hid (HBB5.out.trans (hb6.mono HBB5.out.size))
  have cB6 := HB6.out.cells
  have cP6 := HP6.out.cells
  have HN := Lib.hid (members_nil ⟨ot, oi, or_⟩ w6)
  unfold pV at HN
  dsimp only at HN
  clear hb6 HB5 HP5 HBB5 cB5 cP5
  go_wp2_with fail
  refine HN.out.mono ?_
  rintro e w7 ⟨rfl, hb7⟩
  have HB7 := Lib.hid (HB6.out.below hb7)
  have HBB7 := Lib.hid (HBB6.out.trans (hb7.mono HBB6.out.size))
  have cB7 := HB7.out.cells
  have HN := Lib.hid (points_nil ⟨st, si, sr⟩ w7)
  unfold pV at HN
  dsimp only at HN
  clear hb7 HB6 HP6 HBB6 cB6 cP6
  go_wp2_with fail
  refine HN.out.mono ?_
  rintro e w8 ⟨rfl, hb8⟩
  have HBB8 := Lib.hid (HBB7.out.trans (hb8.mono HBB7.out.size))
  have HN := Lib.hid (len_nil w8)
  clear hb8 HB7 HBB7 cB7
  go_wp2_with fail
  refine HN.out.mono ?_
  rintro e w9 ⟨rfl, hb9⟩
  have HBB9 := Lib.hid (HBB8.out.trans (hb9.mono HBB8.out.size))
  clear hb9 HBB8
  go_wp2_with fail
  go_ret
  exact ⟨rfl, HBB9.out⟩

end Go.Proofs.Ytcbgemnmehoeaaa
