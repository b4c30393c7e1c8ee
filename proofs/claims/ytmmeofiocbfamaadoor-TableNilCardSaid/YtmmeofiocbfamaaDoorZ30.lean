/- sentrylaw14's TableNil. No condition: lemmas. -/
import Derived.Test.YtmmeofiocbfamaaDoorZ28
namespace Go.Proofs.YtmmeofiocbfamaaDoor
open Go Go.RowKit

set_option maxRecDepth 100000 in
set_option maxHeartbeats 1600000 in
theorem tableNil_law (hop : OpenLaw) (k : ByteArray) (i : Int) (w : World) (henv : Env w) : Calls Tryd.prog 5 #[.string k, .int .i64 i] w (RetV (.bool true) w) := by
  have HF := Lib.hid (fixed14_any hop w henv)
  go_enter Tryd.func5, Tryd.ntmps5
  go_wp2_with fail
  refine HF.out.mono ?_
  clear HF
  rintro e w1 ⟨rfl, hx1⟩
  have HX1 := Lib.hid hx1
  clear hx1
  go_wp2_with fail
  refine (block_nil w1 i).mono ?_
  rintro e w2 ⟨rfl, rfl⟩
  go_wp2_with fail
  refine (seek_nil w2 k).mono ?_
  rintro e w3 ⟨rfl, rfl⟩
  go_wp2_with fail
  refine (all_nil w3).mono ?_
  rintro e w4 ⟨rfl, rfl⟩
  go_wp2_with fail
  refine (blocks_nil w4).mono ?_
  rintro e w5 ⟨rfl, rfl⟩
  go_wp2_with fail
  refine (len_nil w5).mono ?_
  rintro e w6 ⟨rfl, rfl⟩
  go_wp2_with fail
  refine (tmay_nil w6 k).mono ?_
  rintro e w7 ⟨rfl, rfl⟩
  go_wp2_with fail
  go_ret
  exact ⟨rfl, HX1.out⟩

end Go.Proofs.YtmmeofiocbfamaaDoor
