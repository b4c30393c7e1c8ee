/- The walks of sentrylaw16.fixed and few. No condition: lemmas. -/
import Derived.Test.YtkllfdfipkcddaaEditU
import Derived.Test.YtkllfdfipkcddaaEditQ
namespace Go.Proofs.Ytkllfdfipkcddaa
open Go Go.RowKit

def tab1 : Tab := ⟨1, 1, 5, ⟨#[97]⟩, ⟨#[98]⟩⟩
def ver0 : Ver := ⟨[], 0, 0, 0, 1⟩
def ver1 : Ver := ⟨[tab1], 0, 0, 0, 2⟩
def edi1 : Edi := ⟨[tab1], [], 0, 0, 0, 2⟩
def edi2 : Edi := ⟨[], [2], 0, 0, 0, 0⟩
def edi0 : Edi := ⟨[], [], 0, 0, 0, 0⟩
theorem chk0 : chkN ver0 = 0 := chkN_ok (by kernel_rfl) (fun j hj => absurd hj (by simp [ver0])) (fun j hj => absurd hj (by simp [ver0])) (by simp [ver0])
theorem chk1 : chkN ver1 = 0 := chkN_ok (by kernel_rfl) (fun j hj => by
    obtain rfl : j = 0 := by simp [ver1] at hj; omega
    show tabBad 2 tab1 = false
    kernel_rfl) (fun j hj => absurd hj (by simp [ver1])) (by simp [ver1])
theorem applied1 : applyR ver0 edi1 = (ver1, 0) := by
  unfold applyR
  rw [if_neg (by rw [chk0]; decide), if_neg (by rw [show rightE edi1 = true from by kernel_rfl]; decide)]
  have h1 : dropAll ver0.tabs edi1.drop = some [] := rfl
  have h2 : addAll insT [] edi1.add = some [tab1] := rfl
  have h3 : outOf ver0 edi1 [tab1] = ver1 := rfl
  rw [h1]
  dsimp only
  rw [h2]
  dsimp only
  rw [h3, if_neg (by rw [chk1]; decide)]
theorem applied2 : applyR ver1 edi2 = (zeroVer, 4) := applyR_4 chk1 (by kernel_rfl) (by rfl)
theorem encoded0 : encE edi0 = [0, 0, 0, 0, 0, 0] := by
  have h : putB 0 = [0] := putB_small (by decide)
  unfold encE edi0
  simp [putsI, encA, h]
theorem i64_small {n : Int} (h : -1000 ≤ n ∧ n ≤ 1000) : I64 n := by unfold I64; omega
theorem tab1_ok : TabOk tab1 := ⟨i64_small (by decide), i64_small (by decide), i64_small (by decide), by decide, by decide⟩
theorem ver0_ok : ver0.Ok := ⟨fun t ht => absurd ht (by simp [ver0]), i64_small (by decide), i64_small (by decide)⟩
theorem ver1_ok : ver1.Ok := ⟨fun t ht => by obtain rfl : t = tab1 := by simpa [ver1] using ht
                                             exact tab1_ok, i64_small (by decide), i64_small (by decide)⟩
theorem edi1_ok : edi1.Ok := ⟨fun t ht => by obtain rfl : t = tab1 := by simpa [edi1] using ht
                                             exact tab1_ok, fun n hn => absurd hn (by simp [edi1]), i64_small (by decide), i64_small (by decide)⟩
theorem edi2_ok : edi2.Ok := ⟨fun t ht => absurd ht (by simp [edi2]), fun n hn => by obtain rfl : n = 2 := by simpa [edi2] using hn
                                                                                     exact i64_small (by decide), i64_small (by decide), i64_small (by decide)⟩
theorem edi0_ok : edi0.Ok := ⟨fun t ht => absurd ht (by simp [edi0]), fun n hn => absurd hn (by simp [edi0]), i64_small (by decide), i64_small (by decide)⟩

set_option maxRecDepth 100000 in
set_option maxHeartbeats 800000 in
theorem few16_any (tv : Value) (x : Ver) (w : World) (ht : Sl (· < w.heap.size) w 5 tv (tcs x.tabs)) (hok : ∀ t ∈ x.tabs, TabOk t) :
    Calls Try.prog 7 #[vV tv x] w (Ret (.bool (fewL x.tabs [])) w) := by
  have hb0 : Below w.heap.size w (w.alloc (.cells (vC tv x) 25)) := (Below.refl _ _).alloc (Nat.le_refl _) _
  have hA := (Blk.made w (vC tv x) 25).cells
  have HF := Lib.hid (few_any tv (.slice none 0 0) x.tabs [] (.int .u64 0) (.int .u64 0) (.int .i64 0) (.int .i64 0) _ (ht.up hb0) (Sl.nil _ _ _) hok)
  unfold vC at *
  obtain ⟨l, fl, hd', lg, nx⟩ := x
  unfold vV
  dsimp only at *
  obtain ⟨ao, c, rfl, _, _, _⟩ := ht.tabs
  go_enter Try.func7, Try.ntmps7
  go_wp2_with fail
  refine HF.out.mono ?_
  rintro e w1 ⟨rfl, hb1⟩
  go_wp2
  go_ret
  exact ⟨rfl, hb0.trans (hb1.mono (by simp))⟩

end Go.Proofs.Ytkllfdfipkcddaa
