/- The walk of sentryref02.Less. No condition: lemmas. -/
import Derived.Test.YtkllfdfipkcddaaDoorCodecE
import Derived.Test.YtkllfdfipkcddaaDoorBlk
import Derived.Test.YtkllfdfipkcddaaDoorPlainOrder
namespace Go.Proofs.YtkllfdfipkcddaaDoor
open Go Go.RowKit

set_option maxRecDepth 100000 in
set_option maxHeartbeats 800000 in
theorem refLess_any (k1 : ByteArray) (r1 : Nat) (d1 : Bool) (k2 : ByteArray) (r2 : Nat) (d2 : Bool) (w : World) :
    Calls Tryd.prog 17 #[entV k1 r1 d1, entV k2 r2 d2] w (RetV (.bool (lessE k1.data.toList r1 d1 k2.data.toList r2 d2)) w) := by
  unfold entV
  have e1 := ByteArray.toList_eq k1
  have e2 := ByteArray.toList_eq k2
  have hbel : Below w.heap.size w ((w.alloc (Obj.cells #[Value.string k1, Value.int IntKind.u64 r1, Value.bool d1] 31)).alloc (Obj.cells #[Value.string k2, Value.int IntKind.u64 r2, Value.bool d2] 31)) :=
    ((Below.refl _ _).alloc (Nat.le_refl _) _).alloc (by simp) _
  have HB := Lib.hid hbel
  clear hbel
  by_cases hk : k1.data.toList = k2.data.toList
  · have hkb : (k1.data.toList == k2.data.toList) = true := by simpa using hk
    have HK := Lib.hid hk
    clear hk
    by_cases hr : r1 = r2
    · have hrb : ((r1 : Int) != r2) = false := by rw [hr]; simp
      have HR := Lib.hid hr
      clear hr
      have hfin : lessE k1.data.toList r1 d1 k2.data.toList r2 d2 = (d1 && !d2) := by simp [lessE, HK.out, HR.out]
      have HF := Lib.hid hfin
      clear hfin
      cases d1
      all_goals
        go_enter Tryd.func17, Tryd.ntmps17
        go_wp2
        go_ret
        exact ⟨by rw [HF.out]; rfl, HB.out⟩
    · have hrb : ((r1 : Int) != r2) = true := by rw [bne_iff_ne]; omega
      have HR := Lib.hid hr
      clear hr
      have hfin : lessE k1.data.toList r1 d1 k2.data.toList r2 d2 = decide (r2 < r1) := by simp [lessE, HK.out, HR.out]
      have HF := Lib.hid hfin
      clear hfin
      go_enter Tryd.func17, Tryd.ntmps17
      go_wp2
      go_ret
      exact ⟨by rw [HF.out]; rfl, HB.out⟩
  · have hkb : (k1.data.toList == k2.data.toList) = false := by simpa using hk
    have HK := Lib.hid hk
    clear hk
    have hfin : lessE k1.data.toList r1 d1 k2.data.toList r2 d2 = Op.bytesLess k1.data.toList k2.data.toList := by simp [lessE, HK.out]
    have HF := Lib.hid hfin
    clear hfin
    go_enter Tryd.func17, Tryd.ntmps17
    go_wp2
    go_ret
    exact ⟨by rw [HF.out]; rfl, HB.out⟩

end Go.Proofs.YtkllfdfipkcddaaDoor
