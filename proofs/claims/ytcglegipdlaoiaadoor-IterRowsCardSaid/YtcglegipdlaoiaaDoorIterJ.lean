/- The walk of sentrylaw19.fixed. No condition: lemmas. -/
import Derived.Test.YtcglegipdlaoiaaDoorIterI
namespace Go.Proofs.YtcglegipdlaoiaaDoor
open Go Go.RowKit

theorem get_law {ls : List (List Ent)} (h : LawOk ls) (key : ByteArray) {rev : Nat} (hr : U64 rev) :
    getAns key (ansOf (bestL (rowsLL ls) (innerA (key, rev, true)))) = ansGet (refGetL ((allL (rowsLL ls)).map decoD) key rev) := by
  have := getL_ok h.good (key := key) hr
  unfold getL nextL at this
  rw [best_all h.src.up, this]
theorem scan_law {ls : List (List Ent)} (h : LawOk ls) (frm tto : ByteArray) {rev : Nat} (hr : U64 rev) (most : Int) :
    scanL (allL (rowsLL ls)) frm tto rev most = ((atK rev (allL (rowsLL ls))).foldl (stepS frm tto most) [], 0) := by
  rw [scanL_ok h.good frm tto hr most]
  unfold refScanL atK
  rw [atL_rk h.good]

/-- A row of rows in two new blocks. -/
theorem rwsE_made (w : World) (ls : List (List Ent)) (v : Value) (h : RowE w v (ls.getD 0 [])) (hl : ls.length = 1) :
    RwsE (w.alloc (.cells #[v] 44)) (.slice (some ⟨w.heap.size, 0, none⟩) 1 1) ls := by
  refine ⟨[v], Sl.made w _ 1 1 44 #[v] rfl (by decide) (by simp), by simp [hl], fun i hi hi' => ?_⟩
  obtain rfl : i = 0 := by simp at hi; omega
  have : ls[0] = ls.getD 0 [] := by rw [List.getD_eq_getElem?_getD, List.getElem?_eq_getElem hi']; rfl
  rw [this]
  exact h.up ((Below.refl _ _).alloc (Nat.le_refl _) _)

set_option maxRecDepth 100000 in
set_option maxHeartbeats 1600000 in
theorem fixed19 (w : World) (henv : Env w) : Calls Tryd.prog 7 #[] w (RetV (.bool true) w) := by
  have hb0 : Below w.heap.size w ((w.alloc (.cells #[.string ⟨#[97]⟩, .int .u64 3, .bool true, .string ⟨#[97]⟩, .int .u64 2, .bool false] 29)).alloc (.cells #[.slice (some ⟨w.heap.size, 0, none⟩) 2 2] 44)) := ((Below.refl _ _).alloc (Nat.le_refl _) _).alloc (by simp) _
  have hr0 : RwsE ((w.alloc (.cells #[.string ⟨#[97]⟩, .int .u64 3, .bool true, .string ⟨#[97]⟩, .int .u64 2, .bool false] 29)).alloc (.cells #[.slice (some ⟨w.heap.size, 0, none⟩) 2 2] 44)) (.slice (some ⟨w.heap.size + 1, 0, none⟩) 1 1) es19 := by
    have := rwsE_made (w.alloc (.cells #[.string ⟨#[97]⟩, .int .u64 3, .bool true, .string ⟨#[97]⟩, .int .u64 2, .bool false] 29)) es19 (.slice (some ⟨w.heap.size, 0, none⟩) 2 2) (Sl.made w _ 3 2 29 _ rfl (by decide) (by simp)) rfl
    rwa [show (w.alloc (.cells #[.string ⟨#[97]⟩, .int .u64 3, .bool true, .string ⟨#[97]⟩, .int .u64 2, .bool false] 29)).heap.size = w.heap.size + 1 from by simp] at this
  have HR := Lib.hid (rows19_any _ es19 _ hr0 es19_ok.n es19_ok.len (by unfold U64; decide) es19_ok.key)
  have HOK := Lib.hid es19_ok
  have HEN := Lib.hid henv
  have HG := Lib.hid (show getAns ⟨#[97]⟩ (ansOf (bestL (rowsLL es19) (innerA (⟨#[97]⟩, 2, true)))) = ((⟨#[97]⟩, 2, false), true, 0) from by rw [get_law es19_ok _ (show U64 2 from by unfold U64; decide), es19_get]; rfl)
  have HS := Lib.hid (show scanL (allL (rowsLL es19)) ⟨#[]⟩ ⟨#[]⟩ 3 0 = ([], 0) from by rw [scan_law es19_ok _ _ (show U64 3 from by unfold U64; decide), es19_scan]; rfl)
  clear hr0 henv
  go_enter Tryd.func7, Tryd.ntmps7
  go_wp2_with fail
  refine HR.out.mono ?_
  rintro e w1 ⟨v1, rfl, ho1, hb1⟩
  have hb01 := hb0.trans (hb1.mono hb0.size)
  have HO1 := Lib.hid ho1.rws
  clear ho1 HR hb0 hb1
  go_wp2_with fail
  refine (sources_any v1 _ w1 HO1.out (by decide)).mono ?_
  rintro e w2 ⟨v2, rfl, ho2, hb2⟩
  have hb02 := hb01.trans (hb2.mono hb01.size)
  have HO2 := Lib.hid (ho2.srcs hb2.size)
  have HR2 := Lib.hid (HO1.out.up hb2)
  clear ho2 HO1 hb01 hb2
  go_wp2_with fail
  refine (get_any v2 _ ⟨#[97]⟩ 2 w2 (HEN.out.below hb02) HO2.out HOK.out.src (by unfold U64; decide) (by decide)).mono ?_
  rintro e w3 ⟨rfl, hb3⟩
  rw [HG.out]
  unfold ansV
  dsimp only
  have hb03 := hb02.trans (hb3.mono hb02.size)
  have hb4 := hb03.alloc hb03.size (.cells #[.string ⟨#[97]⟩, .int .u64 (2 : Nat), .bool false] 29)
  have hX4 := Blk.made w3 #[.string ⟨#[97]⟩, .int .u64 (2 : Nat), .bool false] 29
  have HR4 := Lib.hid ((HR2.out.up hb3).up ((Below.refl _ _).alloc (Nat.le_refl _) (.cells #[.string ⟨#[97]⟩, .int .u64 (2 : Nat), .bool false] 29)))
  clear HO2 HR2 hb02 hb3 HG
  go_wp2_with fail
  refine (sources_any v1 _ _ HR4.out (by decide)).mono ?_
  rintro e w5 ⟨v5, rfl, ho5, hb5⟩
  have hb05 := hb4.trans (hb5.mono hb4.size)
  have HO5 := Lib.hid (ho5.srcs hb5.size)
  have hX5 := hX4.below hb5
  clear ho5 HR4 hb4 hb5 hX4
  go_wp2_with fail
  refine (scan_any v5 _ ⟨#[]⟩ ⟨#[]⟩ 3 0 w5 (HEN.out.below hb05) HO5.out HOK.out.src (by unfold U64; decide) (by decide) HOK.out.all).mono ?_
  rintro e w6 ⟨v6, rfl, ho6, hb6⟩
  rw [HS.out] at ho6 ⊢
  have hb06 := hb05.trans (hb6.mono hb05.size)
  have hX6 := hX5.below hb6
  have hxc := hX6.cells
  obtain ⟨oo, on, oc, rfl, hon, _, _⟩ := ho6.sl.len
  obtain rfl : on = 0 := by simpa [sc] using hon.symm
  clear ho6 HS hX6 hX5 HO5 hb6 hb05
  go_wp2_with fail
  go_ret
  exact ⟨rfl, hb06⟩

end Go.Proofs.YtcglegipdlaoiaaDoor
