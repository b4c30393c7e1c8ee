/- The walks of sentrylaw19's IterGets and IterScans. No condition: lemmas. -/
import Derived.Test.YtcglegipdlaoiaaDoorIterJ
namespace Go.Proofs.YtcglegipdlaoiaaDoor
open Go Go.RowKit

theorem few19_is {b : Bool} (x : Value) (ls : List (List Ent)) (w : World) (hx : RwsE w x ls) (hL : ∀ l ∈ ls, l.length ≤ 4398046511104) (h : few19B ls = b) :
    Calls Tryd.prog 8 #[x] w (RetV (.bool b) w) := h ▸ few19_any x ls w hx hL

theorem few_law {ls : List (List Ent)} (h : few19B ls = true) (hu : ∀ l ∈ ls, ∀ e ∈ l, U64 e.2.1) : LawOk ls := by
  have h := few19_of h
  exact law_ok (by have := h.sum; omega) (by have := h.len; omega) h.key hu

set_option maxRecDepth 100000 in
set_option maxHeartbeats 1600000 in
theorem iterGets_law (x : Value) (ls : List (List Ent)) (key : ByteArray) (rev : Nat) (w : World) (henv : Env w) (hx : RwsE w x ls) (hL : ∀ l ∈ ls, l.length ≤ 4398046511104) (hu : ∀ l ∈ ls, ∀ e ∈ l, U64 e.2.1) (hr : U64 rev) :
    Calls Tryd.prog 3 #[x, .string key, .int .u64 rev] w (RetV (.bool true) w) := by
  have HX := Lib.hid hx
  have HU := Lib.hid hu
  have HL := Lib.hid hL
  have HEN := Lib.hid henv
  have HFX := Lib.hid (fixed19 w henv)
  have HFEW := Lib.hid (fun b W (hb : Below w.heap.size w W) h => few19_is (b := b) x ls W (HX.out.up hb) HL.out h)
  clear hx hu hL henv
  by_cases hfew : few19B ls = true
  · have HOK := Lib.hid (few_law hfew HU.out)
    have HFW := Lib.hid hfew
    clear hfew
    by_cases hk : key.size ≤ 200
    · have hki : (key.size : Int) ≤ 200 := by omega
      have HG := Lib.hid (get_law HOK.out key hr)
      go_enter Tryd.func3, Tryd.ntmps3
      go_wp2_with fail
      refine HFX.out.mono ?_
      rintro e w1 ⟨rfl, hb1⟩
      go_wp2_with fail
      refine (HFEW.out _ _ hb1 HFW.out).mono ?_
      rintro e w2 ⟨rfl, hb2⟩
      have hb02 := hb1.trans (hb2.mono hb1.size)
      clear hb1 hb2
      go_wp2_with fail
      refine (rows19_any x ls w2 (HX.out.up hb02) HOK.out.n HOK.out.len HU.out HOK.out.key).mono ?_
      rintro e w3 ⟨v3, rfl, ho3, hb3⟩
      have hb03 := hb02.trans (hb3.mono hb02.size)
      have HR3 := Lib.hid ho3.rws
      clear ho3 hb02 hb3
      go_wp2_with fail
      refine (sources_any v3 _ w3 HR3.out (by have := HOK.out.rws.len; exact this)).mono ?_
      rintro e w4 ⟨v4, rfl, ho4, hb4⟩
      have hb04 := hb03.trans (hb4.mono hb03.size)
      have HO4 := Lib.hid (ho4.srcs hb4.size)
      have HR4 := Lib.hid (HR3.out.up hb4)
      clear ho4 HR3 hb03 hb4
      go_wp2_with fail
      refine (get_any v4 _ key rev w4 (HEN.out.below hb04) HO4.out HOK.out.src hr (by omega)).mono ?_
      rintro e w5 ⟨rfl, hb5⟩
      rw [HG.out]
      have hb05 := hb04.trans (hb5.mono hb04.size)
      have HR5 := Lib.hid (HR4.out.up hb5)
      clear HG HO4 HR4 hb04 hb5
      have HGT := Lib.hid (fun W h => refGet_any v3 _ key rev W h HOK.out.rws)
      generalize refGetL ((allL (rowsLL ls)).map decoD) key rev = o at *
      cases o with
      | none =>
        unfold ansGet ansV zeroE
        dsimp only
        have hb06 := hb05.alloc hb05.size (.cells #[.string ByteArray.empty, .int .u64 (0 : Nat), .bool false] 29)
        have hX6 := Blk.made w5 #[.string ByteArray.empty, .int .u64 (0 : Nat), .bool false] 29
        have HR6 := Lib.hid (HR5.out.up ((Below.refl _ _).alloc (Nat.le_refl _) (.cells #[.string ByteArray.empty, .int .u64 (0 : Nat), .bool false] 29)))
        go_wp2_with fail
        refine (HGT.out _ HR6.out).mono ?_
        rintro e w7 ⟨rfl, hb7⟩
        unfold getV
        dsimp only
        have hb07 := hb06.trans (hb7.mono hb06.size)
        have hX7 := hX6.below hb7
        have hxc := hX7.cells
        have hxl := hX7.lt
        go_wp2_with fail
        go_ret
        exact ⟨rfl, hb07.alloc hb07.size _⟩
      | some y =>
        obtain ⟨yk, yr, yd⟩ := y
        unfold ansGet ansV
        dsimp only
        have hb06 := hb05.alloc hb05.size (.cells #[.string yk, .int .u64 yr, .bool yd] 29)
        have hX6 := Blk.made w5 #[.string yk, .int .u64 yr, .bool yd] 29
        have HR6 := Lib.hid (HR5.out.up ((Below.refl _ _).alloc (Nat.le_refl _) (.cells #[.string yk, .int .u64 yr, .bool yd] 29)))
        go_wp2_with fail
        refine (HGT.out _ HR6.out).mono ?_
        rintro e w7 ⟨rfl, hb7⟩
        unfold getV
        dsimp only
        have hb07 := hb06.trans (hb7.mono hb06.size)
        have hX7 := hX6.below hb7
        have hxc := hX7.cells
        have hxl := hX7.lt
        go_wp2_with fail
        go_ret
        exact ⟨rfl, hb07.alloc hb07.size _⟩
    · have hki : (200 : Int) < key.size := by omega
      go_enter Tryd.func3, Tryd.ntmps3
      go_wp2_with fail
      refine HFX.out.mono ?_
      rintro e w1 ⟨rfl, hb1⟩
      go_wp2_with fail
      refine (HFEW.out _ _ hb1 HFW.out).mono ?_
      rintro e w2 ⟨rfl, hb2⟩
      go_wp2_with fail
      go_ret
      exact ⟨rfl, hb1.trans (hb2.mono hb1.size)⟩
  · have hfew : few19B ls = false := by simpa using hfew
    have HFW := Lib.hid hfew
    clear hfew
    go_enter Tryd.func3, Tryd.ntmps3
    go_wp2_with fail
    refine HFX.out.mono ?_
    rintro e w1 ⟨rfl, hb1⟩
    go_wp2_with fail
    refine (HFEW.out _ _ hb1 HFW.out).mono ?_
    rintro e w2 ⟨rfl, hb2⟩
    go_wp2_with fail
    go_ret
    exact ⟨rfl, hb1.trans (hb2.mono hb1.size)⟩

set_option maxRecDepth 100000 in
set_option maxHeartbeats 1600000 in
theorem iterScans_law (x : Value) (ls : List (List Ent)) (frm tto : ByteArray) (rev : Nat) (most : Int) (w : World) (henv : Env w) (hx : RwsE w x ls) (hL : ∀ l ∈ ls, l.length ≤ 4398046511104) (hu : ∀ l ∈ ls, ∀ e ∈ l, U64 e.2.1) (hr : U64 rev)
    (hfz : frm.size ≤ 1000000000000000) (htz : tto.size ≤ 1000000000000000) :
    Calls Tryd.prog 4 #[x, .string frm, .string tto, .int .u64 rev, .int .i64 most] w (RetV (.bool true) w) := by
  have HX := Lib.hid hx
  have HU := Lib.hid hu
  have HL := Lib.hid hL
  have HEN := Lib.hid henv
  have HFX := Lib.hid (fixed19 w henv)
  have HFEW := Lib.hid (fun b W (hb : Below w.heap.size w W) h => few19_is (b := b) x ls W (HX.out.up hb) HL.out h)
  clear hx hu hL henv
  by_cases hfew : few19B ls = true
  · have HOK := Lib.hid (few_law hfew HU.out)
    have HFW := Lib.hid hfew
    clear hfew
    by_cases hk : frm.size + tto.size ≤ 400
    · have hki : (frm.size : Int) + (tto.size : Int) ≤ 400 := by omega
      have HS := Lib.hid (scan_law HOK.out frm tto hr most)
      go_enter Tryd.func4, Tryd.ntmps4
      go_wp2_with fail
      refine HFX.out.mono ?_
      rintro e w1 ⟨rfl, hb1⟩
      go_wp2_with fail
      refine (HFEW.out _ _ hb1 HFW.out).mono ?_
      rintro e w2 ⟨rfl, hb2⟩
      have hb02 := hb1.trans (hb2.mono hb1.size)
      clear hb1 hb2
      go_wp2_with fail
      refine (rows19_any x ls w2 (HX.out.up hb02) HOK.out.n HOK.out.len HU.out HOK.out.key).mono ?_
      rintro e w3 ⟨v3, rfl, ho3, hb3⟩
      have hb03 := hb02.trans (hb3.mono hb02.size)
      have HR3 := Lib.hid ho3.rws
      clear ho3 hb02 hb3
      go_wp2_with fail
      refine (sources_any v3 _ w3 HR3.out (by have := HOK.out.rws.len; exact this)).mono ?_
      rintro e w4 ⟨v4, rfl, ho4, hb4⟩
      have hb04 := hb03.trans (hb4.mono hb03.size)
      have HO4 := Lib.hid (ho4.srcs hb4.size)
      have HR4 := Lib.hid (HR3.out.up hb4)
      clear ho4 HR3 hb03 hb4
      go_wp2_with fail
      refine (scan_any v4 _ frm tto rev most w4 (HEN.out.below hb04) HO4.out HOK.out.src hr (by omega) HOK.out.all).mono ?_
      rintro e w5 ⟨v5, rfl, ho5, hb5⟩
      rw [HS.out] at ho5 ⊢
      have hb05 := hb04.trans (hb5.mono hb04.size)
      have HR5 := Lib.hid (HR4.out.up hb5)
      have HO5 := Lib.hid ho5.slU
      clear HS HO4 HR4 hb04 hb5 ho5
      go_wp2_with fail
      refine (refScan_any v3 _ frm tto rev most w5 HR5.out HOK.out.rws).mono ?_
      rintro e w6 ⟨v6, rfl, ho6, hb6⟩
      have hb06 := hb05.trans (hb6.mono hb05.size)
      have HO6 := Lib.hid ho6
      have HO56 := Lib.hid (Sl.up HO5.out hb6)
      clear HR5 HO5 hb05 hb6 ho6
      go_wp2_with fail
      refine (same_any v5 v6 _ _ w6 _ _ HO56.out HO6.out).mono ?_
      rintro e w7 ⟨rfl, hb7⟩
      have hb07 := hb06.trans (hb7.mono hb06.size)
      rw [decide_eq_true (rfl : (atK rev (allL (rowsLL ls))).foldl (stepS frm tto most) [] = _)]
      go_wp2_with fail
      go_ret
      exact ⟨rfl, hb07⟩
    · have hki : (400 : Int) < (frm.size : Int) + (tto.size : Int) := by omega
      go_enter Tryd.func4, Tryd.ntmps4
      go_wp2_with fail
      refine HFX.out.mono ?_
      rintro e w1 ⟨rfl, hb1⟩
      go_wp2_with fail
      refine (HFEW.out _ _ hb1 HFW.out).mono ?_
      rintro e w2 ⟨rfl, hb2⟩
      go_wp2_with fail
      go_ret
      exact ⟨rfl, hb1.trans (hb2.mono hb1.size)⟩
  · have hfew : few19B ls = false := by simpa using hfew
    have HFW := Lib.hid hfew
    clear hfew
    go_enter Tryd.func4, Tryd.ntmps4
    go_wp2_with fail
    refine HFX.out.mono ?_
    rintro e w1 ⟨rfl, hb1⟩
    go_wp2_with fail
    refine (HFEW.out _ _ hb1 HFW.out).mono ?_
    rintro e w2 ⟨rfl, hb2⟩
    go_wp2_with fail
    go_ret
    exact ⟨rfl, hb1.trans (hb2.mono hb1.size)⟩

end Go.Proofs.YtcglegipdlaoiaaDoor
