/- Lemmas for the claim, no condition. -/
import Derived.Test.YtipddhcfcehcaaaYT5
import Derived.Test.YtipddhcfcehcaaaYT7
namespace Go.Proofs.Ytipddhcfcehcaaa
open Go Go.RowKit

set_option maxRecDepth 100000 in
set_option maxHeartbeats 2000000 in
theorem wrule_3 {B wb : Nat} {text : ByteArray} {w : World} (ra rb : ByteArray) (n : Nat) (ao : Option Addr) (c : Nat) (d : Int) (h : WrB w B wb text false) (hBw : B ≤ w.heap.size) (hpos : 0 < text.size) (hlim : text.size + (10 + ra.size + rb.size) ≤ 1099511627776) :
    Calls Try.prog 100 #[.pointer (some ⟨wb, 0, none⟩), .agg #[.int .i64 3, .string ra, .string rb, .slice ao n c], .int .i64 d] w (WRes B wb w text (ownB ra && ownB rb && decide (n = 0)) ((ra ++ ⟨#[45, 62]⟩) ++ rb) (10 + ra.size + rb.size)) := by
  have HW0 := Lib.hid h
  have HB := Lib.hid h.1
  have HBW := Lib.hid hBw
  have HNE := Lib.hid (show w.heap.size ≠ wb from by have := h.lt; omega)
  clear h hBw
  have HPOS := Lib.hid hpos
  have HLIM := Lib.hid hlim
  clear hpos hlim
  by_cases hlp : 0 < n
  · have hpI : (0 : Int) < (n : Int) := by omega
    have HOK := Lib.hid (show (ownB ra && ownB rb && decide (n = 0)) = false from by
      have hlz : n ≠ 0 := by omega
      simp [hlz])
    rw [HOK.out]
    clear hlp HOK
    have HX := Lib.hid (Blk.made w #[.int .i64 3, .string ra, .string rb, .slice ao n c] 72)
    have HX1 := Lib.hid (HX.out.other (a := ⟨wb, 2, none⟩) HNE.out (.bool true))
    have HX2 := Lib.hid (HX1.out.other (a := ⟨wb, 2, none⟩) HNE.out (.bool true))
    have HW1 := Lib.hid ((HW0.out.up ((Below.refl _ w).alloc (Nat.le_refl _) (.cells #[.int .i64 3, .string ra, .string rb, .slice ao n c] 72))).flag true)
    have HW2 := Lib.hid (HW1.out.flag true)
    have HK2 := Lib.hid (WKept.next (WKept.next (WKept.of ((Below.refl _ w).alloc (Nat.le_refl _) (.cells #[.int .i64 3, .string ra, .string rb, .slice ao n c] 72)) HBW.out) (WKept.flag (b := wb) HB.out (.bool true))) (WKept.flag (b := wb) HB.out (.bool true)))
    have x0 := HX.out.cells
    have x1 := HX1.out.cells
    have x2 := HX2.out.cells
    obtain ⟨e0, f0⟩ := (HW0.out.up ((Below.refl _ w).alloc (Nat.le_refl _) (.cells #[.int .i64 3, .string ra, .string rb, .slice ao n c] 72))).odd2
    obtain ⟨e1, f1⟩ := HW1.out.odd2
    obtain ⟨e2, f2⟩ := HW2.out.odd2
    go_enter Try.func100, Try.ntmps100
    go_wp2_with fail
    (try simp only [Exit.inBlock, Exit.then])
    refine bodyPost_ret (results_none rfl _ _ _) rfl ?_
    exact WRes.bad HW2.out HK2.out
  · obtain rfl : n = 0 := by omega
    clear hlp
    by_cases hnrb : rb.size = 0
    · obtain rfl := ba_size_eq hnrb
      clear hnrb
      by_cases hnra : ra.size = 0
      · obtain rfl := ba_size_eq hnra
        clear hnra
        rw [show (ownB ⟨#[]⟩ && ownB ⟨#[]⟩ && decide (0 = 0)) = (ownB ⟨#[]⟩ && ownB ⟨#[]⟩) from by cases ownB ⟨#[]⟩ <;> cases ownB ⟨#[]⟩ <;> rfl]
        have HX := Lib.hid (Blk.made w #[.int .i64 3, .string ⟨#[]⟩, .string ⟨#[]⟩, .slice ao 0 c] 72)
        have HX1 := Lib.hid (HX.out.other (a := ⟨wb, 2, none⟩) HNE.out (.bool false))
        have HX2 := Lib.hid (HX1.out.other (a := ⟨wb, 2, none⟩) HNE.out (.bool false))
        have HW1 := Lib.hid ((HW0.out.up ((Below.refl _ w).alloc (Nat.le_refl _) (.cells #[.int .i64 3, .string ⟨#[]⟩, .string ⟨#[]⟩, .slice ao 0 c] 72))).flag false)
        have HW2 := Lib.hid (HW1.out.flag false)
        have HK2 := Lib.hid (WKept.next (WKept.next (WKept.of ((Below.refl _ w).alloc (Nat.le_refl _) (.cells #[.int .i64 3, .string ⟨#[]⟩, .string ⟨#[]⟩, .slice ao 0 c] 72)) HBW.out) (WKept.flag (b := wb) HB.out (.bool false))) (WKept.flag (b := wb) HB.out (.bool false)))
        have x0 := HX.out.cells
        have x1 := HX1.out.cells
        have x2 := HX2.out.cells
        obtain ⟨e0, f0⟩ := (HW0.out.up ((Below.refl _ w).alloc (Nat.le_refl _) (.cells #[.int .i64 3, .string ⟨#[]⟩, .string ⟨#[]⟩, .slice ao 0 c] 72))).odd2
        obtain ⟨e1, f1⟩ := HW1.out.odd2
        obtain ⟨e2, f2⟩ := HW2.out.odd2
        go_enter Try.func100, Try.ntmps100
        go_wp2_with fail
        obtain ⟨w3, hw3⟩ : ∃ w3, w3 = ((w.alloc (.cells #[.int .i64 3, .string ⟨#[]⟩, .string ⟨#[]⟩, .slice ao 0 c] 72)).setCell ⟨wb, 2, none⟩ (.bool false)).setCell ⟨wb, 2, none⟩ (.bool false) := ⟨_, rfl⟩
        rw [← hw3] at HX2 HW2 HK2 ⊢
        clear hw3 HX HX1 HW1 x0 x1 x2 e0 e1 e2 f0 f1 f2
        have HB3 := Lib.hid (Nat.le_trans HBW.out HK2.out.size)
        have HS := Lib.hid (wname_any ⟨#[]⟩ HW2.out (by have := HLIM.out; omega) HPOS.out (by have := HLIM.out; unfold maxLen; omega) HB3.out)
        refine HS.out.mono ?_
        rintro e w4 ⟨rfl, hw4, hk4⟩
        rw [Bool.false_or] at hw4
        have HK4 := Lib.hid (WKept.next HK2.out hk4)
        have HX4 := Lib.hid (hk4.box HX2.out (by decide) HNE.out)
        have HB4 := Lib.hid (Nat.le_trans HBW.out HK4.out.size)
        have HS2 := Lib.hid (writeString_any ⟨#[45, 62]⟩ hw4 (by have := HLIM.out; rw [ByteArray.size_append]; show _ + 2 ≤ _; omega) (by have := HPOS.out; rw [ByteArray.size_append]; omega) HB4.out)
        clear HS hw4 hk4
        go_wp2_with fail
        refine HS2.out.mono ?_
        rintro e w5 ⟨rfl, hw5, hk5⟩
        have HK5 := Lib.hid (WKept.next HK4.out hk5)
        have HX5 := Lib.hid (hk5.box HX4.out (by decide) HNE.out)
        have x5 := HX5.out.cells
        have HB5 := Lib.hid (Nat.le_trans HBW.out HK5.out.size)
        have HS3 := Lib.hid (wname_any ⟨#[]⟩ hw5 (by have := HLIM.out; rw [ByteArray.size_append, ByteArray.size_append]; show _ + 2 + _ ≤ _; omega) (by have := HPOS.out; rw [ByteArray.size_append, ByteArray.size_append]; omega) (by have := HLIM.out; unfold maxLen; omega) HB5.out)
        clear HS2 hw5 hk5
        go_wp2_with fail
        refine HS3.out.mono ?_
        rintro e w6 ⟨rfl, hw6, hk6⟩
        have HW6 := Lib.hid hw6
        have HK6 := Lib.hid (WKept.next HK5.out hk6)
        clear HS3 hw6 hk6 x5
        go_wp2_with fail
        go_end0
        exact ⟨rfl, _, (by have := HW6.out; rwa [← Bool.not_and] at this), by simp only [ByteArray.size_append]; omega, (by simp only [ByteArray.size_append]; show _ + _ + 2 + _ ≤ _; omega), fun _ => by simp only [ByteArray.append_assoc], HK6.out⟩
      · have hnera := ba_size_ne hnra
        clear hnra
        rw [show (ownB ra && ownB ⟨#[]⟩ && decide (0 = 0)) = (ownB ra && ownB ⟨#[]⟩) from by cases ownB ra <;> cases ownB ⟨#[]⟩ <;> rfl]
        have HX := Lib.hid (Blk.made w #[.int .i64 3, .string ra, .string ⟨#[]⟩, .slice ao 0 c] 72)
        have HX1 := Lib.hid (HX.out.other (a := ⟨wb, 2, none⟩) HNE.out (.bool false))
        have HX2 := Lib.hid (HX1.out.other (a := ⟨wb, 2, none⟩) HNE.out (.bool false))
        have HW1 := Lib.hid ((HW0.out.up ((Below.refl _ w).alloc (Nat.le_refl _) (.cells #[.int .i64 3, .string ra, .string ⟨#[]⟩, .slice ao 0 c] 72))).flag false)
        have HW2 := Lib.hid (HW1.out.flag false)
        have HK2 := Lib.hid (WKept.next (WKept.next (WKept.of ((Below.refl _ w).alloc (Nat.le_refl _) (.cells #[.int .i64 3, .string ra, .string ⟨#[]⟩, .slice ao 0 c] 72)) HBW.out) (WKept.flag (b := wb) HB.out (.bool false))) (WKept.flag (b := wb) HB.out (.bool false)))
        have x0 := HX.out.cells
        have x1 := HX1.out.cells
        have x2 := HX2.out.cells
        obtain ⟨e0, f0⟩ := (HW0.out.up ((Below.refl _ w).alloc (Nat.le_refl _) (.cells #[.int .i64 3, .string ra, .string ⟨#[]⟩, .slice ao 0 c] 72))).odd2
        obtain ⟨e1, f1⟩ := HW1.out.odd2
        obtain ⟨e2, f2⟩ := HW2.out.odd2
        go_enter Try.func100, Try.ntmps100
        go_wp2_with fail
        obtain ⟨w3, hw3⟩ : ∃ w3, w3 = ((w.alloc (.cells #[.int .i64 3, .string ra, .string ⟨#[]⟩, .slice ao 0 c] 72)).setCell ⟨wb, 2, none⟩ (.bool false)).setCell ⟨wb, 2, none⟩ (.bool false) := ⟨_, rfl⟩
        rw [← hw3] at HX2 HW2 HK2 ⊢
        clear hw3 HX HX1 HW1 x0 x1 x2 e0 e1 e2 f0 f1 f2
        have HB3 := Lib.hid (Nat.le_trans HBW.out HK2.out.size)
        have HS := Lib.hid (wname_any ra HW2.out (by have := HLIM.out; omega) HPOS.out (by have := HLIM.out; unfold maxLen; omega) HB3.out)
        refine HS.out.mono ?_
        rintro e w4 ⟨rfl, hw4, hk4⟩
        rw [Bool.false_or] at hw4
        have HK4 := Lib.hid (WKept.next HK2.out hk4)
        have HX4 := Lib.hid (hk4.box HX2.out (by decide) HNE.out)
        have HB4 := Lib.hid (Nat.le_trans HBW.out HK4.out.size)
        have HS2 := Lib.hid (writeString_any ⟨#[45, 62]⟩ hw4 (by have := HLIM.out; rw [ByteArray.size_append]; show _ + 2 ≤ _; omega) (by have := HPOS.out; rw [ByteArray.size_append]; omega) HB4.out)
        clear HS hw4 hk4
        go_wp2_with fail
        refine HS2.out.mono ?_
        rintro e w5 ⟨rfl, hw5, hk5⟩
        have HK5 := Lib.hid (WKept.next HK4.out hk5)
        have HX5 := Lib.hid (hk5.box HX4.out (by decide) HNE.out)
        have x5 := HX5.out.cells
        have HB5 := Lib.hid (Nat.le_trans HBW.out HK5.out.size)
        have HS3 := Lib.hid (wname_any ⟨#[]⟩ hw5 (by have := HLIM.out; rw [ByteArray.size_append, ByteArray.size_append]; show _ + 2 + _ ≤ _; omega) (by have := HPOS.out; rw [ByteArray.size_append, ByteArray.size_append]; omega) (by have := HLIM.out; unfold maxLen; omega) HB5.out)
        clear HS2 hw5 hk5
        go_wp2_with fail
        refine HS3.out.mono ?_
        rintro e w6 ⟨rfl, hw6, hk6⟩
        have HW6 := Lib.hid hw6
        have HK6 := Lib.hid (WKept.next HK5.out hk6)
        clear HS3 hw6 hk6 x5
        go_wp2_with fail
        go_end0
        exact ⟨rfl, _, (by have := HW6.out; rwa [← Bool.not_and] at this), by simp only [ByteArray.size_append]; omega, (by simp only [ByteArray.size_append]; show _ + _ + 2 + _ ≤ _; omega), fun _ => by simp only [ByteArray.append_assoc], HK6.out⟩
    · have hnerb := ba_size_ne hnrb
      clear hnrb
      by_cases hnra : ra.size = 0
      · obtain rfl := ba_size_eq hnra
        clear hnra
        rw [show (ownB ⟨#[]⟩ && ownB rb && decide (0 = 0)) = (ownB ⟨#[]⟩ && ownB rb) from by cases ownB ⟨#[]⟩ <;> cases ownB rb <;> rfl]
        have HX := Lib.hid (Blk.made w #[.int .i64 3, .string ⟨#[]⟩, .string rb, .slice ao 0 c] 72)
        have HX1 := Lib.hid (HX.out.other (a := ⟨wb, 2, none⟩) HNE.out (.bool false))
        have HX2 := Lib.hid (HX1.out.other (a := ⟨wb, 2, none⟩) HNE.out (.bool false))
        have HW1 := Lib.hid ((HW0.out.up ((Below.refl _ w).alloc (Nat.le_refl _) (.cells #[.int .i64 3, .string ⟨#[]⟩, .string rb, .slice ao 0 c] 72))).flag false)
        have HW2 := Lib.hid (HW1.out.flag false)
        have HK2 := Lib.hid (WKept.next (WKept.next (WKept.of ((Below.refl _ w).alloc (Nat.le_refl _) (.cells #[.int .i64 3, .string ⟨#[]⟩, .string rb, .slice ao 0 c] 72)) HBW.out) (WKept.flag (b := wb) HB.out (.bool false))) (WKept.flag (b := wb) HB.out (.bool false)))
        have x0 := HX.out.cells
        have x1 := HX1.out.cells
        have x2 := HX2.out.cells
        obtain ⟨e0, f0⟩ := (HW0.out.up ((Below.refl _ w).alloc (Nat.le_refl _) (.cells #[.int .i64 3, .string ⟨#[]⟩, .string rb, .slice ao 0 c] 72))).odd2
        obtain ⟨e1, f1⟩ := HW1.out.odd2
        obtain ⟨e2, f2⟩ := HW2.out.odd2
        go_enter Try.func100, Try.ntmps100
        go_wp2_with fail
        obtain ⟨w3, hw3⟩ : ∃ w3, w3 = ((w.alloc (.cells #[.int .i64 3, .string ⟨#[]⟩, .string rb, .slice ao 0 c] 72)).setCell ⟨wb, 2, none⟩ (.bool false)).setCell ⟨wb, 2, none⟩ (.bool false) := ⟨_, rfl⟩
        rw [← hw3] at HX2 HW2 HK2 ⊢
        clear hw3 HX HX1 HW1 x0 x1 x2 e0 e1 e2 f0 f1 f2
        have HB3 := Lib.hid (Nat.le_trans HBW.out HK2.out.size)
        have HS := Lib.hid (wname_any ⟨#[]⟩ HW2.out (by have := HLIM.out; omega) HPOS.out (by have := HLIM.out; unfold maxLen; omega) HB3.out)
        refine HS.out.mono ?_
        rintro e w4 ⟨rfl, hw4, hk4⟩
        rw [Bool.false_or] at hw4
        have HK4 := Lib.hid (WKept.next HK2.out hk4)
        have HX4 := Lib.hid (hk4.box HX2.out (by decide) HNE.out)
        have HB4 := Lib.hid (Nat.le_trans HBW.out HK4.out.size)
        have HS2 := Lib.hid (writeString_any ⟨#[45, 62]⟩ hw4 (by have := HLIM.out; rw [ByteArray.size_append]; show _ + 2 ≤ _; omega) (by have := HPOS.out; rw [ByteArray.size_append]; omega) HB4.out)
        clear HS hw4 hk4
        go_wp2_with fail
        refine HS2.out.mono ?_
        rintro e w5 ⟨rfl, hw5, hk5⟩
        have HK5 := Lib.hid (WKept.next HK4.out hk5)
        have HX5 := Lib.hid (hk5.box HX4.out (by decide) HNE.out)
        have x5 := HX5.out.cells
        have HB5 := Lib.hid (Nat.le_trans HBW.out HK5.out.size)
        have HS3 := Lib.hid (wname_any rb hw5 (by have := HLIM.out; rw [ByteArray.size_append, ByteArray.size_append]; show _ + 2 + _ ≤ _; omega) (by have := HPOS.out; rw [ByteArray.size_append, ByteArray.size_append]; omega) (by have := HLIM.out; unfold maxLen; omega) HB5.out)
        clear HS2 hw5 hk5
        go_wp2_with fail
        refine HS3.out.mono ?_
        rintro e w6 ⟨rfl, hw6, hk6⟩
        have HW6 := Lib.hid hw6
        have HK6 := Lib.hid (WKept.next HK5.out hk6)
        clear HS3 hw6 hk6 x5
        go_wp2_with fail
        go_end0
        exact ⟨rfl, _, (by have := HW6.out; rwa [← Bool.not_and] at this), by simp only [ByteArray.size_append]; omega, (by simp only [ByteArray.size_append]; show _ + _ + 2 + _ ≤ _; omega), fun _ => by simp only [ByteArray.append_assoc], HK6.out⟩
      · have hnera := ba_size_ne hnra
        clear hnra
        rw [show (ownB ra && ownB rb && decide (0 = 0)) = (ownB ra && ownB rb) from by cases ownB ra <;> cases ownB rb <;> rfl]
        have HX := Lib.hid (Blk.made w #[.int .i64 3, .string ra, .string rb, .slice ao 0 c] 72)
        have HX1 := Lib.hid (HX.out.other (a := ⟨wb, 2, none⟩) HNE.out (.bool false))
        have HX2 := Lib.hid (HX1.out.other (a := ⟨wb, 2, none⟩) HNE.out (.bool false))
        have HW1 := Lib.hid ((HW0.out.up ((Below.refl _ w).alloc (Nat.le_refl _) (.cells #[.int .i64 3, .string ra, .string rb, .slice ao 0 c] 72))).flag false)
        have HW2 := Lib.hid (HW1.out.flag false)
        have HK2 := Lib.hid (WKept.next (WKept.next (WKept.of ((Below.refl _ w).alloc (Nat.le_refl _) (.cells #[.int .i64 3, .string ra, .string rb, .slice ao 0 c] 72)) HBW.out) (WKept.flag (b := wb) HB.out (.bool false))) (WKept.flag (b := wb) HB.out (.bool false)))
        have x0 := HX.out.cells
        have x1 := HX1.out.cells
        have x2 := HX2.out.cells
        obtain ⟨e0, f0⟩ := (HW0.out.up ((Below.refl _ w).alloc (Nat.le_refl _) (.cells #[.int .i64 3, .string ra, .string rb, .slice ao 0 c] 72))).odd2
        obtain ⟨e1, f1⟩ := HW1.out.odd2
        obtain ⟨e2, f2⟩ := HW2.out.odd2
        go_enter Try.func100, Try.ntmps100
        go_wp2_with fail
        obtain ⟨w3, hw3⟩ : ∃ w3, w3 = ((w.alloc (.cells #[.int .i64 3, .string ra, .string rb, .slice ao 0 c] 72)).setCell ⟨wb, 2, none⟩ (.bool false)).setCell ⟨wb, 2, none⟩ (.bool false) := ⟨_, rfl⟩
        rw [← hw3] at HX2 HW2 HK2 ⊢
        clear hw3 HX HX1 HW1 x0 x1 x2 e0 e1 e2 f0 f1 f2
        have HB3 := Lib.hid (Nat.le_trans HBW.out HK2.out.size)
        have HS := Lib.hid (wname_any ra HW2.out (by have := HLIM.out; omega) HPOS.out (by have := HLIM.out; unfold maxLen; omega) HB3.out)
        refine HS.out.mono ?_
        rintro e w4 ⟨rfl, hw4, hk4⟩
        rw [Bool.false_or] at hw4
        have HK4 := Lib.hid (WKept.next HK2.out hk4)
        have HX4 := Lib.hid (hk4.box HX2.out (by decide) HNE.out)
        have HB4 := Lib.hid (Nat.le_trans HBW.out HK4.out.size)
        have HS2 := Lib.hid (writeString_any ⟨#[45, 62]⟩ hw4 (by have := HLIM.out; rw [ByteArray.size_append]; show _ + 2 ≤ _; omega) (by have := HPOS.out; rw [ByteArray.size_append]; omega) HB4.out)
        clear HS hw4 hk4
        go_wp2_with fail
        refine HS2.out.mono ?_
        rintro e w5 ⟨rfl, hw5, hk5⟩
        have HK5 := Lib.hid (WKept.next HK4.out hk5)
        have HX5 := Lib.hid (hk5.box HX4.out (by decide) HNE.out)
        have x5 := HX5.out.cells
        have HB5 := Lib.hid (Nat.le_trans HBW.out HK5.out.size)
        have HS3 := Lib.hid (wname_any rb hw5 (by have := HLIM.out; rw [ByteArray.size_append, ByteArray.size_append]; show _ + 2 + _ ≤ _; omega) (by have := HPOS.out; rw [ByteArray.size_append, ByteArray.size_append]; omega) (by have := HLIM.out; unfold maxLen; omega) HB5.out)
        clear HS2 hw5 hk5
        go_wp2_with fail
        refine HS3.out.mono ?_
        rintro e w6 ⟨rfl, hw6, hk6⟩
        have HW6 := Lib.hid hw6
        have HK6 := Lib.hid (WKept.next HK5.out hk6)
        clear HS3 hw6 hk6 x5
        go_wp2_with fail
        go_end0
        exact ⟨rfl, _, (by have := HW6.out; rwa [← Bool.not_and] at this), by simp only [ByteArray.size_append]; omega, (by simp only [ByteArray.size_append]; show _ + _ + 2 + _ ≤ _; omega), fun _ => by simp only [ByteArray.append_assoc], HK6.out⟩

end Go.Proofs.Ytipddhcfcehcaaa
namespace Go.Proofs.Ytipddhcfcehcaaa
open Go Go.RowKit

set_option maxRecDepth 100000 in
set_option maxHeartbeats 2000000 in
theorem text_bad4 (a b : ByteArray) (ps : List RT) (d : Nat) (ao : Option Addr) (c : Nat) (w : World) (h : ¬ (a.size = 0 ∧ b.size = 0 ∧ 2 ≤ ps.length)) : Calls Try.prog 76 #[.agg #[.int .i64 4, .string a, .string b, .slice ao ps.length c], .int .i64 d] w fun e w' => ∃ s : ByteArray, e = .returned (.tuple #[.string s, .bool false]) ∧ Below w.heap.size w w' := by
  have hbk := (Blk.made w #[.int .i64 4, .string a, .string b, .slice ao ps.length c] 72).cells
  have HB0 := Lib.hid (show Below w.heap.size w (w.alloc (.cells #[.int .i64 4, .string a, .string b, .slice ao ps.length c] 72)) from (Below.refl _ _).alloc (Nat.le_refl _) _)
  by_cases hna : a.size = 0
  · obtain rfl := ba_size_eq hna
    by_cases hnb : b.size = 0
    · obtain rfl := ba_size_eq hnb
      have hl2 : (ps.length : Int) < 2 := by
        have : ¬ 2 ≤ ps.length := fun h2 => h ⟨rfl, rfl, h2⟩
        omega
      clear hna hnb h
      go_enter Try.func76, Try.ntmps76
      go_wp2_with fail
      go_ret2
      exact ⟨_, rfl, HB0.out⟩
    · have hneb := ba_size_ne hnb
      clear hna hnb h
      go_enter Try.func76, Try.ntmps76
      go_wp2_with fail
      go_ret2
      exact ⟨_, rfl, HB0.out⟩
  · have hnea := ba_size_ne hna
    clear hna h
    go_enter Try.func76, Try.ntmps76
    go_wp2_with fail
    go_ret2
    exact ⟨_, rfl, HB0.out⟩

set_option maxRecDepth 100000 in
set_option maxHeartbeats 2000000 in
theorem text_bad5 (a b : ByteArray) (ps : List RT) (d : Nat) (ao : Option Addr) (c : Nat) (w : World) (h : ¬ (a.size = 0 ∧ b.size = 0 ∧ 2 ≤ ps.length)) : Calls Try.prog 76 #[.agg #[.int .i64 5, .string a, .string b, .slice ao ps.length c], .int .i64 d] w fun e w' => ∃ s : ByteArray, e = .returned (.tuple #[.string s, .bool false]) ∧ Below w.heap.size w w' := by
  have hbk := (Blk.made w #[.int .i64 5, .string a, .string b, .slice ao ps.length c] 72).cells
  have HB0 := Lib.hid (show Below w.heap.size w (w.alloc (.cells #[.int .i64 5, .string a, .string b, .slice ao ps.length c] 72)) from (Below.refl _ _).alloc (Nat.le_refl _) _)
  by_cases hna : a.size = 0
  · obtain rfl := ba_size_eq hna
    by_cases hnb : b.size = 0
    · obtain rfl := ba_size_eq hnb
      have hl2 : (ps.length : Int) < 2 := by
        have : ¬ 2 ≤ ps.length := fun h2 => h ⟨rfl, rfl, h2⟩
        omega
      clear hna hnb h
      go_enter Try.func76, Try.ntmps76
      go_wp2_with fail
      go_ret2
      exact ⟨_, rfl, HB0.out⟩
    · have hneb := ba_size_ne hnb
      clear hna hnb h
      go_enter Try.func76, Try.ntmps76
      go_wp2_with fail
      go_ret2
      exact ⟨_, rfl, HB0.out⟩
  · have hnea := ba_size_ne hna
    clear hna h
    go_enter Try.func76, Try.ntmps76
    go_wp2_with fail
    go_ret2
    exact ⟨_, rfl, HB0.out⟩

set_option maxRecDepth 100000 in
set_option maxHeartbeats 2000000 in
theorem text_other (k : Int) (a b : ByteArray) (ps : List RT) (d : Nat) (ao : Option Addr) (c : Nat) (w : World) (h1 : k ≠ 1) (h2 : k ≠ 2) (h3 : k ≠ 3) (h4 : k ≠ 4) (h5 : k ≠ 5) : Calls Try.prog 76 #[.agg #[.int .i64 k, .string a, .string b, .slice ao ps.length c], .int .i64 d] w fun e w' => ∃ s : ByteArray, e = .returned (.tuple #[.string s, .bool false]) ∧ Below w.heap.size w w' := by
  have hbk := (Blk.made w #[.int .i64 k, .string a, .string b, .slice ao ps.length c] 72).cells
  have HB0 := Lib.hid (show Below w.heap.size w (w.alloc (.cells #[.int .i64 k, .string a, .string b, .slice ao ps.length c] 72)) from (Below.refl _ _).alloc (Nat.le_refl _) _)
  have e1 : (k == 1) = false := by rw [beq_eq_false_iff_ne]; exact h1
  have e2 : (k == 2) = false := by rw [beq_eq_false_iff_ne]; exact h2
  have e3 : (k == 3) = false := by rw [beq_eq_false_iff_ne]; exact h3
  have e4 : (k == 4) = false := by rw [beq_eq_false_iff_ne]; exact h4
  have e5 : (k == 5) = false := by rw [beq_eq_false_iff_ne]; exact h5
  clear h1 h2 h3 h4 h5
  go_enter Try.func76, Try.ntmps76
  go_wp2_with fail
  go_ret2
  exact ⟨_, rfl, HB0.out⟩

theorem isNm_size {s : ByteArray} (h : isNm s = true) : s.size ≤ 32 := by
  unfold isNm at h
  simp only [Bool.and_eq_true, decide_eq_true_eq] at h
  exact h.2.2
theorem ownB_size {s : ByteArray} (h : ownB s = true) : s.size ≤ 32 := by
  unfold ownB at h
  simp only [Bool.and_eq_true] at h
  exact isNm_size h.1

theorem text_any (r : RT) : ∀ (pv : Value) (d : Nat) (w : World), RTAt (· < w.heap.size) w r pv → r.Ok → r.sz ≤ 1000000 → d ≤ 8 → Calls Try.prog 76 #[rV r pv, .int .i64 d] w fun e w' => ∃ s : ByteArray, e = .returned (.tuple #[.string s, .bool (r.textOk d)]) ∧ (r.textOk d = true → s.size + 5 ≤ 80 * r.sz) ∧ Below w.heap.size w w' := by
  induction r using RT.ind with
  | h r ih =>
  intro pv d w hat hok hsz hd
  obtain ⟨-, hoa, hob, hop⟩ := r.ok_iff.1 hok
  have hat0 := hat.rows
  obtain ⟨k, a, b, ps⟩ := r
  dsimp only [RT.a, RT.b, RT.ps] at hoa hob hop ih hat0
  by_cases k1 : k = 1
  · subst k1
    obtain ⟨ao, c, rfl, -⟩ := hat0
    have he : (RT.mk 1 a b ps).textOk d = (decide (a.size = 0) && decide (b.size = 0) && decide (ps.length = 0)) := by rw [RT.textOk]; rfl
    rw [he]
    refine (text_leaf1 a b ps d ao c w).mono ?_
    rintro e w5 ⟨s, rfl, rfl, hb⟩
    exact ⟨_, rfl, (fun _ => by rw [RT.sz]; show 4 + 5 ≤ _; omega), hb⟩
  by_cases k2 : k = 2
  · subst k2
    obtain ⟨ao, c, rfl, -⟩ := hat0
    have he : (RT.mk 2 a b ps).textOk d = (ownB a && decide (b.size = 0) && decide (ps.length = 0)) := by rw [RT.textOk]; rfl
    rw [he]
    refine (text_leaf2 a b ps d ao c w hoa).mono ?_
    rintro e w5 ⟨s, rfl, rfl, hb⟩
    refine ⟨_, rfl, (fun h => ?_), hb⟩
    simp only [Bool.and_eq_true] at h
    have := ownB_size h.1.1
    rw [RT.sz]
    omega
  by_cases k3 : k = 3
  · subst k3
    obtain ⟨ao, c, rfl, -⟩ := hat0
    have he : (RT.mk 3 a b ps).textOk d = (ownB a && ownB b && decide (ps.length = 0)) := by rw [RT.textOk]; rfl
    rw [he]
    refine (text_leaf3 a b ps d ao c w hoa hob).mono ?_
    rintro e w5 ⟨s, rfl, rfl, hb⟩
    refine ⟨_, rfl, (fun h => ?_), hb⟩
    simp only [Bool.and_eq_true] at h
    have h1 := ownB_size h.1.1
    have h2 := ownB_size h.1.2
    rw [RT.sz]
    simp only [ByteArray.size_append]
    have h3 : (⟨#[45, 62]⟩ : ByteArray).size = 2 := rfl
    omega
  by_cases k4 : k = 4
  · subst k4
    obtain ⟨ao, c, rfl, -⟩ := hat0
    by_cases hg : a.size = 0 ∧ b.size = 0 ∧ 2 ≤ ps.length
    · obtain ⟨hna, hnb, hl2⟩ := hg
      obtain rfl := ba_size_eq hna
      obtain rfl := ba_size_eq hnb
      have he : (RT.mk 4 ⟨#[]⟩ ⟨#[]⟩ ps).textOk d = ps.all (goodP 4 d) := by
        rw [RT.textOk, textL_eq, decide_eq_true hl2]
        rfl
      rw [he]
      refine (text_group4 ps d hd _ w hat (by rw [RT.sz] at hsz; omega) hl2 (fun p hp pv d w h1 h2 => ih p hp pv d w h1 (hop p hp) (by have := szL_mem hp; rw [RT.sz] at hsz; omega) h2)).mono ?_
      rintro e w5 ⟨s, rfl, hss, hb⟩
      exact ⟨s, rfl, fun h => by have := hss h; rw [RT.sz]; omega, hb⟩
    · have he : (RT.mk 4 a b ps).textOk d = false := by
        rw [RT.textOk]
        by_cases h1 : a.size = 0
        · by_cases h2 : b.size = 0
          · have h3 : ¬ 2 ≤ ps.length := fun h3 => hg ⟨h1, h2, h3⟩
            simp [h1, h2, h3]
          · simp [h2]
        · simp [h1]
      rw [he]
      refine (text_bad4 a b ps d ao c w hg).mono ?_
      rintro e w5 ⟨s, rfl, hb⟩
      exact ⟨s, rfl, (fun h => by cases h), hb⟩
  by_cases k5 : k = 5
  · subst k5
    obtain ⟨ao, c, rfl, -⟩ := hat0
    by_cases hg : a.size = 0 ∧ b.size = 0 ∧ 2 ≤ ps.length
    · obtain ⟨hna, hnb, hl2⟩ := hg
      obtain rfl := ba_size_eq hna
      obtain rfl := ba_size_eq hnb
      have he : (RT.mk 5 ⟨#[]⟩ ⟨#[]⟩ ps).textOk d = ps.all (goodP 5 d) := by
        rw [RT.textOk, textL_eq, decide_eq_true hl2]
        rfl
      rw [he]
      refine (text_group5 ps d hd _ w hat (by rw [RT.sz] at hsz; omega) hl2 (fun p hp pv d w h1 h2 => ih p hp pv d w h1 (hop p hp) (by have := szL_mem hp; rw [RT.sz] at hsz; omega) h2)).mono ?_
      rintro e w5 ⟨s, rfl, hss, hb⟩
      exact ⟨s, rfl, fun h => by have := hss h; rw [RT.sz]; omega, hb⟩
    · have he : (RT.mk 5 a b ps).textOk d = false := by
        rw [RT.textOk]
        by_cases h1 : a.size = 0
        · by_cases h2 : b.size = 0
          · have h3 : ¬ 2 ≤ ps.length := fun h3 => hg ⟨h1, h2, h3⟩
            simp [h1, h2, h3]
          · simp [h2]
        · simp [h1]
      rw [he]
      refine (text_bad5 a b ps d ao c w hg).mono ?_
      rintro e w5 ⟨s, rfl, hb⟩
      exact ⟨s, rfl, (fun h => by cases h), hb⟩
  · obtain ⟨ao, c, rfl, -⟩ := hat0
    have he : (RT.mk k a b ps).textOk d = false := by rw [RT.textOk, if_neg k1, if_neg k2, if_neg k3, if_neg (by omega)]
    rw [he]
    refine (text_other k a b ps d ao c w k1 k2 k3 k4 k5).mono ?_
    rintro e w5 ⟨s, rfl, hb⟩
    exact ⟨s, rfl, (fun h => by cases h), hb⟩

end Go.Proofs.Ytipddhcfcehcaaa
