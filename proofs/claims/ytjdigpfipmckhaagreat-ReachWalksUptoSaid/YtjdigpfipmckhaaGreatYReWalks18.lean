/- Lemmas for the claim, no condition. -/
import Derived.Test.YtjdigpfipmckhaaGreatYReWalks17
import Derived.Test.YtjdigpfipmckhaaGreatYReWalks16
namespace Go.Proofs.YtjdigpfipmckhaaGreat
open Go Go.RowKit
set_option maxRecDepth 100000 in
set_option maxHeartbeats 2000000 in
theorem wrule_gbad5 {B wb : Nat} {add : ByteArray} {wt : Nat} {text : ByteArray} {w : World} (ra rb : ByteArray) (n : Nat) (ao : Option Addr) (c : Nat) (d : Int) (h : WrB w B wb text false) (hBw : B ≤ w.heap.size) (hbad : ¬ (ra.size = 0 ∧ rb.size = 0 ∧ 2 ≤ n)) :
    Calls Tryz.prog 153 #[.pointer (some ⟨wb, 0, none⟩), .agg #[.int .i64 5, .string ra, .string rb, .slice ao n c], .int .i64 d] w (WRes B wb w text (false) (add) (wt)) := by
  have HW0 := Lib.hid h
  have HB := Lib.hid h.1
  have HBW := Lib.hid hBw
  have HNE := Lib.hid (show w.heap.size ≠ wb from by have := h.lt; omega)
  clear h hBw
  by_cases h0 : n = 0
  · subst h0
    clear hbad
    have HX := Lib.hid (Blk.made w #[.int .i64 5, .string ra, .string rb, .slice ao 0 c] 98)
    have HX1 := Lib.hid (HX.out.other (a := ⟨wb, 2, none⟩) HNE.out (.bool true))
    have HX2 := Lib.hid (HX1.out.other (a := ⟨wb, 2, none⟩) HNE.out (.bool true))
    have HW1 := Lib.hid ((HW0.out.up ((Below.refl _ w).alloc (Nat.le_refl _) (.cells #[.int .i64 5, .string ra, .string rb, .slice ao 0 c] 98))).flag true)
    have HW2 := Lib.hid (HW1.out.flag true)
    have HK2 := Lib.hid (WKept.next (WKept.next (WKept.of ((Below.refl _ w).alloc (Nat.le_refl _) (.cells #[.int .i64 5, .string ra, .string rb, .slice ao 0 c] 98)) HBW.out) (WKept.flag (b := wb) HB.out (.bool true))) (WKept.flag (b := wb) HB.out (.bool true)))
    have x0 := HX.out.cells
    have x1 := HX1.out.cells
    have x2 := HX2.out.cells
    obtain ⟨e0, f0⟩ := (HW0.out.up ((Below.refl _ w).alloc (Nat.le_refl _) (.cells #[.int .i64 5, .string ra, .string rb, .slice ao 0 c] 98))).odd2
    obtain ⟨e1, f1⟩ := HW1.out.odd2
    obtain ⟨e2, f2⟩ := HW2.out.odd2
    go_enter Tryz.func153, Tryz.ntmps153
    go_wp2_with fail
    (try simp only [Exit.inBlock, Exit.then])
    refine bodyPost_ret (results_none rfl _ _ _) rfl ?_
    exact WRes.bad HW2.out HK2.out
  by_cases h1 : n = 1
  · subst h1
    clear hbad h0
    have HX := Lib.hid (Blk.made w #[.int .i64 5, .string ra, .string rb, .slice ao 1 c] 98)
    have HX1 := Lib.hid (HX.out.other (a := ⟨wb, 2, none⟩) HNE.out (.bool true))
    have HX2 := Lib.hid (HX1.out.other (a := ⟨wb, 2, none⟩) HNE.out (.bool true))
    have HW1 := Lib.hid ((HW0.out.up ((Below.refl _ w).alloc (Nat.le_refl _) (.cells #[.int .i64 5, .string ra, .string rb, .slice ao 1 c] 98))).flag true)
    have HW2 := Lib.hid (HW1.out.flag true)
    have HK2 := Lib.hid (WKept.next (WKept.next (WKept.of ((Below.refl _ w).alloc (Nat.le_refl _) (.cells #[.int .i64 5, .string ra, .string rb, .slice ao 1 c] 98)) HBW.out) (WKept.flag (b := wb) HB.out (.bool true))) (WKept.flag (b := wb) HB.out (.bool true)))
    have x0 := HX.out.cells
    have x1 := HX1.out.cells
    have x2 := HX2.out.cells
    obtain ⟨e0, f0⟩ := (HW0.out.up ((Below.refl _ w).alloc (Nat.le_refl _) (.cells #[.int .i64 5, .string ra, .string rb, .slice ao 1 c] 98))).odd2
    obtain ⟨e1, f1⟩ := HW1.out.odd2
    obtain ⟨e2, f2⟩ := HW2.out.odd2
    go_enter Tryz.func153, Tryz.ntmps153
    go_wp2_with fail
    (try simp only [Exit.inBlock, Exit.then])
    refine bodyPost_ret (results_none rfl _ _ _) rfl ?_
    exact WRes.bad HW2.out HK2.out
  have hpI : (0 : Int) < (n : Int) := by omega
  have hl2 : ¬ ((n : Int) < 2) := by omega
  by_cases hnrb : rb.size = 0
  · obtain rfl := ba_size_eq hnrb
    clear hnrb
    by_cases hnra : ra.size = 0
    · obtain rfl := ba_size_eq hnra
      clear hnra
      exact absurd ⟨rfl, rfl, by omega⟩ hbad
    · have hnera := ba_size_ne hnra
      clear hbad hnra h0 h1
      have HX := Lib.hid (Blk.made w #[.int .i64 5, .string ra, .string ⟨#[]⟩, .slice ao n c] 98)
      have HX1 := Lib.hid (HX.out.other (a := ⟨wb, 2, none⟩) HNE.out (.bool false))
      have HX2 := Lib.hid (HX1.out.other (a := ⟨wb, 2, none⟩) HNE.out (.bool true))
      have HW1 := Lib.hid ((HW0.out.up ((Below.refl _ w).alloc (Nat.le_refl _) (.cells #[.int .i64 5, .string ra, .string ⟨#[]⟩, .slice ao n c] 98))).flag false)
      have HW2 := Lib.hid (HW1.out.flag true)
      have HK2 := Lib.hid (WKept.next (WKept.next (WKept.of ((Below.refl _ w).alloc (Nat.le_refl _) (.cells #[.int .i64 5, .string ra, .string ⟨#[]⟩, .slice ao n c] 98)) HBW.out) (WKept.flag (b := wb) HB.out (.bool false))) (WKept.flag (b := wb) HB.out (.bool true)))
      have x0 := HX.out.cells
      have x1 := HX1.out.cells
      have x2 := HX2.out.cells
      obtain ⟨e0, f0⟩ := (HW0.out.up ((Below.refl _ w).alloc (Nat.le_refl _) (.cells #[.int .i64 5, .string ra, .string ⟨#[]⟩, .slice ao n c] 98))).odd2
      obtain ⟨e1, f1⟩ := HW1.out.odd2
      obtain ⟨e2, f2⟩ := HW2.out.odd2
      go_enter Tryz.func153, Tryz.ntmps153
      go_wp2_with fail
      (try simp only [Exit.inBlock, Exit.then])
      refine bodyPost_ret (results_none rfl _ _ _) rfl ?_
      exact WRes.bad HW2.out HK2.out
  · have hnerb := ba_size_ne hnrb
    clear hbad hnrb h0 h1
    have HX := Lib.hid (Blk.made w #[.int .i64 5, .string ra, .string rb, .slice ao n c] 98)
    have HX1 := Lib.hid (HX.out.other (a := ⟨wb, 2, none⟩) HNE.out (.bool false))
    have HX2 := Lib.hid (HX1.out.other (a := ⟨wb, 2, none⟩) HNE.out (.bool true))
    have HW1 := Lib.hid ((HW0.out.up ((Below.refl _ w).alloc (Nat.le_refl _) (.cells #[.int .i64 5, .string ra, .string rb, .slice ao n c] 98))).flag false)
    have HW2 := Lib.hid (HW1.out.flag true)
    have HK2 := Lib.hid (WKept.next (WKept.next (WKept.of ((Below.refl _ w).alloc (Nat.le_refl _) (.cells #[.int .i64 5, .string ra, .string rb, .slice ao n c] 98)) HBW.out) (WKept.flag (b := wb) HB.out (.bool false))) (WKept.flag (b := wb) HB.out (.bool true)))
    have x0 := HX.out.cells
    have x1 := HX1.out.cells
    have x2 := HX2.out.cells
    obtain ⟨e0, f0⟩ := (HW0.out.up ((Below.refl _ w).alloc (Nat.le_refl _) (.cells #[.int .i64 5, .string ra, .string rb, .slice ao n c] 98))).odd2
    obtain ⟨e1, f1⟩ := HW1.out.odd2
    obtain ⟨e2, f2⟩ := HW2.out.odd2
    go_enter Tryz.func153, Tryz.ntmps153
    go_wp2_with fail
    (try simp only [Exit.inBlock, Exit.then])
    refine bodyPost_ret (results_none rfl _ _ _) rfl ?_
    exact WRes.bad HW2.out HK2.out
set_option maxRecDepth 100000 in
set_option maxHeartbeats 4000000 in
theorem wrule_g5 {B wb : Nat} {text : ByteArray} {w : World} (ps : List RT) (d : Nat) (hd : d ≤ 8) (pv : Value) (h : WrB w B wb text false) (hBw : B ≤ w.heap.size) (hat : RTAt (· < B) w (.mk 5 ⟨#[]⟩ ⟨#[]⟩ ps) pv) (hpos : 0 < text.size) (hlim : text.size + wtL ps ≤ 1099511627776) (h2 : 2 ≤ ps.length)
    (ih : ∀ p ∈ ps, ∀ (pv : Value) (d : Nat) (w : World) (text : ByteArray), RTAt (· < B) w p pv → text.size + p.wt ≤ 1099511627776 → 0 < text.size → d ≤ 8 → WrB w B wb text false → B ≤ w.heap.size → Calls Tryz.prog 153 #[.pointer (some ⟨wb, 0, none⟩), rV p pv, .int .i64 d] w (WRes B wb w text (p.textOk d) p.text p.wt)) :
    Calls Tryz.prog 153 #[.pointer (some ⟨wb, 0, none⟩), rV (.mk 5 ⟨#[]⟩ ⟨#[]⟩ ps) pv, .int .i64 d] w (WRes B wb w text (ps.all (goodP 5 d)) (joinT 5 ps) (wtL ps)) := by
  have HAT := Lib.hid hat
  obtain ⟨ao, c, rfl, -⟩ := hat.rows
  have IH := Lib.hid ih
  have HPOS := Lib.hid hpos
  have HD := Lib.hid hd
  have HLIM := Lib.hid hlim
  unfold rV
  dsimp only [RT.k, RT.a, RT.b, RT.ps] at HAT ⊢
  have hpI : (0 : Int) < (ps.length : Int) := by omega
  have hl2 : ¬ ((ps.length : Int) < 2) := by omega
  clear hat ih hpos hlim h2 hd
  have HW0 := Lib.hid h
  have HB := Lib.hid h.1
  have HBW := Lib.hid hBw
  have HNE := Lib.hid (show w.heap.size ≠ wb from by have := h.lt; omega)
  clear h hBw
  have HX := Lib.hid (Blk.made w #[.int .i64 5, .string ⟨#[]⟩, .string ⟨#[]⟩, .slice ao ps.length c] 98)
  have HX1 := Lib.hid (HX.out.other (a := ⟨wb, 2, none⟩) HNE.out (.bool false))
  have HX2 := Lib.hid (HX1.out.other (a := ⟨wb, 2, none⟩) HNE.out (.bool false))
  have HW1 := Lib.hid ((HW0.out.up ((Below.refl _ w).alloc (Nat.le_refl _) (.cells #[.int .i64 5, .string ⟨#[]⟩, .string ⟨#[]⟩, .slice ao ps.length c] 98))).flag false)
  have HW2 := Lib.hid (HW1.out.flag false)
  have HK2 := Lib.hid (WKept.next (WKept.next (WKept.of ((Below.refl _ w).alloc (Nat.le_refl _) (.cells #[.int .i64 5, .string ⟨#[]⟩, .string ⟨#[]⟩, .slice ao ps.length c] 98)) HBW.out) (WKept.flag (b := wb) HB.out (.bool false))) (WKept.flag (b := wb) HB.out (.bool false)))
  have x0 := HX.out.cells
  have x1 := HX1.out.cells
  have x2 := HX2.out.cells
  obtain ⟨e0, f0⟩ := (HW0.out.up ((Below.refl _ w).alloc (Nat.le_refl _) (.cells #[.int .i64 5, .string ⟨#[]⟩, .string ⟨#[]⟩, .slice ao ps.length c] 98))).odd2
  obtain ⟨e1, f1⟩ := HW1.out.odd2
  obtain ⟨e2, f2⟩ := HW2.out.odd2
  go_enter Tryz.func153, Tryz.ntmps153
  go_wp2_with fail
  obtain ⟨w3, hw3⟩ : ∃ w3, w3 = ((w.alloc (.cells #[.int .i64 5, .string ⟨#[]⟩, .string ⟨#[]⟩, .slice ao ps.length c] 98)).setCell ⟨wb, 2, none⟩ (.bool false)).setCell ⟨wb, 2, none⟩ (.bool false) := ⟨_, rfl⟩
  rw [← hw3] at HX2 HW2 HK2 ⊢
  clear hw3 HX HX1 HW1 x0 x1 x2 e0 e1 e2 f0 f1 f2
  have HB3 := Lib.hid (Nat.le_trans HBW.out HK2.out.size)
  have HR := Lib.hid (wparts_5 ps d HD.out _ HW2.out HB3.out (HAT.out.same (Same.below HK2.out.below)) HPOS.out HLIM.out IH.out)
  unfold rV at HR
  dsimp only [RT.k, RT.a, RT.b] at HR
  refine HR.out.mono ?_
  rintro e w4 ⟨rfl, t4, hw4, hs1, hs2, hadd, hk4⟩
  have HRS := Lib.hid (show WRes B wb w text (ps.all (goodP 5 d)) (joinT 5 ps) (wtL ps) (.returned (.tuple #[])) w4 from ⟨rfl, t4, hw4, hs1, hs2, hadd, WKept.next HK2.out hk4⟩)
  clear HR hw4 hs1 hs2 hadd hk4
  go_wp2_with fail
  go_end0
  exact HRS.out
end Go.Proofs.YtjdigpfipmckhaaGreat
namespace Go.Proofs.YtjdigpfipmckhaaGreat
open Go Go.RowKit
set_option maxRecDepth 100000 in
set_option maxHeartbeats 2000000 in
theorem wrule_1 {B wb : Nat} {text : ByteArray} {w : World} (ra rb : ByteArray) (n : Nat) (ao : Option Addr) (c : Nat) (d : Int) (h : WrB w B wb text false) (hBw : B ≤ w.heap.size) (hpos : 0 < text.size) (hlim : text.size + (10 + ra.size + rb.size) ≤ 1099511627776) :
    Calls Tryz.prog 153 #[.pointer (some ⟨wb, 0, none⟩), .agg #[.int .i64 1, .string ra, .string rb, .slice ao n c], .int .i64 d] w (WRes B wb w text (decide (ra.size = 0) && decide (rb.size = 0) && decide (n = 0)) (⟨#[116, 104, 105, 115]⟩) (10 + ra.size + rb.size)) := by
  have HW0 := Lib.hid h
  have HB := Lib.hid h.1
  have HBW := Lib.hid hBw
  have HNE := Lib.hid (show w.heap.size ≠ wb from by have := h.lt; omega)
  clear h hBw
  have HPOS := Lib.hid hpos
  have HLIM := Lib.hid hlim
  clear hpos hlim
  by_cases hlp : 0 < n
  · have hpI : (0 : Int) < (n : Int) := by omega
    have HOK := Lib.hid (show (decide ((ra : ByteArray).size = 0) && decide ((rb : ByteArray).size = 0) && decide (n = 0)) = false from by
      have hlz : n ≠ 0 := by omega
      simp [hlz])
    rw [HOK.out]
    clear hlp HOK
    have HX := Lib.hid (Blk.made w #[.int .i64 1, .string ra, .string rb, .slice ao n c] 98)
    have HX1 := Lib.hid (HX.out.other (a := ⟨wb, 2, none⟩) HNE.out (.bool true))
    have HX2 := Lib.hid (HX1.out.other (a := ⟨wb, 2, none⟩) HNE.out (.bool true))
    have HW1 := Lib.hid ((HW0.out.up ((Below.refl _ w).alloc (Nat.le_refl _) (.cells #[.int .i64 1, .string ra, .string rb, .slice ao n c] 98))).flag true)
    have HW2 := Lib.hid (HW1.out.flag true)
    have HK2 := Lib.hid (WKept.next (WKept.next (WKept.of ((Below.refl _ w).alloc (Nat.le_refl _) (.cells #[.int .i64 1, .string ra, .string rb, .slice ao n c] 98)) HBW.out) (WKept.flag (b := wb) HB.out (.bool true))) (WKept.flag (b := wb) HB.out (.bool true)))
    have x0 := HX.out.cells
    have x1 := HX1.out.cells
    have x2 := HX2.out.cells
    obtain ⟨e0, f0⟩ := (HW0.out.up ((Below.refl _ w).alloc (Nat.le_refl _) (.cells #[.int .i64 1, .string ra, .string rb, .slice ao n c] 98))).odd2
    obtain ⟨e1, f1⟩ := HW1.out.odd2
    obtain ⟨e2, f2⟩ := HW2.out.odd2
    go_enter Tryz.func153, Tryz.ntmps153
    go_wp2_with fail
    (try simp only [Exit.inBlock, Exit.then])
    refine bodyPost_ret (results_none rfl _ _ _) rfl ?_
    exact WRes.bad HW2.out HK2.out
  · obtain rfl : n = 0 := by omega
    clear hlp
    by_cases hnrb : rb.size = 0
    · obtain rfl := ba_size_eq hnrb
      clear hnrb
      by_cases hnra : ra.size = 0
      · obtain rfl := ba_size_eq hnra
        clear hnra
        rw [show (decide ((⟨#[]⟩ : ByteArray).size = 0) && decide ((⟨#[]⟩ : ByteArray).size = 0) && decide (0 = 0)) = true from rfl]
        have HX := Lib.hid (Blk.made w #[.int .i64 1, .string ⟨#[]⟩, .string ⟨#[]⟩, .slice ao 0 c] 98)
        have HX1 := Lib.hid (HX.out.other (a := ⟨wb, 2, none⟩) HNE.out (.bool false))
        have HX2 := Lib.hid (HX1.out.other (a := ⟨wb, 2, none⟩) HNE.out (.bool false))
        have HW1 := Lib.hid ((HW0.out.up ((Below.refl _ w).alloc (Nat.le_refl _) (.cells #[.int .i64 1, .string ⟨#[]⟩, .string ⟨#[]⟩, .slice ao 0 c] 98))).flag false)
        have HW2 := Lib.hid (HW1.out.flag false)
        have HK2 := Lib.hid (WKept.next (WKept.next (WKept.of ((Below.refl _ w).alloc (Nat.le_refl _) (.cells #[.int .i64 1, .string ⟨#[]⟩, .string ⟨#[]⟩, .slice ao 0 c] 98)) HBW.out) (WKept.flag (b := wb) HB.out (.bool false))) (WKept.flag (b := wb) HB.out (.bool false)))
        have x0 := HX.out.cells
        have x1 := HX1.out.cells
        have x2 := HX2.out.cells
        obtain ⟨e0, f0⟩ := (HW0.out.up ((Below.refl _ w).alloc (Nat.le_refl _) (.cells #[.int .i64 1, .string ⟨#[]⟩, .string ⟨#[]⟩, .slice ao 0 c] 98))).odd2
        obtain ⟨e1, f1⟩ := HW1.out.odd2
        obtain ⟨e2, f2⟩ := HW2.out.odd2
        go_enter Tryz.func153, Tryz.ntmps153
        go_wp2_with fail
        obtain ⟨w3, hw3⟩ : ∃ w3, w3 = ((w.alloc (.cells #[.int .i64 1, .string ⟨#[]⟩, .string ⟨#[]⟩, .slice ao 0 c] 98)).setCell ⟨wb, 2, none⟩ (.bool false)).setCell ⟨wb, 2, none⟩ (.bool false) := ⟨_, rfl⟩
        rw [← hw3] at HX2 HW2 HK2 ⊢
        clear hw3 HX HX1 HW1 x0 x1 x2 e0 e1 e2 f0 f1 f2
        have HB3 := Lib.hid (Nat.le_trans HBW.out HK2.out.size)
        have HS := Lib.hid (writeString_any ⟨#[116, 104, 105, 115]⟩ HW2.out (by have := HLIM.out; show _ + 4 ≤ _; omega) (by have := HPOS.out; omega) HB3.out)
        refine HS.out.mono ?_
        rintro e w4 ⟨rfl, hw4, hk4⟩
        have HW4 := Lib.hid hw4
        have HK4 := Lib.hid (WKept.next HK2.out hk4)
        clear HS hw4 hk4
        go_wp2_with fail
        go_end0
        exact ⟨rfl, _, HW4.out, by rw [ByteArray.size_append]; omega, (by rw [ByteArray.size_append]; show _ + 4 ≤ _; omega), fun _ => rfl, HK4.out⟩
      · have hnera := ba_size_ne hnra
        have HOK := Lib.hid (show (decide ((ra : ByteArray).size = 0) && decide ((⟨#[]⟩ : ByteArray).size = 0) && decide (0 = 0)) = false from by
          simp [hnra])
        rw [HOK.out]
        clear hnra HOK
        have HX := Lib.hid (Blk.made w #[.int .i64 1, .string ra, .string ⟨#[]⟩, .slice ao 0 c] 98)
        have HX1 := Lib.hid (HX.out.other (a := ⟨wb, 2, none⟩) HNE.out (.bool false))
        have HX2 := Lib.hid (HX1.out.other (a := ⟨wb, 2, none⟩) HNE.out (.bool true))
        have HW1 := Lib.hid ((HW0.out.up ((Below.refl _ w).alloc (Nat.le_refl _) (.cells #[.int .i64 1, .string ra, .string ⟨#[]⟩, .slice ao 0 c] 98))).flag false)
        have HW2 := Lib.hid (HW1.out.flag true)
        have HK2 := Lib.hid (WKept.next (WKept.next (WKept.of ((Below.refl _ w).alloc (Nat.le_refl _) (.cells #[.int .i64 1, .string ra, .string ⟨#[]⟩, .slice ao 0 c] 98)) HBW.out) (WKept.flag (b := wb) HB.out (.bool false))) (WKept.flag (b := wb) HB.out (.bool true)))
        have x0 := HX.out.cells
        have x1 := HX1.out.cells
        have x2 := HX2.out.cells
        obtain ⟨e0, f0⟩ := (HW0.out.up ((Below.refl _ w).alloc (Nat.le_refl _) (.cells #[.int .i64 1, .string ra, .string ⟨#[]⟩, .slice ao 0 c] 98))).odd2
        obtain ⟨e1, f1⟩ := HW1.out.odd2
        obtain ⟨e2, f2⟩ := HW2.out.odd2
        go_enter Tryz.func153, Tryz.ntmps153
        go_wp2_with fail
        (try simp only [Exit.inBlock, Exit.then])
        refine bodyPost_ret (results_none rfl _ _ _) rfl ?_
        exact WRes.bad HW2.out HK2.out
    · have hnerb := ba_size_ne hnrb
      have HOK := Lib.hid (show (decide ((ra : ByteArray).size = 0) && decide ((rb : ByteArray).size = 0) && decide (0 = 0)) = false from by
        simp [hnrb])
      rw [HOK.out]
      clear hnrb HOK
      have HX := Lib.hid (Blk.made w #[.int .i64 1, .string ra, .string rb, .slice ao 0 c] 98)
      have HX1 := Lib.hid (HX.out.other (a := ⟨wb, 2, none⟩) HNE.out (.bool false))
      have HX2 := Lib.hid (HX1.out.other (a := ⟨wb, 2, none⟩) HNE.out (.bool true))
      have HW1 := Lib.hid ((HW0.out.up ((Below.refl _ w).alloc (Nat.le_refl _) (.cells #[.int .i64 1, .string ra, .string rb, .slice ao 0 c] 98))).flag false)
      have HW2 := Lib.hid (HW1.out.flag true)
      have HK2 := Lib.hid (WKept.next (WKept.next (WKept.of ((Below.refl _ w).alloc (Nat.le_refl _) (.cells #[.int .i64 1, .string ra, .string rb, .slice ao 0 c] 98)) HBW.out) (WKept.flag (b := wb) HB.out (.bool false))) (WKept.flag (b := wb) HB.out (.bool true)))
      have x0 := HX.out.cells
      have x1 := HX1.out.cells
      have x2 := HX2.out.cells
      obtain ⟨e0, f0⟩ := (HW0.out.up ((Below.refl _ w).alloc (Nat.le_refl _) (.cells #[.int .i64 1, .string ra, .string rb, .slice ao 0 c] 98))).odd2
      obtain ⟨e1, f1⟩ := HW1.out.odd2
      obtain ⟨e2, f2⟩ := HW2.out.odd2
      go_enter Tryz.func153, Tryz.ntmps153
      go_wp2_with fail
      (try simp only [Exit.inBlock, Exit.then])
      refine bodyPost_ret (results_none rfl _ _ _) rfl ?_
      exact WRes.bad HW2.out HK2.out
end Go.Proofs.YtjdigpfipmckhaaGreat
namespace Go.Proofs.YtjdigpfipmckhaaGreat
open Go Go.RowKit
set_option maxRecDepth 100000 in
set_option maxHeartbeats 2000000 in
theorem wrule_2 {B wb : Nat} {text : ByteArray} {w : World} (ra rb : ByteArray) (n : Nat) (ao : Option Addr) (c : Nat) (d : Int) (h : WrB w B wb text false) (hBw : B ≤ w.heap.size) (hpos : 0 < text.size) (hlim : text.size + (10 + ra.size + rb.size) ≤ 1099511627776) :
    Calls Tryz.prog 153 #[.pointer (some ⟨wb, 0, none⟩), .agg #[.int .i64 2, .string ra, .string rb, .slice ao n c], .int .i64 d] w (WRes B wb w text (ownB ra && decide (rb.size = 0) && decide (n = 0)) (ra) (10 + ra.size + rb.size)) := by
  have HW0 := Lib.hid h
  have HB := Lib.hid h.1
  have HBW := Lib.hid hBw
  have HNE := Lib.hid (show w.heap.size ≠ wb from by have := h.lt; omega)
  clear h hBw
  have HPOS := Lib.hid hpos
  have HLIM := Lib.hid hlim
  clear hpos hlim
  by_cases hlp : 0 < n
  · have hpI : (0 : Int) < (n : Int) := by omega
    have HOK := Lib.hid (show (ownB ra && decide ((rb : ByteArray).size = 0) && decide (n = 0)) = false from by
      have hlz : n ≠ 0 := by omega
      simp [hlz])
    rw [HOK.out]
    clear hlp HOK
    have HX := Lib.hid (Blk.made w #[.int .i64 2, .string ra, .string rb, .slice ao n c] 98)
    have HX1 := Lib.hid (HX.out.other (a := ⟨wb, 2, none⟩) HNE.out (.bool true))
    have HX2 := Lib.hid (HX1.out.other (a := ⟨wb, 2, none⟩) HNE.out (.bool true))
    have HW1 := Lib.hid ((HW0.out.up ((Below.refl _ w).alloc (Nat.le_refl _) (.cells #[.int .i64 2, .string ra, .string rb, .slice ao n c] 98))).flag true)
    have HW2 := Lib.hid (HW1.out.flag true)
    have HK2 := Lib.hid (WKept.next (WKept.next (WKept.of ((Below.refl _ w).alloc (Nat.le_refl _) (.cells #[.int .i64 2, .string ra, .string rb, .slice ao n c] 98)) HBW.out) (WKept.flag (b := wb) HB.out (.bool true))) (WKept.flag (b := wb) HB.out (.bool true)))
    have x0 := HX.out.cells
    have x1 := HX1.out.cells
    have x2 := HX2.out.cells
    obtain ⟨e0, f0⟩ := (HW0.out.up ((Below.refl _ w).alloc (Nat.le_refl _) (.cells #[.int .i64 2, .string ra, .string rb, .slice ao n c] 98))).odd2
    obtain ⟨e1, f1⟩ := HW1.out.odd2
    obtain ⟨e2, f2⟩ := HW2.out.odd2
    go_enter Tryz.func153, Tryz.ntmps153
    go_wp2_with fail
    (try simp only [Exit.inBlock, Exit.then])
    refine bodyPost_ret (results_none rfl _ _ _) rfl ?_
    exact WRes.bad HW2.out HK2.out
  · obtain rfl : n = 0 := by omega
    clear hlp
    by_cases hnrb : rb.size = 0
    · obtain rfl := ba_size_eq hnrb
      clear hnrb
      by_cases hnra : ra.size = 0
      · obtain rfl := ba_size_eq hnra
        clear hnra
        rw [show (ownB ⟨#[]⟩ && decide ((⟨#[]⟩ : ByteArray).size = 0) && decide (0 = 0)) = ownB ⟨#[]⟩ from by cases ownB ⟨#[]⟩ <;> rfl]
        have HX := Lib.hid (Blk.made w #[.int .i64 2, .string ⟨#[]⟩, .string ⟨#[]⟩, .slice ao 0 c] 98)
        have HX1 := Lib.hid (HX.out.other (a := ⟨wb, 2, none⟩) HNE.out (.bool false))
        have HX2 := Lib.hid (HX1.out.other (a := ⟨wb, 2, none⟩) HNE.out (.bool false))
        have HW1 := Lib.hid ((HW0.out.up ((Below.refl _ w).alloc (Nat.le_refl _) (.cells #[.int .i64 2, .string ⟨#[]⟩, .string ⟨#[]⟩, .slice ao 0 c] 98))).flag false)
        have HW2 := Lib.hid (HW1.out.flag false)
        have HK2 := Lib.hid (WKept.next (WKept.next (WKept.of ((Below.refl _ w).alloc (Nat.le_refl _) (.cells #[.int .i64 2, .string ⟨#[]⟩, .string ⟨#[]⟩, .slice ao 0 c] 98)) HBW.out) (WKept.flag (b := wb) HB.out (.bool false))) (WKept.flag (b := wb) HB.out (.bool false)))
        have x0 := HX.out.cells
        have x1 := HX1.out.cells
        have x2 := HX2.out.cells
        obtain ⟨e0, f0⟩ := (HW0.out.up ((Below.refl _ w).alloc (Nat.le_refl _) (.cells #[.int .i64 2, .string ⟨#[]⟩, .string ⟨#[]⟩, .slice ao 0 c] 98))).odd2
        obtain ⟨e1, f1⟩ := HW1.out.odd2
        obtain ⟨e2, f2⟩ := HW2.out.odd2
        go_enter Tryz.func153, Tryz.ntmps153
        go_wp2_with fail
        obtain ⟨w3, hw3⟩ : ∃ w3, w3 = ((w.alloc (.cells #[.int .i64 2, .string ⟨#[]⟩, .string ⟨#[]⟩, .slice ao 0 c] 98)).setCell ⟨wb, 2, none⟩ (.bool false)).setCell ⟨wb, 2, none⟩ (.bool false) := ⟨_, rfl⟩
        rw [← hw3] at HX2 HW2 HK2 ⊢
        clear hw3 HX HX1 HW1 x0 x1 x2 e0 e1 e2 f0 f1 f2
        have HB3 := Lib.hid (Nat.le_trans HBW.out HK2.out.size)
        have HS := Lib.hid (wname_any ⟨#[]⟩ HW2.out (by have := HLIM.out; omega) HPOS.out (by have := HLIM.out; unfold maxLen; omega) HB3.out)
        refine HS.out.mono ?_
        rintro e w4 ⟨rfl, hw4, hk4⟩
        have HW4 := Lib.hid hw4
        have HK4 := Lib.hid (WKept.next HK2.out hk4)
        clear HS hw4 hk4
        go_wp2_with fail
        go_end0
        exact ⟨rfl, _, (by have := HW4.out; rwa [Bool.false_or] at this), by rw [ByteArray.size_append]; omega, (by rw [ByteArray.size_append]; omega), fun _ => rfl, HK4.out⟩
      · have hnera := ba_size_ne hnra
        clear hnra
        rw [show (ownB ra && decide ((⟨#[]⟩ : ByteArray).size = 0) && decide (0 = 0)) = ownB ra from by cases ownB ra <;> rfl]
        have HX := Lib.hid (Blk.made w #[.int .i64 2, .string ra, .string ⟨#[]⟩, .slice ao 0 c] 98)
        have HX1 := Lib.hid (HX.out.other (a := ⟨wb, 2, none⟩) HNE.out (.bool false))
        have HX2 := Lib.hid (HX1.out.other (a := ⟨wb, 2, none⟩) HNE.out (.bool false))
        have HW1 := Lib.hid ((HW0.out.up ((Below.refl _ w).alloc (Nat.le_refl _) (.cells #[.int .i64 2, .string ra, .string ⟨#[]⟩, .slice ao 0 c] 98))).flag false)
        have HW2 := Lib.hid (HW1.out.flag false)
        have HK2 := Lib.hid (WKept.next (WKept.next (WKept.of ((Below.refl _ w).alloc (Nat.le_refl _) (.cells #[.int .i64 2, .string ra, .string ⟨#[]⟩, .slice ao 0 c] 98)) HBW.out) (WKept.flag (b := wb) HB.out (.bool false))) (WKept.flag (b := wb) HB.out (.bool false)))
        have x0 := HX.out.cells
        have x1 := HX1.out.cells
        have x2 := HX2.out.cells
        obtain ⟨e0, f0⟩ := (HW0.out.up ((Below.refl _ w).alloc (Nat.le_refl _) (.cells #[.int .i64 2, .string ra, .string ⟨#[]⟩, .slice ao 0 c] 98))).odd2
        obtain ⟨e1, f1⟩ := HW1.out.odd2
        obtain ⟨e2, f2⟩ := HW2.out.odd2
        go_enter Tryz.func153, Tryz.ntmps153
        go_wp2_with fail
        obtain ⟨w3, hw3⟩ : ∃ w3, w3 = ((w.alloc (.cells #[.int .i64 2, .string ra, .string ⟨#[]⟩, .slice ao 0 c] 98)).setCell ⟨wb, 2, none⟩ (.bool false)).setCell ⟨wb, 2, none⟩ (.bool false) := ⟨_, rfl⟩
        rw [← hw3] at HX2 HW2 HK2 ⊢
        clear hw3 HX HX1 HW1 x0 x1 x2 e0 e1 e2 f0 f1 f2
        have HB3 := Lib.hid (Nat.le_trans HBW.out HK2.out.size)
        have HS := Lib.hid (wname_any ra HW2.out (by have := HLIM.out; omega) HPOS.out (by have := HLIM.out; unfold maxLen; omega) HB3.out)
        refine HS.out.mono ?_
        rintro e w4 ⟨rfl, hw4, hk4⟩
        have HW4 := Lib.hid hw4
        have HK4 := Lib.hid (WKept.next HK2.out hk4)
        clear HS hw4 hk4
        go_wp2_with fail
        go_end0
        exact ⟨rfl, _, (by have := HW4.out; rwa [Bool.false_or] at this), by rw [ByteArray.size_append]; omega, (by rw [ByteArray.size_append]; omega), fun _ => rfl, HK4.out⟩
    · have hnerb := ba_size_ne hnrb
      have HOK := Lib.hid (show (ownB ra && decide ((rb : ByteArray).size = 0) && decide (0 = 0)) = false from by
        simp [hnrb])
      rw [HOK.out]
      clear hnrb HOK
      have HX := Lib.hid (Blk.made w #[.int .i64 2, .string ra, .string rb, .slice ao 0 c] 98)
      have HX1 := Lib.hid (HX.out.other (a := ⟨wb, 2, none⟩) HNE.out (.bool false))
      have HX2 := Lib.hid (HX1.out.other (a := ⟨wb, 2, none⟩) HNE.out (.bool true))
      have HW1 := Lib.hid ((HW0.out.up ((Below.refl _ w).alloc (Nat.le_refl _) (.cells #[.int .i64 2, .string ra, .string rb, .slice ao 0 c] 98))).flag false)
      have HW2 := Lib.hid (HW1.out.flag true)
      have HK2 := Lib.hid (WKept.next (WKept.next (WKept.of ((Below.refl _ w).alloc (Nat.le_refl _) (.cells #[.int .i64 2, .string ra, .string rb, .slice ao 0 c] 98)) HBW.out) (WKept.flag (b := wb) HB.out (.bool false))) (WKept.flag (b := wb) HB.out (.bool true)))
      have x0 := HX.out.cells
      have x1 := HX1.out.cells
      have x2 := HX2.out.cells
      obtain ⟨e0, f0⟩ := (HW0.out.up ((Below.refl _ w).alloc (Nat.le_refl _) (.cells #[.int .i64 2, .string ra, .string rb, .slice ao 0 c] 98))).odd2
      obtain ⟨e1, f1⟩ := HW1.out.odd2
      obtain ⟨e2, f2⟩ := HW2.out.odd2
      go_enter Tryz.func153, Tryz.ntmps153
      go_wp2_with fail
      (try simp only [Exit.inBlock, Exit.then])
      refine bodyPost_ret (results_none rfl _ _ _) rfl ?_
      exact WRes.bad HW2.out HK2.out
end Go.Proofs.YtjdigpfipmckhaaGreat
