/- Lemmas for the claim, no condition. -/
import Derived.Test.YtjdigpfipmckhaaYRcMost0
import Derived.Test.YtjdigpfipmckhaaYRcMost27
import Derived.Test.YtjdigpfipmckhaaYRcMost5
namespace Go.Proofs.Ytjdigpfipmckhaa
open Go Go.RowKit
def J5 {α0 α1 α2 α3 α4 : Type} (F : α0 → α1 → α2 → α3 → α4 → World → Prop) (A : α0 → α1 → α2 → α3 → α4 → Act) (e : Exit) (a : Act) (W : World) : Prop := e = .normal ∧ ∃ (x0 : α0) (x1 : α1) (x2 : α2) (x3 : α3) (x4 : α4), a = A x0 x1 x2 x3 x4 ∧ F x0 x1 x2 x3 x4 W
def J7 {α0 α1 α2 α3 α4 α5 α6 : Type} (F : α0 → α1 → α2 → α3 → α4 → α5 → α6 → World → Prop) (A : α0 → α1 → α2 → α3 → α4 → α5 → α6 → Act) (e : Exit) (a : Act) (W : World) : Prop := e = .normal ∧ ∃ (x0 : α0) (x1 : α1) (x2 : α2) (x3 : α3) (x4 : α4) (x5 : α5) (x6 : α6), a = A x0 x1 x2 x3 x4 x5 x6 ∧ F x0 x1 x2 x3 x4 x5 x6 W
end Go.Proofs.Ytjdigpfipmckhaa
namespace Go.Proofs.Ytjdigpfipmckhaa
open Go Go.RowKit Go.Maps
abbrev KR (tp rb : Nat) (w w' : World) : Prop := Kept (fun b => b < w.heap.size ∧ b ≠ tp ∧ b ≠ rb) w w'
theorem KR.step {tp rb : Nat} {w w' w'' : World} (h : KR tp rb w w') (k : KT tp w' w'') : KR tp rb w w'' := Kept.trans h (Kept.mono k fun b hb => ⟨Nat.lt_of_lt_of_le hb.1 h.size, hb.2.1⟩)
theorem TyRow.ext {lo : Nat} {w W : World} {tp n b off : Nat} (h : TyRow (fun b => b < lo ∧ b ≠ tp) w n b off) (hl : lo ≤ w.heap.size) (hx : KT tp w W) : TyRow (fun b => b < lo ∧ b ≠ tp) W n b off := by
  refine ⟨h.1, fun i hi => ?_⟩
  obtain ⟨nm, b2, off2, m, c2, e0, e1, hnz, hm1, hm2, hR⟩ := h.2 i hi
  refine ⟨nm, b2, off2, m, c2, Kept.cell hx ⟨Nat.lt_of_lt_of_le h.1.1 hl, h.1.2⟩ e0, Kept.cell hx ⟨Nat.lt_of_lt_of_le h.1.1 hl, h.1.2⟩ e1, hnz, hm1, hm2, hR.1, fun j hj => ?_⟩
  obtain ⟨rn, hr, hz⟩ := hR.2 j hj
  exact ⟨rn, Kept.cell hx ⟨Nat.lt_of_lt_of_le hR.1.1 hl, hR.1.2⟩ hr, hz⟩
theorem RelRow.ext {lo : Nat} {w W : World} {tp m b off : Nat} (h : RelRow (fun b => b < lo ∧ b ≠ tp) w m b off) (hl : lo ≤ w.heap.size) (hx : KT tp w W) : RelRow (fun b => b < lo ∧ b ≠ tp) W m b off :=
  ⟨h.1, fun j hj => by
    obtain ⟨rn, hr, hz⟩ := h.2 j hj
    exact ⟨rn, Kept.cell hx ⟨Nat.lt_of_lt_of_le h.1.1 hl, h.1.2⟩ hr, hz⟩⟩
structure TyP (lo : Nat) (wd W : World) (tp b7 : Nat) (nm : ByteArray) (b2 off2 m c2 : Nat) : Prop where
  X : KT tp wd W
  T : Tp W tp
  B : Blk W b7 #[.string nm, .slice (some ⟨b2, off2, none⟩) m c2] 62
  up : wd.heap.size ≤ b7
  nz : nm.size ≤ maxLen
  mm : 1 ≤ m ∧ m ≤ 1000
  R : RelRow (fun b => b < lo ∧ b ≠ tp) wd m b2 off2
set_option maxRecDepth 100000 in
set_option maxHeartbeats 2000000 in
theorem mkPoint_row (n b off c tp : Nat) (w : World) (htp : Tp w tp) (hrow : TyRow (fun b => b < w.heap.size ∧ b ≠ tp) w n b off) (hn : 1 ≤ n ∧ n ≤ 1000) :
    Calls Try.prog 9 #[.pointer (some ⟨tp, 0, none⟩), .agg #[.slice (some ⟨b, off, none⟩) n c]] w fun e w' => ∃ p : P3, e = .returned (pV p) ∧ p.Ok ∧ Tp w' tp ∧ KT tp w w' := by
  obtain ⟨wa, hwa⟩ : ∃ x, x = w.alloc (.cells #[.slice (some ⟨b, off, none⟩) n c] 29) := ⟨_, rfl⟩
  obtain ⟨wb, hwb⟩ : ∃ x, x = wa.alloc (.cells #[.string ⟨#[]⟩, .string ⟨#[]⟩, .string ⟨#[]⟩] 36) := ⟨_, rfl⟩
  have ea : wa.heap.size = w.heap.size + 1 := by rw [hwa]; simp
  have eb : wb.heap.size = w.heap.size + 2 := by rw [hwb]; simp [ea]
  have xa : Ext w wa := by rw [hwa]; exact Ext.alloc _ _
  have xb : Ext wa wb := by rw [hwb]; exact Ext.alloc _ _
  have HSB := Lib.hid (show Blk wb w.heap.size #[.slice (some ⟨b, off, none⟩) n c] 29 from Blk.below (by rw [hwa]; exact Blk.made _ _ _) xb)
  have HPB := Lib.hid (show Blk wb (w.heap.size + 1) #[.string ⟨#[]⟩, .string ⟨#[]⟩, .string ⟨#[]⟩] 36 from by rw [hwb, ← ea]; exact Blk.made _ _ _)
  have HXW := Lib.hid (show KT tp w wb from KT.of (xa.trans xb))
  have HRW := Lib.hid (hrow.ext (Nat.le_refl _) HXW.out)
  have HLL := Lib.hid (show w.heap.size ≤ wb.heap.size from HXW.out.size)
  have HT := Lib.hid (htp.ext (xa.trans xb))
  have HN := Lib.hid hn
  have HSN := Lib.hid (show w.heap.size ≠ tp from by have := htp.lt; omega)
  have HPN := Lib.hid (show w.heap.size + 1 ≠ tp from by have := htp.lt; omega)
  have HLT := Lib.hid (show tp < wb.heap.size from by have := htp.lt; omega)
  have HL0 := Lib.hid htp.lt
  have hz0 : (0 : Int) ≤ (n : Int) := by omega
  clear hrow hn htp xa xb ea eb
  subst hwa
  go_enter Try.func9, Try.ntmps9
  go_wp2_with fail
  rw [← hwb]
  clear hwb
  obtain ⟨wd, hwd⟩ : ∃ wd, Hid (wd = wb.drew) := ⟨_, Lib.hid rfl⟩
  have hxd := Lib.hid (show Ext wb wd from by rw [hwd.out]; exact Ext.drew _)
  have HLT := Lib.hid (Nat.lt_of_lt_of_le HLT.out hxd.out.size)
  have HT := Lib.hid (HT.out.ext hxd.out)
  apply Code.wp_mono (Q := J7 (fun (k b7 : Nat) (nm : ByteArray) (b2 off2 m c2 : Nat) W => TyP (w.heap.size) wd W tp b7 nm b2 off2 m c2) _) ?rest1 ?reg1
  case reg1 =>
    have hE := Lib.hid (show KT tp wd wd from Kept.refl _ _)
    refine region_walkN (KT tp wd) (by rw [← hwd.out]; exact Kept.refl _ _) (by kernel_rfl) (by kernel_rfl) (fun _ _ d _ _ h => by cases h.1) ?_
    rw [← hwd.out]
    have h3 : ∀ W, KT tp wd W → ∀ i, W.cell? ⟨w.heap.size, i, none⟩ = (#[.slice (some ⟨b, off, none⟩) n c] : Array Value)[i]? := fun W h => (Kept.blk h (HSB.out.below hxd.out) ⟨(HSB.out.below hxd.out).lt, HSN.out⟩).cells
    have HRW := Lib.hid (HRW.out.ext HLL.out (KT.of hxd.out))
    have HLL := Lib.hid (Nat.le_trans HLL.out hxd.out.size)
    (refine WalkN.tk [0, 1, 2, 3, 4, 5] ?_; (iterate 6 ((refine TkN.c _ ?_ (by simp only [gtA, gtS, gtZ]; rfl) (by kernel_rfl) (by kernel_rfl) (by rfl) (fun W hW => ?_) ?_; rotate_left; · (go_simp; try with_reducible rfl)); simp only [Act.put, puA, puZ, puS])); refine TkN.n ?_)
    clear h3
    refine WalkN.two 6 9 (by kernel_rfl) ?_ ?_
    refine ⟨_, (by simp only [gtA, gtS, gtZ]; rfl), by rfl, fun K hK => ?_⟩
    go_simp
    refine (next_any tp n wd HT.out (by have := HN.out; omega) (by have := HN.out; omega)).mono ?_
    rintro e u1 ⟨k, rfl, hk0, ht0, hx0⟩
    have hX0 := KT.trans hE.out hx0
    refine hK.out _ _ hX0 ?_
    clear hK
    have hkl0 : k < n := by omega
    have hk0 : (0 : Int) ≤ (k : Int) := by omega
    obtain ⟨nm, b2, off2, m, c2, e0, e1, hnz, hm1, hm2, hR⟩ := HRW.out.2 k hkl0
    have g0 : ∀ W, KT tp wd W → W.cell? ⟨b, off + k * 2, none⟩ = some (.string nm) := fun W h => Kept.cell h ⟨Nat.lt_of_lt_of_le HRW.out.1.1 HLL.out, HRW.out.1.2⟩ e0
    have g1 : ∀ W, KT tp wd W → W.cell? ⟨b, off + k * 2 + 1, none⟩ = some (.slice (some ⟨b2, off2, none⟩) m c2) := fun W h => Kept.cell h ⟨Nat.lt_of_lt_of_le HRW.out.1.1 HLL.out, HRW.out.1.2⟩ e1
    have HNZ := Lib.hid (show nm.size ≤ maxLen ∧ 1 ≤ m ∧ m ≤ 1000 ∧ RelRow (fun b => b < w.heap.size ∧ b ≠ tp) wd m b2 off2 from ⟨hnz, hm1, hm2, hR⟩)
    clear e0 e1 hnz hm1 hm2 hR hk0
    have HT := Lib.hid ht0
    have hE := Lib.hid hX0
    clear hx0 hX0 ht0
    (refine WalkN.tk [7, 8] ?_; (iterate 2 ((refine TkN.c _ ?_ (by simp only [gtA, gtS, gtZ]; rfl) (by kernel_rfl) (by kernel_rfl) (by rfl) (fun W hW => ?_) ?_; rotate_left; · (go_simp; try with_reducible rfl)); simp only [Act.put, puA, puZ, puS])); refine TkN.n ?_)
    clear g0 g1 hk0 hkl0
    refine WalkN.one 9 (by kernel_rfl) ?_
    refine ⟨_, (by simp only [gtA, gtS, gtZ]; rfl), by rfl, fun K hK => ?_⟩
    go_simp
    obtain ⟨b7, hb7⟩ : ∃ x, x = u1.heap.size := ⟨_, rfl⟩
    rw [← hb7]
    have hA1 := Ext.alloc u1 (.cells #[.string ⟨#[]⟩, .slice none 0 0] 62)
    have hO1 : Blk (u1.alloc (.cells #[.string ⟨#[]⟩, .slice none 0 0] 62)) b7 #[.string ⟨#[]⟩, .slice none 0 0] 62 := by rw [hb7]; exact Blk.made _ _ _
    have hX1 := KT.trans hE.out (KT.of hA1)
    have HLO := Lib.hid (show wd.heap.size ≤ b7 from by have := hE.out.size; omega)
    have ht1 := HT.out.ext hA1
    refine hK.out _ _ hX1 ?_
    clear hK hb7 hA1
    generalize u1.alloc (.cells #[.string ⟨#[]⟩, .slice none 0 0] 62) = u2 at *
    have hE := Lib.hid hX1
    have HT := Lib.hid ht1
    have HB7 := Lib.hid hO1
    clear hO1 hX1 ht1
    rotate_left
    refine ⟨_, (by simp only [gtA, gtS, gtZ]; rfl), by rfl, fun K hK => ?_⟩
    go_simp
    obtain ⟨b7, hb7⟩ : ∃ x, x = wd.heap.size := ⟨_, rfl⟩
    rw [← hb7]
    have hA0 := Ext.alloc wd (.cells #[.string ⟨#[]⟩, .slice none 0 0] 62)
    have hO0 : Blk (wd.alloc (.cells #[.string ⟨#[]⟩, .slice none 0 0] 62)) b7 #[.string ⟨#[]⟩, .slice none 0 0] 62 := by rw [hb7]; exact Blk.made _ _ _
    have hX0 := KT.trans hE.out (KT.of hA0)
    have HLO := Lib.hid (show wd.heap.size ≤ b7 from by have := hE.out.size; omega)
    have ht0 := HT.out.ext hA0
    refine hK.out _ _ hX0 ?_
    clear hK hb7 hA0
    generalize wd.alloc (.cells #[.string ⟨#[]⟩, .slice none 0 0] 62) = u1 at *
    have hE := Lib.hid hX0
    have HT := Lib.hid ht0
    have HB7 := Lib.hid hO0
    clear hO0 hX0 ht0
    refine WalkN.one 6 (by kernel_rfl) ?_
    refine ⟨_, (by simp only [gtA, gtS, gtZ]; rfl), by rfl, fun K hK => ?_⟩
    go_simp
    refine (next_any tp n u1 HT.out (by have := HN.out; omega) (by have := HN.out; omega)).mono ?_
    rintro e u2 ⟨k, rfl, hk1, ht1, hx1⟩
    have hX1 := KT.trans hE.out hx1
    refine hK.out _ _ hX1 ?_
    clear hK
    have hkl1 : k < n := by omega
    have hk0 : (0 : Int) ≤ (k : Int) := by omega
    obtain ⟨nm, b2, off2, m, c2, e0, e1, hnz, hm1, hm2, hR⟩ := HRW.out.2 k hkl1
    have g0 : ∀ W, KT tp wd W → W.cell? ⟨b, off + k * 2, none⟩ = some (.string nm) := fun W h => Kept.cell h ⟨Nat.lt_of_lt_of_le HRW.out.1.1 HLL.out, HRW.out.1.2⟩ e0
    have g1 : ∀ W, KT tp wd W → W.cell? ⟨b, off + k * 2 + 1, none⟩ = some (.slice (some ⟨b2, off2, none⟩) m c2) := fun W h => Kept.cell h ⟨Nat.lt_of_lt_of_le HRW.out.1.1 HLL.out, HRW.out.1.2⟩ e1
    have HNZ := Lib.hid (show nm.size ≤ maxLen ∧ 1 ≤ m ∧ m ≤ 1000 ∧ RelRow (fun b => b < w.heap.size ∧ b ≠ tp) wd m b2 off2 from ⟨hnz, hm1, hm2, hR⟩)
    have HB7 := Lib.hid (hx1.blk HB7.out (by have := HLO.out; have := HLT.out; omega))
    clear e0 e1 hnz hm1 hm2 hR hk1
    have HT := Lib.hid ht1
    have hE := Lib.hid hX1
    clear hx1 hX1 ht1
    (refine WalkN.tk [7, 8] ?_; (iterate 2 ((refine TkN.c _ ?_ (by simp only [gtA, gtS, gtZ]; rfl) (by kernel_rfl) (by kernel_rfl) (by rfl) (fun W hW => ?_) ?_; rotate_left; · (go_simp; try with_reducible rfl)); simp only [Act.put, puA, puZ, puS])); refine TkN.n ?_)
    clear g0 g1 hk0 hkl1
    rotate_left
    all_goals
      refine WalkN.one 10 (by kernel_rfl) ?_
      refine ⟨_, (by simp only [gtA, gtS, gtZ]; rfl), by rfl, fun K hK => ?_⟩
      have c7 := HB7.out.cells
      have f7 := HB7.out.free
      go_simp
      have hS2 := HB7.out.set2D (.string nm) (.slice (some ⟨b2, off2, none⟩) m c2)
      have hX2 : KT tp wd ((u2.setCell ⟨b7, 0, none⟩ (.string nm)).setCell ⟨b7, 1, none⟩ (.slice (some ⟨b2, off2, none⟩) m c2)) := (Kept.set hE.out (a := ⟨b7, 0, none⟩) (fun e => by have := HLO.out; have := e.1; dsimp only at this; omega) (.string nm)).set (a := ⟨b7, 1, none⟩) (fun e => by have := HLO.out; have := e.1; dsimp only at this; omega) (.slice (some ⟨b2, off2, none⟩) m c2)
      have ht2 : Tp ((u2.setCell ⟨b7, 0, none⟩ (.string nm)).setCell ⟨b7, 1, none⟩ (.slice (some ⟨b2, off2, none⟩) m c2)) tp := HT.out.kept (K := fun b => b ≠ b7) (((Kept.refl _ u2).set (a := ⟨b7, 0, none⟩) (fun e => e rfl) (.string nm)).set (a := ⟨b7, 1, none⟩) (fun e => e rfl) (.slice (some ⟨b2, off2, none⟩) m c2)) (fun b hb => by have := HLO.out; have := HLT.out; omega)
      refine hK.out _ _ hX2 ?_
      clear hK c7 f7
      refine WalkN.done (by kernel_rfl) ?_
      exact ⟨rfl, k, b7, nm, b2, off2, m, c2, rfl, hX2, ht2, hS2, HLO.out, HNZ.out.1, ⟨HNZ.out.2.1, HNZ.out.2.2.1⟩, HNZ.out.2.2.2⟩
  rintro e _ W1 ⟨rfl, k, b7, nm, b2, off2, m, c2, rfl, hTP⟩
  have HLL0 := Lib.hid HLL.out
  have HXW := Lib.hid (show KT tp w W1 from KT.trans (KT.trans HXW.out (KT.of hxd.out)) hTP.X)
  have HN7 := Lib.hid (show b7 ≠ tp ∧ w.heap.size + 1 < b7 from by have := hTP.up; have := HL0.out; have := HPB.out.lt; have := hxd.out.size; omega)
  have HPB := Lib.hid (hTP.X.blk (HPB.out.below hxd.out) HPN.out)
  have HT := Lib.hid hTP.T
  have HLT := Lib.hid (show tp < W1.heap.size from hTP.T.lt)
  have HB7 := Lib.hid hTP.B
  have HLL := Lib.hid (show w.heap.size ≤ W1.heap.size from HXW.out.size)
  have HRR := Lib.hid (hTP.R.ext (Nat.le_trans HLL0.out hxd.out.size) hTP.X)
  have HM := Lib.hid hTP.mm
  have HNZ := Lib.hid hTP.nz
  clear hTP hxd hwd HRW HSB HN HSN
  dsimp only
  go_wp2_with fail
  obtain ⟨wd, hwd⟩ : ∃ wd, Hid (wd = W1.drew) := ⟨_, Lib.hid rfl⟩
  have hxd := Lib.hid (show Ext W1 wd from by rw [hwd.out]; exact Ext.drew _)
  have HLT := Lib.hid (Nat.lt_of_lt_of_le HLT.out hxd.out.size)
  have HT := Lib.hid (HT.out.ext hxd.out)
  apply Code.wp_mono (Q := J5 (fun (b3 k3 k4 : Nat) (sid rn : ByteArray) W => KR tp (w.heap.size + 1) wd W ∧ Tp W tp ∧ sid.size ≤ maxLen ∧ rn.size ≤ maxLen ∧ Blk W (w.heap.size + 1) #[.string nm, .string sid, .string rn] 36) _) ?rest2 ?reg2
  case reg2 =>
    have hE := Lib.hid (show KR tp (w.heap.size + 1) wd wd from Kept.refl _ _)
    refine region_walkN (KR tp (w.heap.size + 1) wd) (by rw [← hwd.out]; exact Kept.refl _ _) (by kernel_rfl) (by kernel_rfl) (fun _ _ d _ _ h => by cases h.1) ?_
    rw [← hwd.out]
    have hb7 := HB7.out.below hxd.out
    have h7 : ∀ W, KR tp (w.heap.size + 1) wd W → ∀ i, W.cell? ⟨b7, i, none⟩ = (#[.string nm, .slice (some ⟨b2, off2, none⟩) m c2] : Array Value)[i]? := fun W h => (Kept.blk h hb7 ⟨hb7.lt, HN7.out.1, by have := HN7.out.2; omega⟩).cells
    have HR := Lib.hid (HRR.out.ext HLL.out (KT.of hxd.out))
    have HLL := Lib.hid (Nat.le_trans HLL.out hxd.out.size)
    have HPB := Lib.hid (HPB.out.below hxd.out)
    (refine WalkN.tk [0, 1, 3, 8, 9, 10, 11, 12, 13] ?_; (iterate 9 ((refine TkN.c _ ?_ (by simp only [gtA, gtS, gtZ]; rfl) (by kernel_rfl) (by kernel_rfl) (by rfl) (fun W hW => ?_) ?_; rotate_left; · (go_simp; try with_reducible rfl)); simp only [Act.put, puA, puZ, puS])); refine TkN.n ?_)
    clear h7 hb7
    refine WalkN.two 2 4 (by kernel_rfl) ?_ ?_
    refine ⟨_, (by simp only [gtA, gtS, gtZ]; rfl), by rfl, fun K hK => ?_⟩
    go_simp
    obtain ⟨b3, hb3⟩ : ∃ x, x = wd.heap.size := ⟨_, rfl⟩
    rw [← hb3]
    have hA0 := Ext.alloc wd (.cells #[.string ⟨#[49]⟩, .string ⟨#[50]⟩, .string ⟨#[51]⟩] 9)
    have hO0 : Blk (wd.alloc (.cells #[.string ⟨#[49]⟩, .string ⟨#[50]⟩, .string ⟨#[51]⟩] 9)) b3 #[.string ⟨#[49]⟩, .string ⟨#[50]⟩, .string ⟨#[51]⟩] 9 := by rw [hb3]; exact Blk.made _ _ _
    have hX0 := KR.step hE.out (KT.of hA0)
    have HL3 := Lib.hid (show wd.heap.size ≤ b3 from by have := hE.out.size; omega)
    have HPB := Lib.hid (HPB.out.below hA0)
    have ht0 := HT.out.ext hA0
    refine hK.out _ _ hX0 ?_
    clear hK hb3 hA0
    generalize wd.alloc (.cells #[.string ⟨#[49]⟩, .string ⟨#[50]⟩, .string ⟨#[51]⟩] 9) = u1 at *
    have hE := Lib.hid hX0
    have HT := Lib.hid ht0
    have HB3 := Lib.hid hO0
    clear hO0 hX0 ht0
    refine WalkN.one 4 (by kernel_rfl) ?_
    refine ⟨_, (by simp only [gtA, gtS, gtZ]; rfl), by rfl, fun K hK => ?_⟩
    go_simp
    refine (next_any tp 3 u1 HT.out (by decide) (by decide)).mono ?_
    rintro e u2 ⟨k3, rfl, hk1, ht1, hx1⟩
    have hX1 := KR.step hE.out hx1
    refine hK.out _ _ hX1 ?_
    clear hK
    have HK3 := Lib.hid hk1
    have HPB := Lib.hid (hx1.blk HPB.out HPN.out)
    have HB3 := Lib.hid (hx1.blk HB3.out (by have := HL3.out; have := HLT.out; omega))
    have hk0 : (0 : Int) ≤ (k3 : Int) := by omega
    have hk1 : (k3 : Int) < 3 := hk1
    clear hk1
    have HT := Lib.hid ht1
    have hE := Lib.hid hX1
    clear hx1 hX1 ht1
    ((refine WalkN.take 5 _ ?_ (by simp only [gtA, gtS, gtZ]; rfl) (by kernel_rfl) (by kernel_rfl) (by rfl) (fun W hW => ?_) ?_; rotate_left; · (go_simp; try with_reducible rfl)); simp only [Act.put, puA, puZ, puS])
    clear hk0 hk1
    refine WalkN.two 6 14 (by kernel_rfl) ?_ ?_
    obtain ⟨sid, hsz, h6⟩ : ∃ sid : ByteArray, sid.size ≤ maxLen ∧ u2.cell? ⟨b3, k3, none⟩ = some (.string sid) := by
      have h6 := HB3.out.cells
      have hk := HK3.out
      obtain rfl | rfl | rfl : k3 = 0 ∨ k3 = 1 ∨ k3 = 2 := by omega
      · exact ⟨⟨#[49]⟩, by decide, h6 0⟩
      · exact ⟨⟨#[50]⟩, by decide, h6 1⟩
      · exact ⟨⟨#[51]⟩, by decide, h6 2⟩
    have HSZ := Lib.hid hsz
    refine ⟨_, (by simp only [gtA, gtS, gtZ]; rfl), by rfl, fun K hK => ?_⟩
    go_simp
    refine hK.out _ _ hE.out ?_
    clear hK h6 hsz
    obtain ⟨u3, hw2⟩ : ∃ x, x = u2 := ⟨_, rfl⟩
    rw [← hw2] at hE HT HB3 HPB ⊢
    clear hw2
    ((refine WalkN.take 7 _ ?_ (by simp only [gtA, gtS, gtZ]; rfl) (by kernel_rfl) (by kernel_rfl) (by rfl) (fun W hW => ?_) ?_; rotate_left; · (go_simp; try with_reducible rfl)); simp only [Act.put, puA, puZ, puS])
    refine WalkN.one 14 (by kernel_rfl) ?_
    refine ⟨_, (by simp only [gtA, gtS, gtZ]; rfl), by rfl, fun K hK => ?_⟩
    go_simp
    refine (next_any tp m u3 HT.out (by have := HM.out; omega) (by have := HM.out; omega)).mono ?_
    rintro e u4 ⟨k4, rfl, hk3, ht3, hx3⟩
    have hX3 := KR.step hE.out hx3
    refine hK.out _ _ hX3 ?_
    clear hK
    have HPB := Lib.hid (hx3.blk HPB.out HPN.out)
    have hkm3 : k4 < m := by omega
    have hk0 : (0 : Int) ≤ (k4 : Int) := by omega
    obtain ⟨rn, hrn, hrz⟩ := HR.out.2 k4 hkm3
    have g0 : ∀ W, KR tp (w.heap.size + 1) wd W → W.cell? ⟨b2, off2 + k4 * 5, none⟩ = some (.string rn) := fun W h => Kept.cell h ⟨Nat.lt_of_lt_of_le HR.out.1.1 HLL.out, HR.out.1.2, by have := HR.out.1.1; show b2 ≠ w.heap.size + 1; omega⟩ hrn
    have HRZ := Lib.hid hrz
    have HB3 := Lib.hid (hx3.blk HB3.out (by have := HL3.out; have := HLT.out; omega))
    clear hrn hrz hk3
    have HT := Lib.hid ht3
    have hE := Lib.hid hX3
    clear hx3 hX3 ht3
    (refine WalkN.tk [15, 16, 17] ?_; (iterate 3 ((refine TkN.c _ ?_ (by simp only [gtA, gtS, gtZ]; rfl) (by kernel_rfl) (by kernel_rfl) (by rfl) (fun W hW => ?_) ?_; rotate_left; · (go_simp; try with_reducible rfl)); simp only [Act.put, puA, puZ, puS])); refine TkN.n ?_)
    clear g0 hkm3 hk0
    ((refine WalkN.take 18 _ ?_ (by simp only [gtA, gtS, gtZ]; rfl) (by kernel_rfl) (by kernel_rfl) (by rfl) (fun W hW => ?_) ?_; rotate_left; · (go_simp; try with_reducible rfl)); simp only [Act.put, puA, puZ, puS])
    rotate_left
    refine ⟨_, (by simp only [gtA, gtS, gtZ]; rfl), by rfl, fun K hK => ?_⟩
    go_simp
    refine (next_any tp m u2 HT.out (by have := HM.out; omega) (by have := HM.out; omega)).mono ?_
    rintro e u3 ⟨k4, rfl, hk2, ht2, hx2⟩
    have hX2 := KR.step hE.out hx2
    refine hK.out _ _ hX2 ?_
    clear hK
    have HPB := Lib.hid (hx2.blk HPB.out HPN.out)
    have hkm2 : k4 < m := by omega
    have hk0 : (0 : Int) ≤ (k4 : Int) := by omega
    obtain ⟨rn, hrn, hrz⟩ := HR.out.2 k4 hkm2
    have g0 : ∀ W, KR tp (w.heap.size + 1) wd W → W.cell? ⟨b2, off2 + k4 * 5, none⟩ = some (.string rn) := fun W h => Kept.cell h ⟨Nat.lt_of_lt_of_le HR.out.1.1 HLL.out, HR.out.1.2, by have := HR.out.1.1; show b2 ≠ w.heap.size + 1; omega⟩ hrn
    have HRZ := Lib.hid hrz
    have HB3 := Lib.hid (hx2.blk HB3.out (by have := HL3.out; have := HLT.out; omega))
    clear hrn hrz hk2
    have HT := Lib.hid ht2
    have hE := Lib.hid hX2
    clear hx2 hX2 ht2
    (refine WalkN.tk [15, 16, 17] ?_; (iterate 3 ((refine TkN.c _ ?_ (by simp only [gtA, gtS, gtZ]; rfl) (by kernel_rfl) (by kernel_rfl) (by rfl) (fun W hW => ?_) ?_; rotate_left; · (go_simp; try with_reducible rfl)); simp only [Act.put, puA, puZ, puS])); refine TkN.n ?_)
    clear g0 hkm2 hk0
    refine WalkN.one 6 (by kernel_rfl) ?_
    obtain ⟨sid, hsz, h6⟩ : ∃ sid : ByteArray, sid.size ≤ maxLen ∧ u3.cell? ⟨b3, k3, none⟩ = some (.string sid) := by
      have h6 := HB3.out.cells
      have hk := HK3.out
      obtain rfl | rfl | rfl : k3 = 0 ∨ k3 = 1 ∨ k3 = 2 := by omega
      · exact ⟨⟨#[49]⟩, by decide, h6 0⟩
      · exact ⟨⟨#[50]⟩, by decide, h6 1⟩
      · exact ⟨⟨#[51]⟩, by decide, h6 2⟩
    have HSZ := Lib.hid hsz
    refine ⟨_, (by simp only [gtA, gtS, gtZ]; rfl), by rfl, fun K hK => ?_⟩
    go_simp
    refine hK.out _ _ hE.out ?_
    clear hK h6 hsz
    obtain ⟨u4, hw3⟩ : ∃ x, x = u3 := ⟨_, rfl⟩
    rw [← hw3] at hE HT HB3 HPB ⊢
    clear hw3
    ((refine WalkN.take 7 _ ?_ (by simp only [gtA, gtS, gtZ]; rfl) (by kernel_rfl) (by kernel_rfl) (by rfl) (fun W hW => ?_) ?_; rotate_left; · (go_simp; try with_reducible rfl)); simp only [Act.put, puA, puZ, puS])
    ((refine WalkN.take 18 _ ?_ (by simp only [gtA, gtS, gtZ]; rfl) (by kernel_rfl) (by kernel_rfl) (by rfl) (fun W hW => ?_) ?_; rotate_left; · (go_simp; try with_reducible rfl)); simp only [Act.put, puA, puZ, puS])
    rotate_left
    refine ⟨_, (by simp only [gtA, gtS, gtZ]; rfl), by rfl, fun K hK => ?_⟩
    go_simp
    refine (next_any tp 3 wd HT.out (by decide) (by decide)).mono ?_
    rintro e u1 ⟨k3, rfl, hk0, ht0, hx0⟩
    have hX0 := KR.step hE.out hx0
    refine hK.out _ _ hX0 ?_
    clear hK
    have HK3 := Lib.hid hk0
    have HPB := Lib.hid (hx0.blk HPB.out HPN.out)
    clear hk0
    have HT := Lib.hid ht0
    have hE := Lib.hid hX0
    clear hx0 hX0 ht0
    refine WalkN.two 2 14 (by kernel_rfl) ?_ ?_
    refine ⟨_, (by simp only [gtA, gtS, gtZ]; rfl), by rfl, fun K hK => ?_⟩
    go_simp
    obtain ⟨b3, hb3⟩ : ∃ x, x = u1.heap.size := ⟨_, rfl⟩
    rw [← hb3]
    have hA1 := Ext.alloc u1 (.cells #[.string ⟨#[49]⟩, .string ⟨#[50]⟩, .string ⟨#[51]⟩] 9)
    have hO1 : Blk (u1.alloc (.cells #[.string ⟨#[49]⟩, .string ⟨#[50]⟩, .string ⟨#[51]⟩] 9)) b3 #[.string ⟨#[49]⟩, .string ⟨#[50]⟩, .string ⟨#[51]⟩] 9 := by rw [hb3]; exact Blk.made _ _ _
    have hX1 := KR.step hE.out (KT.of hA1)
    have HL3 := Lib.hid (show wd.heap.size ≤ b3 from by have := hE.out.size; omega)
    have HPB := Lib.hid (HPB.out.below hA1)
    have ht1 := HT.out.ext hA1
    refine hK.out _ _ hX1 ?_
    clear hK hb3 hA1
    generalize u1.alloc (.cells #[.string ⟨#[49]⟩, .string ⟨#[50]⟩, .string ⟨#[51]⟩] 9) = u2 at *
    have hE := Lib.hid hX1
    have HT := Lib.hid ht1
    have HB3 := Lib.hid hO1
    clear hO1 hX1 ht1
    have hk0 : (0 : Int) ≤ (k3 : Int) := by omega
    have hk1 : (k3 : Int) < 3 := HK3.out
    ((refine WalkN.take 5 _ ?_ (by simp only [gtA, gtS, gtZ]; rfl) (by kernel_rfl) (by kernel_rfl) (by rfl) (fun W hW => ?_) ?_; rotate_left; · (go_simp; try with_reducible rfl)); simp only [Act.put, puA, puZ, puS])
    clear hk0 hk1
    refine WalkN.two 6 14 (by kernel_rfl) ?_ ?_
    obtain ⟨sid, hsz, h6⟩ : ∃ sid : ByteArray, sid.size ≤ maxLen ∧ u2.cell? ⟨b3, k3, none⟩ = some (.string sid) := by
      have h6 := HB3.out.cells
      have hk := HK3.out
      obtain rfl | rfl | rfl : k3 = 0 ∨ k3 = 1 ∨ k3 = 2 := by omega
      · exact ⟨⟨#[49]⟩, by decide, h6 0⟩
      · exact ⟨⟨#[50]⟩, by decide, h6 1⟩
      · exact ⟨⟨#[51]⟩, by decide, h6 2⟩
    have HSZ := Lib.hid hsz
    refine ⟨_, (by simp only [gtA, gtS, gtZ]; rfl), by rfl, fun K hK => ?_⟩
    go_simp
    refine hK.out _ _ hE.out ?_
    clear hK h6 hsz
    obtain ⟨u3, hw2⟩ : ∃ x, x = u2 := ⟨_, rfl⟩
    rw [← hw2] at hE HT HB3 HPB ⊢
    clear hw2
    ((refine WalkN.take 7 _ ?_ (by simp only [gtA, gtS, gtZ]; rfl) (by kernel_rfl) (by kernel_rfl) (by rfl) (fun W hW => ?_) ?_; rotate_left; · (go_simp; try with_reducible rfl)); simp only [Act.put, puA, puZ, puS])
    refine WalkN.one 14 (by kernel_rfl) ?_
    refine ⟨_, (by simp only [gtA, gtS, gtZ]; rfl), by rfl, fun K hK => ?_⟩
    go_simp
    refine (next_any tp m u3 HT.out (by have := HM.out; omega) (by have := HM.out; omega)).mono ?_
    rintro e u4 ⟨k4, rfl, hk3, ht3, hx3⟩
    have hX3 := KR.step hE.out hx3
    refine hK.out _ _ hX3 ?_
    clear hK
    have HPB := Lib.hid (hx3.blk HPB.out HPN.out)
    have hkm3 : k4 < m := by omega
    have hk0 : (0 : Int) ≤ (k4 : Int) := by omega
    obtain ⟨rn, hrn, hrz⟩ := HR.out.2 k4 hkm3
    have g0 : ∀ W, KR tp (w.heap.size + 1) wd W → W.cell? ⟨b2, off2 + k4 * 5, none⟩ = some (.string rn) := fun W h => Kept.cell h ⟨Nat.lt_of_lt_of_le HR.out.1.1 HLL.out, HR.out.1.2, by have := HR.out.1.1; show b2 ≠ w.heap.size + 1; omega⟩ hrn
    have HRZ := Lib.hid hrz
    have HB3 := Lib.hid (hx3.blk HB3.out (by have := HL3.out; have := HLT.out; omega))
    clear hrn hrz hk3
    have HT := Lib.hid ht3
    have hE := Lib.hid hX3
    clear hx3 hX3 ht3
    (refine WalkN.tk [15, 16, 17] ?_; (iterate 3 ((refine TkN.c _ ?_ (by simp only [gtA, gtS, gtZ]; rfl) (by kernel_rfl) (by kernel_rfl) (by rfl) (fun W hW => ?_) ?_; rotate_left; · (go_simp; try with_reducible rfl)); simp only [Act.put, puA, puZ, puS])); refine TkN.n ?_)
    clear g0 hkm3 hk0
    ((refine WalkN.take 18 _ ?_ (by simp only [gtA, gtS, gtZ]; rfl) (by kernel_rfl) (by kernel_rfl) (by rfl) (fun W hW => ?_) ?_; rotate_left; · (go_simp; try with_reducible rfl)); simp only [Act.put, puA, puZ, puS])
    rotate_left
    refine ⟨_, (by simp only [gtA, gtS, gtZ]; rfl), by rfl, fun K hK => ?_⟩
    go_simp
    refine (next_any tp m u2 HT.out (by have := HM.out; omega) (by have := HM.out; omega)).mono ?_
    rintro e u3 ⟨k4, rfl, hk2, ht2, hx2⟩
    have hX2 := KR.step hE.out hx2
    refine hK.out _ _ hX2 ?_
    clear hK
    have HPB := Lib.hid (hx2.blk HPB.out HPN.out)
    have hkm2 : k4 < m := by omega
    have hk0 : (0 : Int) ≤ (k4 : Int) := by omega
    obtain ⟨rn, hrn, hrz⟩ := HR.out.2 k4 hkm2
    have g0 : ∀ W, KR tp (w.heap.size + 1) wd W → W.cell? ⟨b2, off2 + k4 * 5, none⟩ = some (.string rn) := fun W h => Kept.cell h ⟨Nat.lt_of_lt_of_le HR.out.1.1 HLL.out, HR.out.1.2, by have := HR.out.1.1; show b2 ≠ w.heap.size + 1; omega⟩ hrn
    have HRZ := Lib.hid hrz
    have HB3 := Lib.hid (hx2.blk HB3.out (by have := HL3.out; have := HLT.out; omega))
    clear hrn hrz hk2
    have HT := Lib.hid ht2
    have hE := Lib.hid hX2
    clear hx2 hX2 ht2
    (refine WalkN.tk [15, 16, 17] ?_; (iterate 3 ((refine TkN.c _ ?_ (by simp only [gtA, gtS, gtZ]; rfl) (by kernel_rfl) (by kernel_rfl) (by rfl) (fun W hW => ?_) ?_; rotate_left; · (go_simp; try with_reducible rfl)); simp only [Act.put, puA, puZ, puS])); refine TkN.n ?_)
    clear g0 hkm2 hk0
    refine WalkN.one 6 (by kernel_rfl) ?_
    obtain ⟨sid, hsz, h6⟩ : ∃ sid : ByteArray, sid.size ≤ maxLen ∧ u3.cell? ⟨b3, k3, none⟩ = some (.string sid) := by
      have h6 := HB3.out.cells
      have hk := HK3.out
      obtain rfl | rfl | rfl : k3 = 0 ∨ k3 = 1 ∨ k3 = 2 := by omega
      · exact ⟨⟨#[49]⟩, by decide, h6 0⟩
      · exact ⟨⟨#[50]⟩, by decide, h6 1⟩
      · exact ⟨⟨#[51]⟩, by decide, h6 2⟩
    have HSZ := Lib.hid hsz
    refine ⟨_, (by simp only [gtA, gtS, gtZ]; rfl), by rfl, fun K hK => ?_⟩
    go_simp
    refine hK.out _ _ hE.out ?_
    clear hK h6 hsz
    obtain ⟨u4, hw3⟩ : ∃ x, x = u3 := ⟨_, rfl⟩
    rw [← hw3] at hE HT HB3 HPB ⊢
    clear hw3
    ((refine WalkN.take 7 _ ?_ (by simp only [gtA, gtS, gtZ]; rfl) (by kernel_rfl) (by kernel_rfl) (by rfl) (fun W hW => ?_) ?_; rotate_left; · (go_simp; try with_reducible rfl)); simp only [Act.put, puA, puZ, puS])
    ((refine WalkN.take 18 _ ?_ (by simp only [gtA, gtS, gtZ]; rfl) (by kernel_rfl) (by kernel_rfl) (by rfl) (fun W hW => ?_) ?_; rotate_left; · (go_simp; try with_reducible rfl)); simp only [Act.put, puA, puZ, puS])
    rotate_left
    refine ⟨_, (by simp only [gtA, gtS, gtZ]; rfl), by rfl, fun K hK => ?_⟩
    go_simp
    refine (next_any tp m u1 HT.out (by have := HM.out; omega) (by have := HM.out; omega)).mono ?_
    rintro e u2 ⟨k4, rfl, hk1, ht1, hx1⟩
    have hX1 := KR.step hE.out hx1
    refine hK.out _ _ hX1 ?_
    clear hK
    have HPB := Lib.hid (hx1.blk HPB.out HPN.out)
    have hkm1 : k4 < m := by omega
    have hk0 : (0 : Int) ≤ (k4 : Int) := by omega
    obtain ⟨rn, hrn, hrz⟩ := HR.out.2 k4 hkm1
    have g0 : ∀ W, KR tp (w.heap.size + 1) wd W → W.cell? ⟨b2, off2 + k4 * 5, none⟩ = some (.string rn) := fun W h => Kept.cell h ⟨Nat.lt_of_lt_of_le HR.out.1.1 HLL.out, HR.out.1.2, by have := HR.out.1.1; show b2 ≠ w.heap.size + 1; omega⟩ hrn
    have HRZ := Lib.hid hrz
    clear hrn hrz hk1
    have HT := Lib.hid ht1
    have hE := Lib.hid hX1
    clear hx1 hX1 ht1
    (refine WalkN.tk [15, 16, 17] ?_; (iterate 3 ((refine TkN.c _ ?_ (by simp only [gtA, gtS, gtZ]; rfl) (by kernel_rfl) (by kernel_rfl) (by rfl) (fun W hW => ?_) ?_; rotate_left; · (go_simp; try with_reducible rfl)); simp only [Act.put, puA, puZ, puS])); refine TkN.n ?_)
    clear g0 hkm1 hk0
    refine WalkN.one 2 (by kernel_rfl) ?_
    refine ⟨_, (by simp only [gtA, gtS, gtZ]; rfl), by rfl, fun K hK => ?_⟩
    go_simp
    obtain ⟨b3, hb3⟩ : ∃ x, x = u2.heap.size := ⟨_, rfl⟩
    rw [← hb3]
    have hA2 := Ext.alloc u2 (.cells #[.string ⟨#[49]⟩, .string ⟨#[50]⟩, .string ⟨#[51]⟩] 9)
    have hO2 : Blk (u2.alloc (.cells #[.string ⟨#[49]⟩, .string ⟨#[50]⟩, .string ⟨#[51]⟩] 9)) b3 #[.string ⟨#[49]⟩, .string ⟨#[50]⟩, .string ⟨#[51]⟩] 9 := by rw [hb3]; exact Blk.made _ _ _
    have hX2 := KR.step hE.out (KT.of hA2)
    have HL3 := Lib.hid (show wd.heap.size ≤ b3 from by have := hE.out.size; omega)
    have HPB := Lib.hid (HPB.out.below hA2)
    have ht2 := HT.out.ext hA2
    refine hK.out _ _ hX2 ?_
    clear hK hb3 hA2
    generalize u2.alloc (.cells #[.string ⟨#[49]⟩, .string ⟨#[50]⟩, .string ⟨#[51]⟩] 9) = u3 at *
    have hE := Lib.hid hX2
    have HT := Lib.hid ht2
    have HB3 := Lib.hid hO2
    clear hO2 hX2 ht2
    have hk0 : (0 : Int) ≤ (k3 : Int) := by omega
    have hk1 : (k3 : Int) < 3 := HK3.out
    ((refine WalkN.take 5 _ ?_ (by simp only [gtA, gtS, gtZ]; rfl) (by kernel_rfl) (by kernel_rfl) (by rfl) (fun W hW => ?_) ?_; rotate_left; · (go_simp; try with_reducible rfl)); simp only [Act.put, puA, puZ, puS])
    clear hk0 hk1
    refine WalkN.one 6 (by kernel_rfl) ?_
    obtain ⟨sid, hsz, h6⟩ : ∃ sid : ByteArray, sid.size ≤ maxLen ∧ u3.cell? ⟨b3, k3, none⟩ = some (.string sid) := by
      have h6 := HB3.out.cells
      have hk := HK3.out
      obtain rfl | rfl | rfl : k3 = 0 ∨ k3 = 1 ∨ k3 = 2 := by omega
      · exact ⟨⟨#[49]⟩, by decide, h6 0⟩
      · exact ⟨⟨#[50]⟩, by decide, h6 1⟩
      · exact ⟨⟨#[51]⟩, by decide, h6 2⟩
    have HSZ := Lib.hid hsz
    refine ⟨_, (by simp only [gtA, gtS, gtZ]; rfl), by rfl, fun K hK => ?_⟩
    go_simp
    refine hK.out _ _ hE.out ?_
    clear hK h6 hsz
    obtain ⟨u4, hw3⟩ : ∃ x, x = u3 := ⟨_, rfl⟩
    rw [← hw3] at hE HT HB3 HPB ⊢
    clear hw3
    ((refine WalkN.take 7 _ ?_ (by simp only [gtA, gtS, gtZ]; rfl) (by kernel_rfl) (by kernel_rfl) (by rfl) (fun W hW => ?_) ?_; rotate_left; · (go_simp; try with_reducible rfl)); simp only [Act.put, puA, puZ, puS])
    ((refine WalkN.take 18 _ ?_ (by simp only [gtA, gtS, gtZ]; rfl) (by kernel_rfl) (by kernel_rfl) (by rfl) (fun W hW => ?_) ?_; rotate_left; · (go_simp; try with_reducible rfl)); simp only [Act.put, puA, puZ, puS])
    rotate_left
    all_goals
      refine WalkN.one 19 (by kernel_rfl) ?_
      refine ⟨_, (by simp only [gtA, gtS, gtZ]; rfl), by rfl, fun K hK => ?_⟩
      have cp := HPB.out.cells
      have fp := HPB.out.free
      go_simp
      have hS4 := ((HPB.out.set_to (cs' := #[.string nm, .string ⟨#[]⟩, .string ⟨#[]⟩]) 0 (.string nm) rfl).set_to (cs' := #[.string nm, .string sid, .string ⟨#[]⟩]) 1 (.string sid) rfl).set_to (cs' := #[.string nm, .string sid, .string rn]) 2 (.string rn) rfl
      have hX4 : KR tp (w.heap.size + 1) wd (((u4.setCell ⟨w.heap.size + 1, 0, none⟩ (.string nm)).setCell ⟨w.heap.size + 1, 1, none⟩ (.string sid)).setCell ⟨w.heap.size + 1, 2, none⟩ (.string rn)) := ((Kept.set hE.out (a := ⟨w.heap.size + 1, 0, none⟩) (fun e => e.2.2 rfl) (.string nm)).set (a := ⟨w.heap.size + 1, 1, none⟩) (fun e => e.2.2 rfl) (.string sid)).set (a := ⟨w.heap.size + 1, 2, none⟩) (fun e => e.2.2 rfl) (.string rn)
      have ht4 : Tp (((u4.setCell ⟨w.heap.size + 1, 0, none⟩ (.string nm)).setCell ⟨w.heap.size + 1, 1, none⟩ (.string sid)).setCell ⟨w.heap.size + 1, 2, none⟩ (.string rn)) tp := HT.out.kept (K := fun b => b ≠ w.heap.size + 1) ((((Kept.refl _ u4).set (a := ⟨w.heap.size + 1, 0, none⟩) (fun e => e rfl) (.string nm)).set (a := ⟨w.heap.size + 1, 1, none⟩) (fun e => e rfl) (.string sid)).set (a := ⟨w.heap.size + 1, 2, none⟩) (fun e => e rfl) (.string rn)) (fun b hb => by have := HL0.out; omega)
      refine hK.out _ _ hX4 ?_
      clear hK cp fp
      refine WalkN.done (by kernel_rfl) ?_
      exact ⟨rfl, b3, k3, k4, sid, rn, rfl, hX4, ht4, HSZ.out, HRZ.out, hS4⟩
  rintro e _ W2 ⟨rfl, b3, k3, k4, sid, rn, rfl, hX2, hT2, hsid, hrn, hblk⟩
  dsimp only
  go_wp2_with fail
  refine bodyPost_ret (results_cell_row rfl _ _ (w.heap.size + 1) 36 #[.string nm, .string sid, .string rn] (0, 0) _ rfl hblk Try.underlying36 rfl (by kernel_rfl)) rfl ?_
  exact ⟨⟨nm, sid, rn⟩, rfl, ⟨HNZ.out, hsid, hrn⟩, hT2, Kept.trans HXW.out (Kept.mono (KR.step (Kept.refl _ _ : KR tp (w.heap.size + 1) W1 W1) (KT.of hxd.out) |> fun h => Kept.trans h (Kept.mono hX2 fun b hb => ⟨Nat.lt_of_lt_of_le hb.1 hxd.out.size, hb.2⟩)) fun b hb => ⟨Nat.lt_of_lt_of_le hb.1 HXW.out.size, hb.2, by have := hb.1; omega⟩)⟩
end Go.Proofs.Ytjdigpfipmckhaa
