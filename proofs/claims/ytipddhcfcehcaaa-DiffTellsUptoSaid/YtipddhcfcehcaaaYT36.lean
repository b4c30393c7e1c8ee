/- Lemmas for the claim, no condition. -/
import Derived.Test.YtipddhcfcehcaaaYT35
import Derived.Test.YtipddhcfcehcaaaYT28
namespace Go.Proofs.Ytipddhcfcehcaaa
open Go Go.RowKit Go.Maps

/-- Whatever two schemas lie there, Diff's answer is one. -/
theorem diff_fixed {ts us : List TyS} {tv uv : Value} {w : World} {cs : List Ch} (ht : TysAt (· < w.heap.size) w ts tv) (hu : TysAt (· < w.heap.size) w us uv) (k1 : SOk ts) (k2 : SOk us) (h0 : chk06 ts = 0) (h1 : chk06 us = 0) (hc : UpC cs) (hp : cs.Perm (diffL ts us)) :
    ∀ W, Ext w W → Calls Try.prog 17 #[.agg #[tv], .agg #[uv]] W fun e W' => ∃ v, e = .returned (.tuple #[v, .int .i64 0]) ∧ Sl (· < W'.heap.size) W' 3 v (chcs cs) ∧ Ext W W' := fun W hW => by
  refine (diff_ok ts us tv uv W (ht.up hW) (hu.up hW) k1 k2 h0 h1).mono ?_
  rintro e W' ⟨v, ds, rfl, hd, hq, ho, hx⟩
  obtain rfl : ds = cs := UpC.eq hd hc fun x => by rw [hq.mem_iff, hp.mem_iff]
  exact ⟨v, rfl, ho.sl.mono fun b hb => hb.2, hx⟩

set_option maxRecDepth 100000 in
set_option maxHeartbeats 2000000 in
theorem tellsLaw_any (ts us : List TyS) (tv uv : Value) (w : World) (ht : TysAt (· < w.heap.size) w ts tv) (hu : TysAt (· < w.heap.size) w us uv) (hb1 : schBk ts ≤ 1048576) (hb2 : schBk us ≤ 1048576) (ho1 : ∀ t ∈ ts, t.Ok) (ho2 : ∀ t ∈ us, t.Ok) :
    Calls Try.prog 5 #[.agg #[tv], .agg #[uv]] w fun e w' => e = .returned (.bool true) ∧ Ext w w' := by
  obtain ⟨aot, ct, rfl, -, -, -⟩ := ht.rows
  obtain ⟨aou, cu, rfl, -, -, -⟩ := hu.rows
  obtain ⟨wa, hwa⟩ : ∃ x, x = w.alloc (.cells #[.slice aot ts.length ct] 24) := ⟨_, rfl⟩
  obtain ⟨wb, hwb⟩ : ∃ x, x = wa.alloc (.cells #[.slice aou us.length cu] 24) := ⟨_, rfl⟩
  have ea : wa.heap.size = w.heap.size + 1 := by rw [hwa]; simp
  have xa : Ext w wa := by rw [hwa]; exact Ext.alloc _ _
  have xb : Ext wa wb := by rw [hwb]; exact Ext.alloc _ _
  have HSA := Lib.hid (show Blk wb w.heap.size #[.slice aot ts.length ct] 24 from Blk.below (by rw [hwa]; exact Blk.made _ _ _) xb)
  have HSB := Lib.hid (show Blk wb (w.heap.size + 1) #[.slice aou us.length cu] 24 from by rw [hwb, ← ea]; exact Blk.made _ _ _)
  have HX := Lib.hid (show Ext w wb from xa.trans xb)
  have HT := Lib.hid ht
  have HU := Lib.hid hu
  have HK1 := Lib.hid (SOk.bk hb1 ho1)
  have HK2 := Lib.hid (SOk.bk hb2 ho2)
  have HW := Lib.hid (show schW ts ≤ 80000000 ∧ schW us ≤ 80000000 from ⟨by have := schW_bk ts; omega, by have := schW_bk us; omega⟩)
  have HF := Lib.hid (fixed07_any wb)
  clear ht hu hb1 hb2 ho1 ho2 xa xb ea
  subst hwb hwa
  go_enter Try.func5, Try.ntmps5
  go_wp2_with fail
  generalize (w.alloc (.cells #[.slice aot ts.length ct] 24)).alloc (.cells #[.slice aou us.length cu] 24) = wb at *
  obtain ⟨b0, hb0⟩ : ∃ x, x = w.heap.size := ⟨_, rfl⟩
  rw [← hb0] at HSA HSB ⊢
  clear hb0
  refine HF.out.mono ?_
  rintro e w1 ⟨rfl, hb1⟩
  have HX1 := Lib.hid (show Ext w w1 from HX.out.trans hb1)
  have HA1 := Lib.hid (HSA.out.below hb1)
  have HB1 := Lib.hid (HSB.out.below hb1)
  have HFW := Lib.hid (few07_any ts us _ _ w1 (HT.out.up HX1.out) (HU.out.up HX1.out) HK1.out.ok HK2.out.ok)
  have a1 := HA1.out.cells
  have b1 := HB1.out.cells
  clear hb1 HF HSA HSB HX
  cases hfe : (fewT ts 200 && fewT us 200) with
  | false =>
    rw [hfe] at HFW
    clear hfe
    go_wp2_with fail
    refine HFW.out.mono ?_
    rintro e w2 ⟨rfl, hb2⟩
    have HX2 := Lib.hid (show Ext w w2 from HX1.out.trans hb2)
    clear hb2 HFW
    go_wp2_with fail
    go_ret
    exact ⟨rfl, HX2.out⟩
  | true =>
    rw [hfe] at HFW
    clear hfe
    go_wp2_with fail
    refine HFW.out.mono ?_
    rintro e w2 ⟨rfl, hb2⟩
    have HX2 := Lib.hid (show Ext w w2 from HX1.out.trans hb2)
    have HA2 := Lib.hid (HA1.out.below hb2)
    have HB2 := Lib.hid (HB1.out.below hb2)
    have a2 := HA2.out.cells
    have b2 := HB2.out.cells
    clear hb2 HFW a1 b1 HA1 HB1 HX1
    by_cases hck : (if chk06 ts = 0 then chk06 us else chk06 ts) = 0
    case neg =>
      have HDB := Lib.hid (show ∀ W, Ext w W → Calls Try.prog 17 #[.agg #[.slice aot ts.length ct], .agg #[.slice aou us.length cu]] W fun e W' => e = .returned (.tuple #[.slice none 0 0, .int .i64 (if chk06 ts = 0 then chk06 us else chk06 ts)]) ∧ Ext W W' from fun W hW => by
        by_cases h0 : chk06 ts = 0
        · rw [if_pos h0] at hck ⊢
          exact diff_bad2 ts us _ _ W (HT.out.up hW) (HU.out.up hW) HK1.out HK2.out h0 hck
        · rw [if_neg h0] at hck ⊢
          exact diff_bad1 ts us _ _ W (HT.out.up hW) (HU.out.up hW) HK1.out h0)
      have HCB := Lib.hid (fun W (hW : Ext w W) => check07_any ts us _ _ W (HT.out.up hW) (HU.out.up hW) HK1.out.ok HK2.out.ok HW.out.1 HW.out.2)
      generalize (if chk06 ts = 0 then chk06 us else chk06 ts) = ck at *
      have HCN := Lib.hid hck
      have hne : (ck != 0) = true := by rw [bne_iff_ne]; exact hck
      have heq : (ck == ck) = true := beq_self_eq_true ck
      have HD1 := Lib.hid (HDB.out w2 HX2.out)
      clear hck
      go_wp2_with fail
      refine HD1.out.mono ?_
      rintro e w3 ⟨rfl, hb3⟩
      have HX3 := Lib.hid (show Ext w w3 from HX2.out.trans hb3)
      have HA3 := Lib.hid (HA2.out.below hb3)
      have HB3 := Lib.hid (HB2.out.below hb3)
      have HAP := Lib.hid (apply_bad _ _ _ _ _ _ (.slice none 0 0) w3 ck HCN.out fun W hW => HDB.out W (HX3.out.trans hW))
      have a3 := HA3.out.cells
      have b3 := HB3.out.cells
      clear hb3 HD1 a2 b2 HA2 HB2 HX2
      go_wp2_with fail
      refine HAP.out.mono ?_
      rintro e w4 ⟨rfl, hb4⟩
      have hx5 := hb4.trans (Ext.alloc w4 (.cells #[.slice none 0 0] 24))
      have HX5 := Lib.hid (show Ext w _ from HX3.out.trans hx5)
      have HC5 := Lib.hid (HCB.out _ HX5.out)
      have HS5 := Lib.hid (Blk.made w4 #[.slice none 0 0] 24)
      have a5 := (HA3.out.below hx5).cells
      have b5 := (HB3.out.below hx5).cells
      clear hb4 hx5 HAP a3 b3 HA3 HB3 HX3
      go_wp2_with fail
      refine HC5.out.mono ?_
      rintro e w6 ⟨rfl, hb6⟩
      have HX6 := Lib.hid (show Ext w w6 from HX5.out.trans hb6)
      have s6 := (HS5.out.below hb6).cells
      clear hb6 HC5 a5 b5 HX5
      go_wp2_with fail
      go_ret
      exact ⟨rfl, HX6.out⟩
    have HC1 := Lib.hid (show chk06 ts = 0 from by
      by_cases h : chk06 ts = 0
      · exact h
      · rw [if_neg h] at hck; exact hck)
    have HC2 := Lib.hid (show chk06 us = 0 from by rw [if_pos HC1.out] at hck; exact hck)
    have HCB := Lib.hid (fun W (hW : Ext w W) => check07_any ts us _ _ W (HT.out.up hW) (HU.out.up hW) HK1.out.ok HK2.out.ok HW.out.1 HW.out.2)
    rw [hck] at HCB
    clear hck
    have HD1 := Lib.hid (diff_ok ts us _ _ w2 (HT.out.up HX2.out) (HU.out.up HX2.out) HK1.out HK2.out HC1.out HC2.out)
    go_wp2_with fail
    refine HD1.out.mono ?_
    rintro e w3 ⟨v3, cs, rfl, hup, hpm, how, hb3⟩
    obtain ⟨ao3, n3, c3, rfl, -, -, -⟩ := how.sl.len
    have HP := Lib.hid (And.intro hup hpm)
    have HX3 := Lib.hid (show Ext w w3 from HX2.out.trans hb3)
    have HA3 := Lib.hid (HA2.out.below hb3)
    have HB3 := Lib.hid (HB2.out.below hb3)
    have HL3 := Lib.hid (show Sl (· < w3.heap.size) w3 3 (.slice ao3 n3 c3) (chcs cs) from how.sl.mono fun b hb => hb.2)
    have HDF := Lib.hid (diff_fixed (HT.out.up HX3.out) (HU.out.up HX3.out) HK1.out HK2.out HC1.out HC2.out hup hpm)
    have HAP := Lib.hid (apply_ok ts us _ _ _ cs w3 (HT.out.up HX3.out) (HU.out.up HX3.out) HK1.out HK2.out (chk_uq HC1.out) (chk_uq HC2.out) HL3.out HDF.out)
    have a3 := HA3.out.cells
    have b3 := HB3.out.cells
    clear hup hpm how hb3 HD1 a2 b2 HA2 HB2 HX2
    go_wp2_with fail
    refine HAP.out.mono ?_
    rintro e w4 ⟨sv, rfl, hst, hb4⟩
    obtain ⟨aos, cs4, rfl, -, -, -⟩ := hst.rows
    obtain ⟨w5, hw5⟩ : ∃ x, x = w4.alloc (.cells #[.slice aos (appL ts us).length cs4] 24) := ⟨_, rfl⟩
    have x45 : Ext w4 w5 := by rw [hw5]; exact Ext.alloc _ _
    have x35 : Ext w3 w5 := Ext.trans hb4 x45
    have HX5 := Lib.hid (show Ext w w5 from HX3.out.trans x35)
    have HC5 := Lib.hid (HCB.out _ HX5.out)
    have HS5 := Lib.hid (show Blk w5 w4.heap.size #[.slice aos (appL ts us).length cs4] 24 from by rw [hw5]; exact Blk.made _ _ _)
    have HA5 := Lib.hid (HA3.out.below x35)
    have HB5 := Lib.hid (HB3.out.below x35)
    have HL5 := Lib.hid ((HL3.out.same (Same.below x35)).mono (T := (· < w5.heap.size)) fun b (hb : b < w3.heap.size) => Nat.lt_of_lt_of_le hb x35.size)
    have HT5 := Lib.hid ((hst.mono (S' := (· < w4.heap.size)) fun b hb => hb.2).up x45)
    have a5 := HA5.out.cells
    have b5 := HB5.out.cells
    clear hst hb4 x45 x35 HAP HDF a3 b3 HA3 HB3 HX3 HL3
    subst hw5
    go_wp2_with fail
    generalize w4.alloc (.cells #[.slice aos (appL ts us).length cs4] 24) = w5 at *
    generalize w4.heap.size = bs at *
    refine HC5.out.mono ?_
    rintro e w6 ⟨rfl, hb6⟩
    have HX6 := Lib.hid (show Ext w w6 from HX5.out.trans hb6)
    have HA6 := Lib.hid (HA5.out.below hb6)
    have HB6 := Lib.hid (HB5.out.below hb6)
    have HS6 := Lib.hid (HS5.out.below hb6)
    have HL6 := Lib.hid ((HL5.out.same (Same.below hb6)).mono (T := (· < w6.heap.size)) fun b (hb : b < w5.heap.size) => Nat.lt_of_lt_of_le hb hb6.size)
    have HT6 := Lib.hid (HT5.out.up hb6)
    clear hb6 HC5 HCB a5 b5 HA5 HB5 HS5 HL5 HT5 HX5
    go_wp2_with fail
    obtain ⟨wd, hwd⟩ : ∃ wd, wd = w6.drew := ⟨_, rfl⟩
    have hbd : Ext w6 wd := by rw [hwd]; exact Ext.drew w6
    have HXd := Lib.hid (show Ext w wd from HX6.out.trans hbd)
    have HAd := Lib.hid (HA6.out.below hbd)
    have HBd := Lib.hid (HB6.out.below hbd)
    have HSd := Lib.hid (HS6.out.below hbd)
    have HLd := Lib.hid ((HL6.out.same (Same.below hbd)).mono (T := (· < wd.heap.size)) fun b (hb : b < w6.heap.size) => Nat.lt_of_lt_of_le hb hbd.size)
    have HTd := Lib.hid (HT6.out.up hbd)
    refine region_walkN (Ext wd) (by rw [← hwd]; exact Ext.refl _) (by kernel_rfl) (by kernel_rfl) (fun _ _ d _ _ h => by cases d <;> exact h) ?_
    rw [← hwd]
    have ga : ∀ W, Ext wd W → W.cell? ⟨b0, 0, none⟩ = some (.slice aot ts.length ct) := fun W h => (HAd.out.below h).cells 0
    have gb : ∀ W, Ext wd W → W.cell? ⟨b0 + 1, 0, none⟩ = some (.slice aou us.length cu) := fun W h => (HBd.out.below h).cells 0
    have gs : ∀ W, Ext wd W → W.cell? ⟨bs, 0, none⟩ = some (.slice aos (appL ts us).length cs4) := fun W h => (HSd.out.below h).cells 0
    clear hwd hbd HX6 HA6 HB6 HS6 HL6 HT6
    ((refine WalkN.take 0 _ ?_ (by simp only [List.getElem?_toArray, List.getElem?_cons_zero]; rfl) (by kernel_rfl) (by kernel_rfl) (by rfl) (fun W hW => ?_) ?_; rotate_left; · (go_simp; try with_reducible rfl)); simp only [Act.put, List.setIfInBounds_toArray, List.set_cons_zero, List.set_cons_succ]); ((refine WalkN.take 1 _ ?_ (by simp only [List.getElem?_toArray, List.getElem?_cons_succ, List.getElem?_cons_zero]; rfl) (by kernel_rfl) (by kernel_rfl) (by rfl) (fun W hW => ?_) ?_; rotate_left; · (go_simp; try with_reducible rfl)); simp only [Act.put, List.setIfInBounds_toArray, List.set_cons_zero, List.set_cons_succ]); ((refine WalkN.take 2 _ ?_ (by simp only [List.getElem?_toArray, List.getElem?_cons_succ, List.getElem?_cons_zero]; rfl) (by kernel_rfl) (by kernel_rfl) (by rfl) (fun W hW => ?_) ?_; rotate_left; · (go_simp; try with_reducible rfl)); simp only [Act.put, List.setIfInBounds_toArray, List.set_cons_zero, List.set_cons_succ]); ((refine WalkN.take 3 _ ?_ (by simp only [List.getElem?_toArray, List.getElem?_cons_succ, List.getElem?_cons_zero]; rfl) (by kernel_rfl) (by kernel_rfl) (by rfl) (fun W hW => ?_) ?_; rotate_left; · (go_simp; try with_reducible rfl)); simp only [Act.put, List.setIfInBounds_toArray, List.set_cons_zero, List.set_cons_succ]); ((refine WalkN.take 4 _ ?_ (by simp only [List.getElem?_toArray, List.getElem?_cons_succ, List.getElem?_cons_zero]; rfl) (by kernel_rfl) (by kernel_rfl) (by rfl) (fun W hW => ?_) ?_; rotate_left; · (go_simp; try with_reducible rfl)); simp only [Act.put, List.setIfInBounds_toArray, List.set_cons_zero, List.set_cons_succ]); ((refine WalkN.take 5 _ ?_ (by simp only [List.getElem?_toArray, List.getElem?_cons_succ, List.getElem?_cons_zero]; rfl) (by kernel_rfl) (by kernel_rfl) (by rfl) (fun W hW => ?_) ?_; rotate_left; · (go_simp; try with_reducible rfl)); simp only [Act.put, List.setIfInBounds_toArray, List.set_cons_zero, List.set_cons_succ]); ((refine WalkN.take 6 _ ?_ (by simp only [List.getElem?_toArray, List.getElem?_cons_succ, List.getElem?_cons_zero]; rfl) (by kernel_rfl) (by kernel_rfl) (by rfl) (fun W hW => ?_) ?_; rotate_left; · (go_simp; try with_reducible rfl)); simp only [Act.put, List.setIfInBounds_toArray, List.set_cons_zero, List.set_cons_succ]); ((refine WalkN.take 7 _ ?_ (by simp only [List.getElem?_toArray, List.getElem?_cons_succ, List.getElem?_cons_zero]; rfl) (by kernel_rfl) (by kernel_rfl) (by rfl) (fun W hW => ?_) ?_; rotate_left; · (go_simp; try with_reducible rfl)); simp only [Act.put, List.setIfInBounds_toArray, List.set_cons_zero, List.set_cons_succ]); ((refine WalkN.take 8 _ ?_ (by simp only [List.getElem?_toArray, List.getElem?_cons_succ, List.getElem?_cons_zero]; rfl) (by kernel_rfl) (by kernel_rfl) (by rfl) (fun W hW => ?_) ?_; rotate_left; · (go_simp; try with_reducible rfl)); simp only [Act.put, List.setIfInBounds_toArray, List.set_cons_zero, List.set_cons_succ]); ((refine WalkN.take 9 _ ?_ (by simp only [List.getElem?_toArray, List.getElem?_cons_succ, List.getElem?_cons_zero]; rfl) (by kernel_rfl) (by kernel_rfl) (by rfl) (fun W hW => ?_) ?_; rotate_left; · (go_simp; try with_reducible rfl)); simp only [Act.put, List.setIfInBounds_toArray, List.set_cons_zero, List.set_cons_succ])
    refine WalkN.one 10 (by kernel_rfl) ?_
    refine ⟨_, (by simp only [List.getElem?_toArray, List.getElem?_cons_succ, List.getElem?_cons_zero]; rfl), by rfl, fun K hK => ?_⟩
    go_simp
    refine (diff7_any ts us _ _ wd (HT.out.up HXd.out) (HU.out.up HXd.out) HK1.out HK2.out HC1.out HC2.out).mono ?_
    rintro e w7 ⟨v7, ds, rfl, hpre, hs7, hx7⟩
    obtain rfl : ds = cs := UpC.eq hpre.up HP.out.1 fun x => by rw [hpre.pm.mem_iff, (d7_perm ts us).mem_iff, HP.out.2.mem_iff]
    obtain ⟨ao7, n7, c7, rfl, -, -, -⟩ := hs7.len
    refine hK.out _ _ hx7 ?_
    clear hK
    try simp only [Act.put, List.setIfInBounds_toArray, List.set_cons_zero, List.set_cons_succ]
    refine WalkN.one 11 (by kernel_rfl) ?_
    refine ⟨_, (by simp only [List.getElem?_toArray, List.getElem?_cons_succ, List.getElem?_cons_zero]; rfl), by rfl, fun K hK => ?_⟩
    go_simp
    refine (sameC_any _ _ ds ds w7 ((HLd.out.same (Same.below hx7)).mono fun b (hb : b < wd.heap.size) => Nat.lt_of_lt_of_le hb hx7.size) hs7).mono ?_
    rintro e w8 ⟨rfl, hb8⟩
    rw [decide_eq_true rfl]
    have hx8 : Ext wd w8 := hx7.trans hb8
    refine hK.out _ _ hx8 ?_
    clear hK hs7 hb8 hx7 hpre
    try simp only [Act.put, List.setIfInBounds_toArray, List.set_cons_zero, List.set_cons_succ]
    ((refine WalkN.take 12 _ ?_ (by simp only [List.getElem?_toArray, List.getElem?_cons_succ, List.getElem?_cons_zero]; rfl) (by kernel_rfl) (by kernel_rfl) (by rfl) (fun W hW => ?_) ?_; rotate_left; · (go_simp; try with_reducible rfl)); simp only [Act.put, List.setIfInBounds_toArray, List.set_cons_zero, List.set_cons_succ]); ((refine WalkN.take 13 _ ?_ (by simp only [List.getElem?_toArray, List.getElem?_cons_succ, List.getElem?_cons_zero]; rfl) (by kernel_rfl) (by kernel_rfl) (by rfl) (fun W hW => ?_) ?_; rotate_left; · (go_simp; try with_reducible rfl)); simp only [Act.put, List.setIfInBounds_toArray, List.set_cons_zero, List.set_cons_succ]); ((refine WalkN.take 14 _ ?_ (by simp only [List.getElem?_toArray, List.getElem?_cons_succ, List.getElem?_cons_zero]; rfl) (by kernel_rfl) (by kernel_rfl) (by rfl) (fun W hW => ?_) ?_; rotate_left; · (go_simp; try with_reducible rfl)); simp only [Act.put, List.setIfInBounds_toArray, List.set_cons_zero, List.set_cons_succ]); ((refine WalkN.take 15 _ ?_ (by simp only [List.getElem?_toArray, List.getElem?_cons_succ, List.getElem?_cons_zero]; rfl) (by kernel_rfl) (by kernel_rfl) (by rfl) (fun W hW => ?_) ?_; rotate_left; · (go_simp; try with_reducible rfl)); simp only [Act.put, List.setIfInBounds_toArray, List.set_cons_zero, List.set_cons_succ]); ((refine WalkN.take 16 _ ?_ (by simp only [List.getElem?_toArray, List.getElem?_cons_succ, List.getElem?_cons_zero]; rfl) (by kernel_rfl) (by kernel_rfl) (by rfl) (fun W hW => ?_) ?_; rotate_left; · (go_simp; try with_reducible rfl)); simp only [Act.put, List.setIfInBounds_toArray, List.set_cons_zero, List.set_cons_succ])
    refine WalkN.one 17 (by kernel_rfl) ?_
    refine ⟨_, (by simp only [List.getElem?_toArray, List.getElem?_cons_succ, List.getElem?_cons_zero]; rfl), by rfl, fun K hK => ?_⟩
    go_simp
    refine (apply7_any ts us _ _ w8 (HT.out.up (HXd.out.trans hx8)) (HU.out.up (HXd.out.trans hx8)) HK1.out HK2.out HC1.out HC2.out).mono ?_
    rintro e w9 ⟨sv9, rfl, hs9, hb9⟩
    obtain ⟨ao9, c9, rfl, -, -, -⟩ := hs9.rows
    have hx9 : Ext wd w9 := hx8.trans hb9
    refine hK.out _ _ hx9 ?_
    clear hK
    try simp only [Act.put, List.setIfInBounds_toArray, List.set_cons_zero, List.set_cons_succ]
    refine WalkN.one 18 (by kernel_rfl) ?_
    refine ⟨_, (by simp only [List.getElem?_toArray, List.getElem?_cons_succ, List.getElem?_cons_zero]; rfl), by rfl, fun K hK => ?_⟩
    go_simp
    refine (same5_any (appL ts us) _ _ w9 (HTd.out.up hx9) hs9).mono ?_
    rintro e w10 ⟨rfl, hb10⟩
    have hx10 : Ext wd w10 := hx9.trans hb10
    refine hK.out _ _ hx10 ?_
    clear hK hs9 hb9 hb10 hx8 hx9 ga gb gs
    try simp only [Act.put, List.setIfInBounds_toArray, List.set_cons_zero, List.set_cons_succ]
    ((refine WalkN.take 19 _ ?_ (by simp only [List.getElem?_toArray, List.getElem?_cons_succ, List.getElem?_cons_zero]; rfl) (by kernel_rfl) (by kernel_rfl) (by rfl) (fun W hW => ?_) ?_; rotate_left; · (go_simp; try with_reducible rfl)); simp only [Act.put, List.setIfInBounds_toArray, List.set_cons_zero, List.set_cons_succ]); ((refine WalkN.take 20 _ ?_ (by simp only [List.getElem?_toArray, List.getElem?_cons_succ, List.getElem?_cons_zero]; rfl) (by kernel_rfl) (by kernel_rfl) (by rfl) (fun W hW => ?_) ?_; rotate_left; · (go_simp; try with_reducible rfl)); simp only [Act.put, List.setIfInBounds_toArray, List.set_cons_zero, List.set_cons_succ])
    refine WalkN.done (by kernel_rfl) ?_
    have HX10 := Lib.hid (show Ext w w10 from HXd.out.trans hx10)
    clear hx10
    go_wp2_with fail
    go_ret
    exact ⟨rfl, HX10.out⟩

end Go.Proofs.Ytipddhcfcehcaaa
