/- Lemmas for the claim, no condition. -/
import Derived.Test.YtipddhcfcehcaaaYB25
namespace Go.Proofs.Ytipddhcfcehcaaa
open Go Go.RowKit Go.Maps

set_option maxRecDepth 100000 in
set_option maxHeartbeats 3000000 in
theorem apply_ok (ts us : List TyS) (tv uv lv : Value) (cs : List Ch) (w : World) (ht : TysAt (· < w.heap.size) w ts tv) (hu : TysAt (· < w.heap.size) w us uv) (k1 : SOk ts) (k2 : SOk us) (u1 : uniqOk ts = true) (u2 : uniqOk us = true) (hl : Sl (· < w.heap.size) w 3 lv (chcs cs)) (HD : ∀ W, Ext w W → Calls Try.prog 17 #[.agg #[tv], .agg #[uv]] W fun e W' => ∃ v, e = .returned (.tuple #[v, .int .i64 0]) ∧ Sl (· < W'.heap.size) W' 3 v (chcs cs) ∧ Ext W W') :
    Calls Try.prog 19 #[.agg #[tv], lv, .agg #[uv]] w fun e w' => ∃ sv, e = .returned (.tuple #[.agg #[sv], .int .i64 0]) ∧ TysAt (fun b => w.heap.size ≤ b ∧ b < w'.heap.size) w' (appL ts us) sv ∧ Ext w w' := by
  have HL := Lib.hid hl
  have HT := Lib.hid ht
  have HU := Lib.hid hu
  have HK1 := Lib.hid k1
  have HK2 := Lib.hid k2
  have HU1 := Lib.hid u1
  have HU2 := Lib.hid u2
  obtain ⟨aol, nl, cl, rfl, -, -, -⟩ := hl.len
  obtain ⟨aot, ct, rfl, hct1, hct2, hrt⟩ := ht.rows
  obtain ⟨aou, cu, rfl, hcu1, hcu2, hru⟩ := hu.rows
  have HRT := Lib.hid hrt
  have HRU := Lib.hid hru
  clear hl ht hu k1 k2 u1 u2 hrt hru
  obtain ⟨wa, hwa⟩ : ∃ x, x = w.alloc (.cells #[.slice aot ts.length ct] 24) := ⟨_, rfl⟩
  obtain ⟨wc, hwc⟩ : ∃ x, x = wa.alloc (.cells #[.slice aou us.length cu] 24) := ⟨_, rfl⟩
  obtain ⟨wb, hwb⟩ : ∃ x, x = wc.alloc (.cells #[.slice none 0 0] 24) := ⟨_, rfl⟩
  have ea : wa.heap.size = w.heap.size + 1 := by rw [hwa]; simp
  have ec : wc.heap.size = w.heap.size + 1 + 1 := by rw [hwc]; simp [ea]
  have xa : Ext w wa := by rw [hwa]; exact Ext.alloc _ _
  have xc : Ext wa wc := by rw [hwc]; exact Ext.alloc _ _
  have xb : Ext wc wb := by rw [hwb]; exact Ext.alloc _ _
  have HA := Lib.hid (show Blk wb w.heap.size #[.slice aot ts.length ct] 24 from Blk.below (by rw [hwa]; exact Blk.made _ _ _) (xc.trans xb))
  have HB := Lib.hid (show Blk wb (w.heap.size + 1) #[.slice aou us.length cu] 24 from Blk.below (by rw [hwc, ← ea]; exact Blk.made _ _ _) xb)
  have HR := Lib.hid (show Blk wb (w.heap.size + 1 + 1) #[.slice none 0 0] 24 from by rw [hwb, ← ec]; exact Blk.made _ _ _)
  have HX := Lib.hid (show Ext w wb from xa.trans (xc.trans xb))
  have HDC := Lib.hid (HD wb HX.out)
  clear xa xc xb ea ec HD
  subst hwb hwc hwa
  go_enter Try.func19, Try.ntmps19
  go_wp2_with fail
  refine HDC.out.mono ?_
  rintro e w1 ⟨v1, rfl, hs1, hb1⟩
  have HX1 := Lib.hid (show Ext w w1 from HX.out.trans hb1)
  have HA1 := Lib.hid (HA.out.below hb1)
  have HB1 := Lib.hid (HB.out.below hb1)
  have HR1 := Lib.hid (HR.out.below hb1)
  have HEQ := Lib.hid (equalC_any v1 _ cs cs w1 hs1 (HL.out.up HX1.out))
  rw [decide_eq_true rfl] at HEQ
  obtain ⟨ao1, n1, c1, rfl, -, -, -⟩ := hs1.len
  clear hb1 hs1 HDC HX HA HB HR HL
  go_wp2_with fail
  refine HEQ.out.mono ?_
  rintro e w2 ⟨rfl, hb2⟩
  obtain ⟨wq, hwq⟩ : ∃ x, x = w2.alloc (.cells #[.slice none 0 0] 24) := ⟨_, rfl⟩
  have xq : Ext w1 wq := Ext.trans hb2 (by rw [hwq]; exact Ext.alloc _ _)
  have HX := Lib.hid (show Ext w wq from HX1.out.trans xq)
  have HA := Lib.hid (HA1.out.below xq)
  have HB := Lib.hid (HB1.out.below xq)
  have HR := Lib.hid (HR1.out.below xq)
  have HRP := Lib.hid (show w.heap.size + 1 + 1 + 1 ≤ w2.heap.size from by have := HR1.out.lt; have := hb2.size; omega)
  have HO := Lib.hid (show ScBox w2.heap.size (w2.heap.size + 1) [] wq [] (.slice none 0 0) from ⟨by rw [hwq]; exact Blk.made _ _ _, Own.nil _ _ _ _, by simp⟩)
  have ab := HA.out.cells
  clear hb2 xq HEQ HX1 HA1 HB1 HR1
  subst hwq
  go_wp2_with fail
  generalize w2.alloc (.cells #[.slice none 0 0] 24) = wb at *
  generalize w2.heap.size = rp at *
  clear ab
  go_loopw [37] (fun iv wr => ∃ (i : Nat) (q : List (TyS × Value)) (ov : Value), i ≤ ts.length ∧ iv = .int .i64 i ∧ q.map (·.1) = (ts.take i).filterMap (appF us) ∧ ScBox rp (rp + 1) [] wr q ov ∧ Below rp wb wr ∧ Ext w wr) (fun iv _ => ts.length - (intOf iv).toNat)
  case atStart => exact ⟨0, [], .slice none 0 0, by omega, rfl, rfl, HO.out, Below.refl _ _, HX.out⟩
  case round =>
    obtain ⟨i, q, ov, hi, rfl, hq, hbx, hbe, hxw⟩ := hrel
    have HQ := Lib.hid hq
    have HBX := Lib.hid hbx
    have HBE := Lib.hid hbe
    have HXW := Lib.hid hxw
    obtain ⟨aov, kv, cv, rfl, -, -, -⟩ := hbx.row.sl.len
    have HPO := Lib.hid (show ∀ g, Value.ownBlock (.slice aov kv cv) = some g → rp + 1 ≤ g ∧ g < wr.heap.size from hbx.row.block)
    have HLQ := Lib.hid (show q.length ≤ 4000000 from by
      have h1 := congrArg List.length hq
      rw [List.length_map] at h1
      have h2 := fm_len (appF us) (ts.take i)
      rw [List.length_take] at h2
      have := HK1.out.tl
      omega)
    clear HO HX hq hbx hbe
    by_cases hlt : i < ts.length
    · obtain ⟨bl, offl, rvl, haol, hbb, d0, d1, hrtl⟩ := HRT.out i hlt
      have d0 := hxw.cell (a := ⟨bl, offl + i * 2, none⟩) d0
      have d1 := hxw.cell (a := ⟨bl, offl + i * 2 + 1, none⟩) d1
      have HFS := Lib.hid (fm_snoc (appF us) hlt)
      have HSL := Lib.hid (And.intro (uq_rels HU1.out (List.getElem_mem hlt)) (rels_le (List.getElem_mem hlt)))
      subst haol
      generalize ts[i] = x at *
      obtain ⟨nm, rl⟩ := x
      dsimp only at d0 d1 hrtl HSL
      obtain ⟨aor, cr, rfl, -, -, -⟩ := hrtl.rows
      have HRTL := Lib.hid hrtl
      obtain ⟨wp, hwp⟩ : ∃ x, x = wr.alloc (.cells #[.string nm, .slice aor rl.length cr] 49) := ⟨_, rfl⟩
      have xp : Ext wr wp := by rw [hwp]; exact Ext.alloc _ _
      have hpb : Blk wp wr.heap.size #[.string nm, .slice aor rl.length cr] 49 := by rw [hwp]; exact Blk.made _ _ _
      have HPB0 := Lib.hid hpb
      have pb := hpb.cells
      have HXP := Lib.hid (show Ext w wp from hxw.trans xp)
      have HBP := Lib.hid (HBX.out.keep (Below.kept xp fun b hb => hb.1) (xp.block _ HBX.out.box.lt))
      have HEP := Lib.hid (show Below rp wb wp from HBE.out.trans (Below.mono xp (by have := HBX.out.box.lt; omega)))
      have HIX := Lib.hid (tyIdx_any us _ nm wp (HU.out.up HXP.out))
      have mb := (show Blk wp (w.heap.size + 1) #[.slice aou us.length cu] 24 from (HEP.out.block _ (by have := HRP.out; omega)).trans HB.out).cells
      clear hxw hrtl xp hpb HBX HBE HXW
      subst hwp
      go_wp2_with fail
      refine HIX.out.mono ?_
      rintro e w2 ⟨k, rfl, hk, hb2⟩
      have HPB := Lib.hid (HPB0.out.below hb2).cells
      have HB2 := Lib.hid (HBP.out.keep (Below.kept hb2 fun b hb => hb.1) (hb2.block _ HBP.out.box.lt))
      have HX2 := Lib.hid (show Ext w w2 from HXP.out.trans hb2)
      have HE2 := Lib.hid (show Below rp wb w2 from HEP.out.trans (Below.mono hb2 (by have := HBP.out.box.lt; omega)))
      have HP2 := Lib.hid (show (∀ g, Value.ownBlock (.slice aov kv cv) = some g → g < wr.heap.size) ∧ True ∧ wr.heap.size < w2.heap.size from ⟨fun g e => (HPO.out g e).2, trivial, (HPB0.out.below hb2).lt⟩)
      generalize wr.alloc (.cells #[.string nm, .slice aor rl.length cr] 49) = wp at *
      clear HIX HBP HEP HXP HPB0 hb2 pb mb d0 d1
      rcases idx_typ (uq_names HU2.out) hk with ⟨j, hj, rfl, hlk⟩ | ⟨rfl, hlk⟩
      · obtain ⟨bm, offm, rv5, haom, hbm, e0, e1, hrt⟩ := HRU.out j hj
        subst haom
        have HFX := Lib.hid (show appF us ⟨nm, rl⟩ = some ⟨nm, mrgR rl us[j].rels⟩ from by unfold appF; rw [hlk]; rfl)
        have HSU := Lib.hid (And.intro (uq_rels HU2.out (List.getElem_mem hj)) (And.intro (rels_le (List.getElem_mem hj)) (HK2.out.sz _ (List.getElem_mem hj))))
        generalize us[j] = y at *
        obtain ⟨un, ru⟩ := y
        dsimp only at e0 e1 hrt HFX HSU
        obtain ⟨aou5, cu5, rfl, -, -, -⟩ := hrt.rows
        have hge : (0 : Int) ≤ (j : Int) := by omega
        have hjl : (j : Int) < (us.length : Int) := by omega
        clear hk hlk
        go_wp2_with fail
        obtain ⟨wd, hwd⟩ : ∃ wd, wd = w2.drew := ⟨_, rfl⟩
        have X2d : Ext w2 wd := by rw [hwd]; exact Ext.drew w2
        have HBd := Lib.hid (HB2.out.keep (Below.kept X2d fun b hb => hb.1) (X2d.block _ HB2.out.box.lt))
        have HXd := Lib.hid (show Ext w wd from HX2.out.trans X2d)
        have HEd := Lib.hid (show Below rp wb wd from HE2.out.trans (Below.mono X2d (by have := HB2.out.box.lt; omega)))
        have HPd := Lib.hid (show ∀ g, Value.ownBlock (.slice aov kv cv) = some g → rp + 1 ≤ g ∧ g < wd.heap.size from HBd.out.row.block)
        have HZd := Lib.hid (show rp + 1 ≤ wd.heap.size from HBd.out.box.lt)
        have HD2 := Lib.hid (show w2.heap.size ≤ wd.heap.size from X2d.size)
        have HCP := Lib.hid (merged_any nm un rl ru _ _ wd (HRTL.out.up HXd.out) (hrt.up HXd.out) HSL.out.1 HSU.out.1 HSU.out.2.2 (Nat.le_trans HSL.out.2 HK1.out.lr) (Nat.le_trans HSU.out.2.1 HK2.out.lr))
        refine region_walkL 12 (Kept (fun b => b < wd.heap.size ∧ Value.ownBlock (.slice aov kv cv) ≠ some b) wd) (by rw [← hwd]; exact Kept.refl _ _) (by kernel_rfl) (by kernel_rfl) (fun _ _ d _ _ h => by cases d <;> exact h) ?_
        rw [← hwd]
        have hov : ∀ W, Kept (fun b => b < wd.heap.size ∧ Value.ownBlock (.slice aov kv cv) ≠ some b) wd W → W.cell? ⟨rp, 0, none⟩ = some (.slice aov kv cv) := fun W h => Kept.cellq h ⟨HBd.out.box.lt, fun e => by have := (HPd.out _ e).1; dsimp only at this; omega⟩ (HBd.out.box.cells 0)
        have h80 : ∀ W, Kept (fun b => b < wd.heap.size ∧ Value.ownBlock (.slice aov kv cv) ≠ some b) wd W → W.cell? ⟨wr.heap.size, 0, none⟩ = some (.string nm) := fun W h => Kept.cellq h ⟨Nat.lt_of_lt_of_le HP2.out.2.2 HD2.out, fun e => by have := HP2.out.1 _ e; dsimp only at this; omega⟩ (X2d.cell (a := ⟨wr.heap.size, 0, none⟩) (HPB.out 0))
        have h81 : ∀ W, Kept (fun b => b < wd.heap.size ∧ Value.ownBlock (.slice aov kv cv) ≠ some b) wd W → W.cell? ⟨wr.heap.size, 1, none⟩ = some (.slice aor rl.length cr) := fun W h => Kept.cellq h ⟨Nat.lt_of_lt_of_le HP2.out.2.2 HD2.out, fun e => by have := HP2.out.1 _ e; dsimp only at this; omega⟩ (X2d.cell (a := ⟨wr.heap.size, 1, none⟩) (HPB.out 1))
        have h30 : ∀ W, Kept (fun b => b < wd.heap.size ∧ Value.ownBlock (.slice aov kv cv) ≠ some b) wd W → W.cell? ⟨w.heap.size + 1, 0, none⟩ = some (.slice (some ⟨bm, offm, none⟩) us.length cu) := fun W h => Kept.cellq h ⟨by have := HZd.out; have := HRP.out; show w.heap.size + 1 < _; omega, fun e => by have := (HPd.out _ e).1; have := HRP.out; dsimp only at *; omega⟩ (Blk.cells ((HEd.out.block (w.heap.size + 1) (by have := HRP.out; omega)).trans HB.out) 0)
        have hm0 : ∀ W, Kept (fun b => b < wd.heap.size ∧ Value.ownBlock (.slice aov kv cv) ≠ some b) wd W → W.cell? ⟨bm, offm + j * 2, none⟩ = some (.string un) := fun W h => Kept.cellq h ⟨by have := HZd.out; have := HRP.out; show bm < _; omega, fun e => by have := (HPd.out _ e).1; have := HRP.out; dsimp only at *; omega⟩ (HXd.out.cell (a := ⟨bm, offm + j * 2, none⟩) e0)
        have hm1 : ∀ W, Kept (fun b => b < wd.heap.size ∧ Value.ownBlock (.slice aov kv cv) ≠ some b) wd W → W.cell? ⟨bm, offm + j * 2 + 1, none⟩ = some (.slice aou5 ru.length cu5) := fun W h => Kept.cellq h ⟨by have := HZd.out; have := HRP.out; show bm < _; omega, fun e => by have := (HPd.out _ e).1; have := HRP.out; dsimp only at *; omega⟩ (HXd.out.cell (a := ⟨bm, offm + j * 2 + 1, none⟩) e1)

        clear hwd X2d
        ((refine WalkL.take 0 _ ?_ (by simp only [List.getElem?_toArray, List.getElem?_cons_zero]; rfl) (by kernel_rfl) (by kernel_rfl) (by kernel_rfl) (by rfl) (fun W hW => ?_) ?_; rotate_left; · (go_simp; try with_reducible rfl)); simp only [Act.put, List.setIfInBounds_toArray, List.set_cons_zero, List.set_cons_succ]); ((refine WalkL.take 1 _ ?_ (by simp only [List.getElem?_toArray, List.getElem?_cons_succ, List.getElem?_cons_zero]; rfl) (by kernel_rfl) (by kernel_rfl) (by kernel_rfl) (by rfl) (fun W hW => ?_) ?_; rotate_left; · (go_simp; try with_reducible rfl)); simp only [Act.put, List.setIfInBounds_toArray, List.set_cons_zero, List.set_cons_succ]); ((refine WalkL.take 2 _ ?_ (by simp only [List.getElem?_toArray, List.getElem?_cons_succ, List.getElem?_cons_zero]; rfl) (by kernel_rfl) (by kernel_rfl) (by kernel_rfl) (by rfl) (fun W hW => ?_) ?_; rotate_left; · (go_simp; try with_reducible rfl)); simp only [Act.put, List.setIfInBounds_toArray, List.set_cons_zero, List.set_cons_succ]); ((refine WalkL.take 3 _ ?_ (by simp only [List.getElem?_toArray, List.getElem?_cons_succ, List.getElem?_cons_zero]; rfl) (by kernel_rfl) (by kernel_rfl) (by kernel_rfl) (by rfl) (fun W hW => ?_) ?_; rotate_left; · (go_simp; try with_reducible rfl)); simp only [Act.put, List.setIfInBounds_toArray, List.set_cons_zero, List.set_cons_succ]); ((refine WalkL.take 4 _ ?_ (by simp only [List.getElem?_toArray, List.getElem?_cons_succ, List.getElem?_cons_zero]; rfl) (by kernel_rfl) (by kernel_rfl) (by kernel_rfl) (by rfl) (fun W hW => ?_) ?_; rotate_left; · (go_simp; try with_reducible rfl)); simp only [Act.put, List.setIfInBounds_toArray, List.set_cons_zero, List.set_cons_succ]); ((refine WalkL.take 5 _ ?_ (by simp only [List.getElem?_toArray, List.getElem?_cons_succ, List.getElem?_cons_zero]; rfl) (by kernel_rfl) (by kernel_rfl) (by kernel_rfl) (by rfl) (fun W hW => ?_) ?_; rotate_left; · (go_simp; try with_reducible rfl)); simp only [Act.put, List.setIfInBounds_toArray, List.set_cons_zero, List.set_cons_succ]); ((refine WalkL.take 6 _ ?_ (by simp only [List.getElem?_toArray, List.getElem?_cons_succ, List.getElem?_cons_zero]; rfl) (by kernel_rfl) (by kernel_rfl) (by kernel_rfl) (by rfl) (fun W hW => ?_) ?_; rotate_left; · (go_simp; try with_reducible rfl)); simp only [Act.put, List.setIfInBounds_toArray, List.set_cons_zero, List.set_cons_succ]); ((refine WalkL.take 7 _ ?_ (by simp only [List.getElem?_toArray, List.getElem?_cons_succ, List.getElem?_cons_zero]; rfl) (by kernel_rfl) (by kernel_rfl) (by kernel_rfl) (by rfl) (fun W hW => ?_) ?_; rotate_left; · (go_simp; try with_reducible rfl)); simp only [Act.put, List.setIfInBounds_toArray, List.set_cons_zero, List.set_cons_succ])
        refine WalkL.one 8 (by kernel_rfl) ?_
        refine ⟨_, (by simp only [List.getElem?_toArray, List.getElem?_cons_succ, List.getElem?_cons_zero]; rfl), by rfl, fun K hK => ?_⟩
        go_simp
        refine HCP.out.mono ?_
        rintro e w5 ⟨v5, rfl, hat5, hb5⟩
        have hk5 : Kept (fun b => b < wd.heap.size ∧ Value.ownBlock (.slice aov kv cv) ≠ some b) wd w5 := Below.kept hb5 fun b hb => hb.1
        refine hK.out _ _ hk5 ?_
        clear hK
        obtain ⟨ao5, n5, c5, rfl⟩ : ∃ ao n c, v5 = Value.slice ao n c := by
          obtain ⟨ao5, c5, e, -⟩ := hat5.rows
          exact ⟨ao5, _, c5, e⟩
        have HB5 := Lib.hid (HBd.out.keep (Below.kept hb5 fun b hb => hb.1) (hb5.block _ HBd.out.box.lt))
        have HX5 := Lib.hid (show Ext w w5 from HXd.out.trans hb5)
        have HE5 := Lib.hid (show Below rp wb w5 from HEd.out.trans (Below.mono hb5 (by have := HZd.out; omega)))
        have HAT := Lib.hid hat5
        have HZ5 := Lib.hid (show wd.heap.size ≤ w5.heap.size from hb5.size)
        clear hat5 hb5 HCP
        refine WalkL.one 9 (by kernel_rfl) ?_
        refine ⟨_, (by simp only [List.getElem?_toArray, List.getElem?_cons_succ, List.getElem?_cons_zero]; rfl), by rfl, fun K hK => ?_⟩
        go_simp
        have X6 := Lib.hid (Ext.alloc w5 (.cells #[.string nm, .slice ao5 n5 c5] 49))
        have hk6 := hk5.trans (Below.kept X6.out fun b (hb : b < wd.heap.size ∧ Value.ownBlock (.slice aov kv cv) ≠ some b) => Nat.lt_of_lt_of_le hb.1 HZ5.out)
        refine hK.out _ _ hk6 ?_
        clear hK
        refine WalkL.one 10 (by kernel_rfl) ?_
        refine ⟨_, (by simp only [List.getElem?_toArray, List.getElem?_cons_succ, List.getElem?_cons_zero]; rfl), by rfl, fun K hK => ?_⟩
        refine wp_ownw tysT (.tmp 49) (.tmp 57) rfl rfl (HB5.out.row.below X6.out) rfl (m := 1) (news := [.string nm, .slice ao5 n5 c5]) rfl (fun j u hu => ?_) (by simp [Value.oneCell']) (by have := HLQ.out; rw [flat_length tyC_length]; simp; omega) (by have := HLQ.out; rw [flat_length tyC_length]; simp; omega) (by have := HZd.out; have := HZ5.out; simp; omega) (fun v7 w7 hown7 hb7 hgr7 => ?_)
        · rw [Addr.add_lit, cell_of_row _ w5.heap.size (0 + j) #[.string nm, .slice ao5 n5 c5] 49 (0, 0) (heap_alloc_new w5 _)]
          simpa using hu
        have hk57 : ∀ b, b < w5.heap.size → Value.ownBlock (.slice aov kv cv) ≠ some b → w7.heap[b]? = w5.heap[b]? := fun b h1 h2 => (hgr7.block b (Nat.lt_of_lt_of_le h1 X6.out.size) (fun e => h2 e.symm)).trans (X6.out.block b h1)
        have hz57 : w5.heap.size ≤ w7.heap.size := Nat.le_trans X6.out.size hgr7.size
        have hk57' : Kept (fun b => b < w5.heap.size ∧ Value.ownBlock (.slice aov kv cv) ≠ some b) w5 w7 := ⟨hgr7.os.trans X6.out.os, hgr7.tape.trans X6.out.tape, hgr7.output.trans X6.out.output, hz57, fun b hb => hk57 b hb.1 hb.2⟩
        have hk7 := hk5.trans (hk57'.mono fun b (hb : b < wd.heap.size ∧ Value.ownBlock (.slice aov kv cv) ≠ some b) => ⟨Nat.lt_of_lt_of_le hb.1 HZ5.out, hb.2⟩)
        refine hK.out _ _ hk7 ?_
        clear hK
        simp only [Act.put, List.setIfInBounds_toArray, List.set_cons_zero, List.set_cons_succ]
        have HADD := Lib.hid (HB5.out.add (n0 := wd.heap.size) (x := ((⟨nm, mrgR rl ru⟩ : TyS), .slice ao5 n5 c5)) (Nat.lt_succ_self _) hk57 hz57 hown7 (fun g hg => (hb7 g hg).imp id (fun h => Nat.le_trans X6.out.size h)) HAT.out HZd.out (fun g hg => (HPd.out g hg).2))
        have HLOW := Lib.hid (show Below rp wb (w7.setCell ⟨rp, 0, none⟩ v7) from (HE5.out.trans (hk57'.below fun b hb => ⟨by have := HZd.out; have := HZ5.out; omega, fun e => by have := (HPd.out _ e).1; omega⟩)).setCell (Nat.le_refl _) _)
        have HLX := Lib.hid (show Below w.heap.size w (w7.setCell ⟨rp, 0, none⟩ v7) from (Below.trans HX5.out (hk57'.below fun b (hb : b < w.heap.size) => ⟨by have := HZd.out; have := HZ5.out; have := HRP.out; omega, fun e => by have := (HPd.out _ e).1; have := HRP.out; omega⟩)).setCell (by have := HRP.out; show w.heap.size ≤ rp; omega) _)
        have hrp7 : Blk w7 rp #[.slice aov kv cv] 24 := (hk57 _ HB5.out.box.lt (fun e => by have := (HPd.out _ e).1; omega)).trans HB5.out.box
        obtain ⟨ao7, k7, c7, rfl, -, -, -⟩ := hown7.sl.len
        have f7 := hrp7.free
        have g7 := hrp7.cells 0
        clear hk5 hk6 hk57 hz57 hk57' hown7 hb7 hgr7 hrp7 X6 hov
        ((refine WalkL.take 11 _ ?_ (by simp only [List.getElem?_toArray, List.getElem?_cons_succ, List.getElem?_cons_zero]; rfl) (by kernel_rfl) (by kernel_rfl) (by kernel_rfl) (by rfl) (fun W hW => ?_) ?_; rotate_left; · (go_simp; try with_reducible rfl)); simp only [Act.put, List.setIfInBounds_toArray, List.set_cons_zero, List.set_cons_succ])
        refine WalkL.last (by kernel_rfl) (by kernel_rfl) ?_
        refine ⟨_, (by simp only [List.getElem?_toArray, List.getElem?_cons_succ, List.getElem?_cons_zero]; rfl), by rfl, fun K hK => ?_⟩
        go_simp
        refine hK.out _ _ ?_
        clear hK hk7 f7 g7 HBd HXd HEd HPd HZd HB5 HX5 HE5 HAT HZ5
        generalize w7.setCell ⟨rp, 0, none⟩ (.slice ao7 k7 c7) = w8 at *
        go_wp2_with fail

        go_roundw
        case rel => exact ⟨i + 1, _, _, by omega, by go_num, by rw [List.map_append, HQ.out, HFS.out, HFX.out]; rfl, HADD.out, HLOW.out, HLX.out⟩
        case measure => simp [intOf]; omega
      · have HFX := Lib.hid (show appF us ⟨nm, rl⟩ = none from by unfold appF; rw [hlk]; rfl)
        clear hk hlk
        go_wp2_with fail
        go_roundw
        case rel => exact ⟨i + 1, q, _, by omega, by go_num, by rw [HQ.out, HFS.out, HFX.out]; simp, HB2.out, HE2.out, HX2.out⟩
        case measure => simp [intOf]; omega
    · obtain rfl : i = ts.length := by omega
      clear hxw
      have mb := (show Blk wr (w.heap.size + 1) #[.slice aou us.length cu] 24 from (HBE.out.block _ (by have := HRP.out; omega)).trans HB.out).cells
      rw [List.take_length] at HQ
      go_wp2_with fail
      clear mb
      go_loopw [64] (fun iv wr => ∃ (i : Nat) (q : List (TyS × Value)) (ov : Value), i ≤ us.length ∧ iv = .int .i64 i ∧ q.map (·.1) = ts.filterMap (appF us) ++ (us.take i).filter (fun u => (typF ts u.name).isNone) ∧ ScBox rp (rp + 1) [] wr q ov ∧ Below rp wb wr ∧ Ext w wr) (fun iv _ => us.length - (intOf iv).toNat)
      case atStart => exact ⟨0, q, _, by omega, rfl, by rw [HQ.out]; simp, HBX.out, HBE.out, HXW.out⟩
      case round =>
        obtain ⟨i, q, ov, hi, rfl, hq, hbx, hbe, hxw⟩ := hrel
        clear HQ HBX HBE HXW HPO HLQ
        have HQ := Lib.hid hq
        have HBX := Lib.hid hbx
        have HBE := Lib.hid hbe
        have HXW := Lib.hid hxw
        obtain ⟨aov, kv, cv, rfl, -, -, -⟩ := hbx.row.sl.len
        have HPO := Lib.hid (show ∀ g, Value.ownBlock (.slice aov kv cv) = some g → rp + 1 ≤ g ∧ g < wr.heap.size from hbx.row.block)
        have HLQ := Lib.hid (show q.length ≤ 4000000 from by
          have h1 := congrArg List.length hq
          rw [List.length_map, List.length_append] at h1
          have h2 := fm_len (appF us) ts
          have h3 := List.length_filter_le (fun u : TyS => (typF ts u.name).isNone) (us.take i)
          rw [List.length_take] at h3
          have := HK1.out.tl
          have := HK2.out.tl
          omega)
        clear hq hbx hbe
        by_cases hlt : i < us.length
        · obtain ⟨bl, offl, rvl, haol, hbb, d0, d1, hrtl⟩ := HRU.out i hlt
          have d0 := hxw.cell (a := ⟨bl, offl + i * 2, none⟩) d0
          have d1 := hxw.cell (a := ⟨bl, offl + i * 2 + 1, none⟩) d1
          have HFS := Lib.hid (fl_snoc (fun u : TyS => (typF ts u.name).isNone) hlt)
          have HSU := Lib.hid (And.intro (uq_rels HU2.out (List.getElem_mem hlt)) (And.intro (rels_le (List.getElem_mem hlt)) (HK2.out.sz _ (List.getElem_mem hlt))))
          subst haol
          generalize us[i] = x at *
          obtain ⟨nm, rl⟩ := x
          dsimp only at d0 d1 hrtl HSU HFS
          obtain ⟨aor, cr, rfl, -, -, -⟩ := hrtl.rows
          have HRTL := Lib.hid hrtl
          obtain ⟨wp, hwp⟩ : ∃ x, x = wr.alloc (.cells #[.string nm, .slice aor rl.length cr] 49) := ⟨_, rfl⟩
          have xp : Ext wr wp := by rw [hwp]; exact Ext.alloc _ _
          have hpb : Blk wp wr.heap.size #[.string nm, .slice aor rl.length cr] 49 := by rw [hwp]; exact Blk.made _ _ _
          have HPB0 := Lib.hid hpb
          have pb := hpb.cells
          have HXP := Lib.hid (show Ext w wp from hxw.trans xp)
          have HBP := Lib.hid (HBX.out.keep (Below.kept xp fun b hb => hb.1) (xp.block _ HBX.out.box.lt))
          have HEP := Lib.hid (show Below rp wb wp from HBE.out.trans (Below.mono xp (by have := HBX.out.box.lt; omega)))
          have HIX := Lib.hid (tyIdx_any ts _ nm wp (HT.out.up HXP.out))
          have mb := (show Blk wp w.heap.size #[.slice aot ts.length ct] 24 from (HEP.out.block _ (by have := HRP.out; omega)).trans HA.out).cells
          clear hxw hrtl xp hpb HBX HBE HXW
          subst hwp
          go_wp2_with fail
          refine HIX.out.mono ?_
          rintro e w2 ⟨k, rfl, hk, hb2⟩
          have HPB := Lib.hid (HPB0.out.below hb2).cells
          have HB2 := Lib.hid (HBP.out.keep (Below.kept hb2 fun b hb => hb.1) (hb2.block _ HBP.out.box.lt))
          have HX2 := Lib.hid (show Ext w w2 from HXP.out.trans hb2)
          have HE2 := Lib.hid (show Below rp wb w2 from HEP.out.trans (Below.mono hb2 (by have := HBP.out.box.lt; omega)))
          have HP2 := Lib.hid (show (∀ g, Value.ownBlock (.slice aov kv cv) = some g → g < wr.heap.size) ∧ True ∧ wr.heap.size < w2.heap.size from ⟨fun g e => (HPO.out g e).2, trivial, (HPB0.out.below hb2).lt⟩)
          generalize wr.alloc (.cells #[.string nm, .slice aor rl.length cr] 49) = wp at *
          clear HIX HBP HEP HXP HPB0 hb2 pb mb d0 d1
          rcases idx_typ (uq_names HU1.out) hk with ⟨j, hj, rfl, hlk⟩ | ⟨rfl, hlk⟩
          · have HFX := Lib.hid (show ¬ ((typF ts nm).isNone = true) from by rw [hlk]; simp)
            have hge : ¬ ((j : Int) < 0) := by omega
            clear hk hlk
            go_wp2_with fail
            go_roundw
            case rel => exact ⟨i + 1, q, _, by omega, by go_num, by rw [HQ.out, HFS.out, if_neg HFX.out, List.append_nil], HB2.out, HE2.out, HX2.out⟩
            case measure => simp [intOf]; omega
          · have HFX := Lib.hid (show (typF ts nm).isNone = true from by rw [hlk]; rfl)
            clear hk hlk
            go_wp2_with fail
            obtain ⟨wd, hwd⟩ : ∃ wd, wd = w2.drew := ⟨_, rfl⟩
            have X2d : Ext w2 wd := by rw [hwd]; exact Ext.drew w2
            have HBd := Lib.hid (HB2.out.keep (Below.kept X2d fun b hb => hb.1) (X2d.block _ HB2.out.box.lt))
            have HXd := Lib.hid (show Ext w wd from HX2.out.trans X2d)
            have HEd := Lib.hid (show Below rp wb wd from HE2.out.trans (Below.mono X2d (by have := HB2.out.box.lt; omega)))
            have HPd := Lib.hid (show ∀ g, Value.ownBlock (.slice aov kv cv) = some g → rp + 1 ≤ g ∧ g < wd.heap.size from HBd.out.row.block)
            have HZd := Lib.hid (show rp + 1 ≤ wd.heap.size from HBd.out.box.lt)
            have HD2 := Lib.hid (show w2.heap.size ≤ wd.heap.size from X2d.size)
            have HCP := Lib.hid (merged_any nm nm [] rl (.slice none 0 0) _ wd ⟨[], rfl, by simp, Sl.nil _ _ _⟩ (HRTL.out.up HXd.out) List.nodup_nil HSU.out.1 HSU.out.2.2 (by simp) (Nat.le_trans HSU.out.2.1 HK2.out.lr))
            refine region_walkL 10 (Kept (fun b => b < wd.heap.size ∧ Value.ownBlock (.slice aov kv cv) ≠ some b) wd) (by rw [← hwd]; exact Kept.refl _ _) (by kernel_rfl) (by kernel_rfl) (fun _ _ d _ _ h => by cases d <;> exact h) ?_
            rw [← hwd]
            have hov : ∀ W, Kept (fun b => b < wd.heap.size ∧ Value.ownBlock (.slice aov kv cv) ≠ some b) wd W → W.cell? ⟨rp, 0, none⟩ = some (.slice aov kv cv) := fun W h => Kept.cellq h ⟨HBd.out.box.lt, fun e => by have := (HPd.out _ e).1; dsimp only at this; omega⟩ (HBd.out.box.cells 0)
            have h80 : ∀ W, Kept (fun b => b < wd.heap.size ∧ Value.ownBlock (.slice aov kv cv) ≠ some b) wd W → W.cell? ⟨wr.heap.size, 0, none⟩ = some (.string nm) := fun W h => Kept.cellq h ⟨Nat.lt_of_lt_of_le HP2.out.2.2 HD2.out, fun e => by have := HP2.out.1 _ e; dsimp only at this; omega⟩ (X2d.cell (a := ⟨wr.heap.size, 0, none⟩) (HPB.out 0))
            have h81 : ∀ W, Kept (fun b => b < wd.heap.size ∧ Value.ownBlock (.slice aov kv cv) ≠ some b) wd W → W.cell? ⟨wr.heap.size, 1, none⟩ = some (.slice aor rl.length cr) := fun W h => Kept.cellq h ⟨Nat.lt_of_lt_of_le HP2.out.2.2 HD2.out, fun e => by have := HP2.out.1 _ e; dsimp only at this; omega⟩ (X2d.cell (a := ⟨wr.heap.size, 1, none⟩) (HPB.out 1))

            clear hwd X2d
            ((refine WalkL.take 0 _ ?_ (by simp only [List.getElem?_toArray, List.getElem?_cons_zero]; rfl) (by kernel_rfl) (by kernel_rfl) (by kernel_rfl) (by rfl) (fun W hW => ?_) ?_; rotate_left; · (go_simp; try with_reducible rfl)); simp only [Act.put, List.setIfInBounds_toArray, List.set_cons_zero, List.set_cons_succ]); ((refine WalkL.take 1 _ ?_ (by simp only [List.getElem?_toArray, List.getElem?_cons_succ, List.getElem?_cons_zero]; rfl) (by kernel_rfl) (by kernel_rfl) (by kernel_rfl) (by rfl) (fun W hW => ?_) ?_; rotate_left; · (go_simp; try with_reducible rfl)); simp only [Act.put, List.setIfInBounds_toArray, List.set_cons_zero, List.set_cons_succ]); ((refine WalkL.take 2 _ ?_ (by simp only [List.getElem?_toArray, List.getElem?_cons_succ, List.getElem?_cons_zero]; rfl) (by kernel_rfl) (by kernel_rfl) (by kernel_rfl) (by rfl) (fun W hW => ?_) ?_; rotate_left; · (go_simp; try with_reducible rfl)); simp only [Act.put, List.setIfInBounds_toArray, List.set_cons_zero, List.set_cons_succ]); ((refine WalkL.take 3 _ ?_ (by simp only [List.getElem?_toArray, List.getElem?_cons_succ, List.getElem?_cons_zero]; rfl) (by kernel_rfl) (by kernel_rfl) (by kernel_rfl) (by rfl) (fun W hW => ?_) ?_; rotate_left; · (go_simp; try with_reducible rfl)); simp only [Act.put, List.setIfInBounds_toArray, List.set_cons_zero, List.set_cons_succ]); ((refine WalkL.take 4 _ ?_ (by simp only [List.getElem?_toArray, List.getElem?_cons_succ, List.getElem?_cons_zero]; rfl) (by kernel_rfl) (by kernel_rfl) (by kernel_rfl) (by rfl) (fun W hW => ?_) ?_; rotate_left; · (go_simp; try with_reducible rfl)); simp only [Act.put, List.setIfInBounds_toArray, List.set_cons_zero, List.set_cons_succ]); ((refine WalkL.take 5 _ ?_ (by simp only [List.getElem?_toArray, List.getElem?_cons_succ, List.getElem?_cons_zero]; rfl) (by kernel_rfl) (by kernel_rfl) (by kernel_rfl) (by rfl) (fun W hW => ?_) ?_; rotate_left; · (go_simp; try with_reducible rfl)); simp only [Act.put, List.setIfInBounds_toArray, List.set_cons_zero, List.set_cons_succ])
            refine WalkL.one 6 (by kernel_rfl) ?_
            refine ⟨_, (by simp only [List.getElem?_toArray, List.getElem?_cons_succ, List.getElem?_cons_zero]; rfl), by rfl, fun K hK => ?_⟩
            go_simp
            refine HCP.out.mono ?_
            rintro e w5 ⟨v5, rfl, hat5, hb5⟩
            have hk5 : Kept (fun b => b < wd.heap.size ∧ Value.ownBlock (.slice aov kv cv) ≠ some b) wd w5 := Below.kept hb5 fun b hb => hb.1
            refine hK.out _ _ hk5 ?_
            clear hK
            obtain ⟨ao5, n5, c5, rfl⟩ : ∃ ao n c, v5 = Value.slice ao n c := by
              obtain ⟨ao5, c5, e, -⟩ := hat5.rows
              exact ⟨ao5, _, c5, e⟩
            have HB5 := Lib.hid (HBd.out.keep (Below.kept hb5 fun b hb => hb.1) (hb5.block _ HBd.out.box.lt))
            have HX5 := Lib.hid (show Ext w w5 from HXd.out.trans hb5)
            have HE5 := Lib.hid (show Below rp wb w5 from HEd.out.trans (Below.mono hb5 (by have := HZd.out; omega)))
            have HAT := Lib.hid hat5
            have HZ5 := Lib.hid (show wd.heap.size ≤ w5.heap.size from hb5.size)
            clear hat5 hb5 HCP
            refine WalkL.one 7 (by kernel_rfl) ?_
            refine ⟨_, (by simp only [List.getElem?_toArray, List.getElem?_cons_succ, List.getElem?_cons_zero]; rfl), by rfl, fun K hK => ?_⟩
            go_simp
            have X6 := Lib.hid (Ext.alloc w5 (.cells #[.string nm, .slice ao5 n5 c5] 49))
            have hk6 := hk5.trans (Below.kept X6.out fun b (hb : b < wd.heap.size ∧ Value.ownBlock (.slice aov kv cv) ≠ some b) => Nat.lt_of_lt_of_le hb.1 HZ5.out)
            refine hK.out _ _ hk6 ?_
            clear hK
            refine WalkL.one 8 (by kernel_rfl) ?_
            refine ⟨_, (by simp only [List.getElem?_toArray, List.getElem?_cons_succ, List.getElem?_cons_zero]; rfl), by rfl, fun K hK => ?_⟩
            refine wp_ownw tysT (.tmp 75) (.tmp 81) rfl rfl (HB5.out.row.below X6.out) rfl (m := 1) (news := [.string nm, .slice ao5 n5 c5]) rfl (fun j u hu => ?_) (by simp [Value.oneCell']) (by have := HLQ.out; rw [flat_length tyC_length]; simp; omega) (by have := HLQ.out; rw [flat_length tyC_length]; simp; omega) (by have := HZd.out; have := HZ5.out; simp; omega) (fun v7 w7 hown7 hb7 hgr7 => ?_)
            · rw [Addr.add_lit, cell_of_row _ w5.heap.size (0 + j) #[.string nm, .slice ao5 n5 c5] 49 (0, 0) (heap_alloc_new w5 _)]
              simpa using hu
            have hk57 : ∀ b, b < w5.heap.size → Value.ownBlock (.slice aov kv cv) ≠ some b → w7.heap[b]? = w5.heap[b]? := fun b h1 h2 => (hgr7.block b (Nat.lt_of_lt_of_le h1 X6.out.size) (fun e => h2 e.symm)).trans (X6.out.block b h1)
            have hz57 : w5.heap.size ≤ w7.heap.size := Nat.le_trans X6.out.size hgr7.size
            have hk57' : Kept (fun b => b < w5.heap.size ∧ Value.ownBlock (.slice aov kv cv) ≠ some b) w5 w7 := ⟨hgr7.os.trans X6.out.os, hgr7.tape.trans X6.out.tape, hgr7.output.trans X6.out.output, hz57, fun b hb => hk57 b hb.1 hb.2⟩
            have hk7 := hk5.trans (hk57'.mono fun b (hb : b < wd.heap.size ∧ Value.ownBlock (.slice aov kv cv) ≠ some b) => ⟨Nat.lt_of_lt_of_le hb.1 HZ5.out, hb.2⟩)
            refine hK.out _ _ hk7 ?_
            clear hK
            simp only [Act.put, List.setIfInBounds_toArray, List.set_cons_zero, List.set_cons_succ]
            have HADD := Lib.hid (HB5.out.add (n0 := wd.heap.size) (x := ((⟨nm, mrgR [] rl⟩ : TyS), .slice ao5 n5 c5)) (Nat.lt_succ_self _) hk57 hz57 hown7 (fun g hg => (hb7 g hg).imp id (fun h => Nat.le_trans X6.out.size h)) HAT.out HZd.out (fun g hg => (HPd.out g hg).2))
            have HLOW := Lib.hid (show Below rp wb (w7.setCell ⟨rp, 0, none⟩ v7) from (HE5.out.trans (hk57'.below fun b hb => ⟨by have := HZd.out; have := HZ5.out; omega, fun e => by have := (HPd.out _ e).1; omega⟩)).setCell (Nat.le_refl _) _)
            have HLX := Lib.hid (show Below w.heap.size w (w7.setCell ⟨rp, 0, none⟩ v7) from (Below.trans HX5.out (hk57'.below fun b (hb : b < w.heap.size) => ⟨by have := HZd.out; have := HZ5.out; have := HRP.out; omega, fun e => by have := (HPd.out _ e).1; have := HRP.out; omega⟩)).setCell (by have := HRP.out; show w.heap.size ≤ rp; omega) _)
            have hrp7 : Blk w7 rp #[.slice aov kv cv] 24 := (hk57 _ HB5.out.box.lt (fun e => by have := (HPd.out _ e).1; omega)).trans HB5.out.box
            obtain ⟨ao7, k7, c7, rfl, -, -, -⟩ := hown7.sl.len
            have f7 := hrp7.free
            have g7 := hrp7.cells 0
            clear hk5 hk6 hk57 hz57 hk57' hown7 hb7 hgr7 hrp7 X6 hov
            ((refine WalkL.take 9 _ ?_ (by simp only [List.getElem?_toArray, List.getElem?_cons_succ, List.getElem?_cons_zero]; rfl) (by kernel_rfl) (by kernel_rfl) (by kernel_rfl) (by rfl) (fun W hW => ?_) ?_; rotate_left; · (go_simp; try with_reducible rfl)); simp only [Act.put, List.setIfInBounds_toArray, List.set_cons_zero, List.set_cons_succ])
            refine WalkL.last (by kernel_rfl) (by kernel_rfl) ?_
            refine ⟨_, (by simp only [List.getElem?_toArray, List.getElem?_cons_succ, List.getElem?_cons_zero]; rfl), by rfl, fun K hK => ?_⟩
            go_simp
            refine hK.out _ _ ?_
            clear hK hk7 f7 g7 HBd HXd HEd HPd HZd HB5 HX5 HE5 HAT HZ5
            generalize w7.setCell ⟨rp, 0, none⟩ (.slice ao7 k7 c7) = w8 at *
            go_wp2_with fail

            go_roundw
            case rel => exact ⟨i + 1, _, _, by omega, by go_num, by rw [List.map_append, HQ.out, HFS.out, if_pos HFX.out, List.append_assoc, mrg_nil]; rfl, HADD.out, HLOW.out, HLX.out⟩
            case measure => simp [intOf]; omega
        · obtain rfl : i = us.length := by omega
          clear hxw
          rw [List.take_length] at HQ
          have ob := HBX.out.box.cells 0
          have hrb : Blk wr (w.heap.size + 1 + 1) #[.slice none 0 0] 24 := (HBE.out.block _ (by have := HRP.out; omega)).trans HR.out
          have HRB := Lib.hid hrb
          have rb := hrb.cells
          have rf := hrb.free
          clear hrb
          go_wp2_with fail
          clear ob rb rf
          have hks : Kept (fun b => b ≠ w.heap.size + 1 + 1) wr (wr.setCell ⟨w.heap.size + 1 + 1, 0, none⟩ (.slice aov kv cv)) := (Kept.refl _ wr).set (a := ⟨w.heap.size + 1 + 1, 0, none⟩) (fun h => h rfl) _
          refine bodyPost_ret (v := .tuple #[.agg #[.slice aov kv cv], .int .i64 0]) ?_ rfl ⟨.slice aov kv cv, rfl, ⟨q, HQ.out, fun x hx => ?_, ?_⟩, Below.trans HXW.out (hks.below fun b (hb : b < w.heap.size) => (by show b ≠ w.heap.size + 1 + 1; omega))⟩
          · rw [results_cell_tmp rfl]
            have hl := run_loadVar_row (P := Try.prog) _ (w.heap.size + 1 + 1) _ 24 _ _ _ (HRB.out.set_to (cs' := #[.slice aov kv cv]) 0 (.slice aov kv cv) rfl) Try.underlying24 rfl (by kernel_rfl)
            simp [asAddr, hl, Result.andThen]
          · exact (ElT.mono (ElT.same (HBX.out.parts x hx) fun b hb => hks.block b (by have := hb.1.1; have := HRP.out; show b ≠ w.heap.size + 1 + 1; omega)) fun b hb => ⟨by have := hb.1.1; have := HRP.out; omega, Nat.lt_of_lt_of_le hb.1.2 hks.size⟩)
          · exact (HBX.out.row.sl.same fun b hb => hks.block b (by have := hb.1; have := HRP.out; show b ≠ w.heap.size + 1 + 1; omega)).mono fun b hb => ⟨by have := hb.1; have := HRP.out; omega, Nat.lt_of_lt_of_le hb.2 hks.size⟩

end Go.Proofs.Ytipddhcfcehcaaa
