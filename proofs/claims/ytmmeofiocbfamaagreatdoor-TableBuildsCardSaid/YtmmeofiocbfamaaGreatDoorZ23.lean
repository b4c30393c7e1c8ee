/- table's Build. No condition: lemmas. -/
import Derived.Test.YtmmeofiocbfamaaGreatDoorZ22
namespace Go.Proofs.YtmmeofiocbfamaaGreatDoor
open Go Go.RowKit

/-- What Build answers. -/
def RetBuild (ks : List ByteArray) (split bits : Int) (w : World) (e : Ending) (w' : World) : Prop :=
  Ext w w' ∧ ((ks = [] ∨ split < 1) ∧ e = .returned (.tuple #[.slice none 0 0, .int .i64 1]) ∨
    ¬ (ks = [] ∨ split < 1) ∧ ks.any (fun k => (outerS k.data.toList).isNone) = true ∧ e = .returned (.tuple #[.slice none 0 0, .int .i64 9]) ∨
    ¬ (ks = [] ∨ split < 1) ∧ ks.any (fun k => (outerS k.data.toList).isNone) = false ∧ ¬ UpK ks ∧ e = .returned (.tuple #[.slice none 0 0, .int .i64 11]) ∨
    ¬ (ks = [] ∨ split < 1) ∧ ks.any (fun k => (outerS k.data.toList).isNone) = false ∧ UpK ks ∧ ∃ v, e = .returned (.tuple #[v, .int .i64 0]) ∧ Own w' w.heap.size 5 1 v (bc (tableB ks split bits)))
theorem sortK_bool (ks : List ByteArray) : ∃ q : Bool, q = true ↔ SortK ks := by
  by_cases h : SortK ks
  · exact ⟨true, by simp [h]⟩
  · exact ⟨false, by simp [h]⟩

set_option maxRecDepth 100000 in
set_option maxHeartbeats 600000 in
theorem table_build (v : Value) (ks : List ByteArray) (split bits : Int) (w : World) (henv : Env w) (h : Sl (· < w.heap.size) w 1 v (sc ks)) (hl : ks.length ≤ 1000) (hk : ∀ k ∈ ks, k.size ≤ 1000) :
    Calls Tryz.prog 6 #[v, .int .i64 split, .int .i64 bits] w (RetBuild ks split bits w) := by
  have HS := Lib.hid h
  have HK := Lib.hid hk
  obtain ⟨ao, c, rfl, hlc, hcm, -, -⟩ := Sl.strs0 h
  clear h hk
  by_cases hbad : ks = [] ∨ split < 1
  · have HB := Lib.hid hbad
    go_enter Tryz.func6, Tryz.ntmps6
    by_cases h0 : ks.length = 0
    · have hb0 : ((ks.length : Int) == 0) = true := by rw [h0]; rfl
      clear h0 hbad
      go_wp2_with fail
      go_ret2
      exact ⟨Ext.refl _, .inl ⟨HB.out, rfl⟩⟩
    · have hb0 : ((ks.length : Int) == 0) = false := by simp; intro e; exact h0 (by rw [e]; rfl)
      have hs1 : split < 1 := hbad.resolve_left fun e => h0 (by rw [e]; rfl)
      clear h0 hbad
      go_wp2_with fail
      go_ret2
      exact ⟨Ext.refl _, .inl ⟨HB.out, rfl⟩⟩
  have HGD := Lib.hid hbad
  have HCO := Lib.hid (containsTS_any w ks (.slice ao ks.length c) 22 #[] (enters_of Tryz.func22 (by kernel_rfl) rfl) (fun k => (outerS k.data.toList).isNone) HS.out (fun i hi W hW => odd_any ks[i] W (henv.below hW) (by have := HK.out _ (List.getElem_mem hi); omega)))
  have hb0 : ((ks.length : Int) == 0) = false := by simp; exact fun e => hbad (.inl e)
  have hs1 : ¬ split < 1 := fun e => hbad (.inr e)
  clear hbad
  generalize hany : ks.any (fun k => (outerS k.data.toList).isNone) = odd at *
  have HANY := Lib.hid hany
  clear hany
  go_enter Tryz.func6, Tryz.ntmps6
  go_wp2_with fail
  refine HCO.out.mono ?_
  clear HCO
  rintro e w1 ⟨rfl, hx1⟩
  have HX1 := Lib.hid (show Ext w w1 from hx1)
  clear hx1
  cases odd with
  | true =>
    go_wp2_with fail
    go_ret2
    exact ⟨HX1.out, .inr (.inl ⟨HGD.out, HANY.out, rfl⟩)⟩
  | false =>
    have HS1 := Lib.hid (HS.out.same (Same.below HX1.out))
    obtain ⟨q, hq⟩ := sortK_bool ks
    have HQ := Lib.hid hq
    have HSO := Lib.hid (sorted_strs (.slice ao ks.length c) ks w1 HS1.out (by omega) q hq)
    clear hq
    go_wp2_with fail
    refine HSO.out.mono ?_
    clear HSO
    rintro e w2 ⟨rfl, hx2⟩
    have HX2 := Lib.hid (HX1.out.trans hx2)
    clear hx2 HX1
    have HS2 := Lib.hid (HS.out.same (Same.below HX2.out))
    cases q with
    | false =>
      have HU := Lib.hid (show ¬ UpK ks from fun hu => by have := HQ.out.2 ((upK_iff ks).1 hu).1; cases this)
      go_wp2_with fail
      go_ret2
      exact ⟨HX2.out, .inr (.inr (.inl ⟨HGD.out, HANY.out, HU.out, rfl⟩))⟩
    | true =>
      have HCL := Lib.hid (cloneS_own (.slice ao ks.length c) ks w2 (fun b hb => Nat.lt_of_lt_of_le hb HX2.out.size) HS2.out (by omega))
      go_wp2_with fail
      refine HCL.out.mono ?_
      clear HCL
      rintro e w3 ⟨v3, rfl, ho3, hx3⟩
      have HCP := Lib.hid (compactS_any v3 ks w3 ho3)
      have HX3 := Lib.hid (HX2.out.trans hx3)
      have HZ3 := Lib.hid (show w.heap.size ≤ w2.heap.size from HX2.out.size)
      obtain ⟨ao3, c3, rfl, -, -, -, -⟩ := Sl.strs0 ho3.sl
      clear ho3 hx3
      go_wp2_with fail
      refine HCP.out.mono ?_
      clear HCP
      rintro e w4 ⟨ao4, c4, rfl, hb4⟩
      have HX4 := Lib.hid (show Ext w w4 from Below.trans HX3.out (hb4.mono HZ3.out))
      clear hb4 HX3 HZ3 HX2 HS2
      have HLEN := Lib.hid (compact_len ks).1
      have HUP := Lib.hid (show UpK ks ↔ (Lib.compact (dl ks)).length = ks.length from ⟨fun hu => ((upK_iff ks).1 hu).2, fun e => (upK_iff ks).2 ⟨by have := HQ.out; simpa using this, e⟩⟩)
      generalize (Lib.compact (dl ks)).length = m at *
      by_cases hml : m < ks.length
      · have HU := Lib.hid (show ¬ UpK ks from fun hu => by have := HUP.out.1 hu; omega)
        go_wp2_with fail
        go_ret2
        exact ⟨HX4.out, .inr (.inr (.inl ⟨HGD.out, HANY.out, HU.out, rfl⟩))⟩
      · have HU := Lib.hid (show UpK ks from HUP.out.2 (by have := HLEN.out; omega))
        clear HUP HLEN
        go_wp2_with fail
        have HS4 := Lib.hid (HS.out.same (Same.below HX4.out))
        obtain ⟨wb, hwb⟩ : ∃ wb, wb = w4.heap.size := ⟨_, rfl⟩
        have HW0 := Lib.hid (show WrAt wb (w4.alloc (.cells #[.slice none 0 0, .slice none 0 0, .slice none 0 0, .int .i64 0, .slice none 0 0] 63)) ws0 (.slice none 0 0) (.slice none 0 0) (.slice none 0 0) (.slice none 0 0) from by
          rw [hwb]
          exact ⟨Blk.made w4 _ _, Own.nil _ _ _ _, Own.nil _ _ _ _, Own.nil _ _ _ _, Own.nil _ _ _ _, fun g e => by cases e⟩)
        have HX5 := Lib.hid (show Ext w (w4.alloc (.cells #[.slice none 0 0, .slice none 0 0, .slice none 0 0, .int .i64 0, .slice none 0 0] 63)) from HX4.out.trans (Ext.alloc w4 _))
        have HWB := Lib.hid (show w.heap.size ≤ wb from by rw [hwb]; exact HX4.out.size)
        have HCE := Lib.hid (scs_at HS.out)
        rw [← hwb]
        generalize w4.alloc (.cells #[.slice none 0 0, .slice none 0 0, .slice none 0 0, .int .i64 0, .slice none 0 0] 63) = w5 at *
        clear hwb HX4 HS4
        go_loopw [43] (fun iv wr => ∃ (i : Nat) (xv ov kv sv : Value), i ≤ ks.length ∧ iv = .int .i64 i ∧ WrAt wb wr (addsW split (ks.take i)) xv ov kv sv ∧ Ext w wr) (fun iv _ => ks.length - (intOf iv).toNat)
        case atStart => exact ⟨0, _, _, _, _, Nat.zero_le _, rfl, HW0.out, HX5.out⟩
        case round =>
          clear HW0 HX5
          obtain ⟨i, xv, ov, kv, sv, hi, rfl, hw, hx⟩ := hrel
          have HW := Lib.hid hw
          have HX := Lib.hid hx
          clear hw hx
          by_cases hlt : i < ks.length
          · obtain ⟨b, off, rfl, hb, hc⟩ := HCE.out i hlt
            have hcl := HX.out.cell (a := ⟨b, off + i, none⟩) hc
            have HV := Lib.hid (WInv.adds HK.out split i (by omega))
            have HAT := Lib.hid (addsW_take split ks i hlt)
            have HKI := Lib.hid (show (∀ k ∈ (addsW split (ks.take i)).keys ++ [ks[i]], k.size ≤ 1000) ∧ UpK ((addsW split (ks.take i)).keys ++ [ks[i]]) from by
              obtain ⟨p, hp⟩ := HV.out.pre
              have e : ks.take (i + 1) = p ++ ((addsW split (ks.take i)).keys ++ [ks[i]]) := by rw [List.take_succ_eq_append_getElem hlt, ← List.append_assoc, ← hp]
              exact ⟨fun k hk => HK.out k (List.mem_of_mem_take (i := i + 1) (by rw [e]; exact List.mem_append_right _ hk)), (e ▸ HU.out.take (i + 1)).right⟩)
            have HKN := Lib.hid (show (addsW split (ks.take i)).keys.length < 1000 from by
              obtain ⟨p, hp⟩ := HV.out.pre
              have := congrArg List.length hp
              rw [List.length_append, List.length_take] at this
              omega)
            generalize addsW split (ks.take i) = s at *
            have HAD := Lib.hid (add_any wb s xv ov kv sv wr ks[i] split HW.out HKI.out.2 HKI.out.1 HKN.out (by have := HV.out.len; omega) (by have := HV.out.idx; omega) (by have := HV.out.stems; omega) (by have := HV.out.size; omega))
            rw [← HAT.out] at HAD
            generalize ks[i] = key at *
            clear hc hb
            go_wp2_with fail
            refine HAD.out.mono ?_
            rintro e w6 ⟨rfl, ⟨xv6, ov6, kv6, sv6, hw6⟩, hx6⟩
            have HW6 := Lib.hid hw6
            have HX6 := Lib.hid (show Ext w w6 from Below.trans HX.out (hx6.mono HWB.out))
            clear hw6 hx6 HAD hcl
            go_wp2_with fail
            go_roundw
            case rel => exact ⟨i + 1, _, _, _, _, by omega, by go_num, HW6.out, HX6.out⟩
            case measure => simp [intOf]; omega
          · obtain rfl : i = ks.length := by omega
            rw [List.take_of_length_le (Nat.le_refl _)] at HW
            have HBW := Lib.hid (show buildW ks split = if (addsW split ks).keys = [] then addsW split ks else (addsW split ks).ended from rfl)
            have HV := Lib.hid (WInv.build HK.out split)
            have HVA := Lib.hid (WInv.adds HK.out split ks.length (Nat.le_refl _))
            rw [List.take_of_length_le (Nat.le_refl _)] at HVA
            have HTB := Lib.hid (show tableB ks split bits = (buildW ks split).out ++ sealB (idxB (buildW ks split).idx) ++ sealB (bloomB (dl (buildW ks split).stems) bits) ++ eightB (buildW ks split).out.length ++ eightB ((buildW ks split).out ++ sealB (idxB (buildW ks split).idx)).length ++ eightB ks.length ++ [116, 98, 108, 49] from rfl)
            by_cases hke : (addsW split ks).keys = []
            case' pos =>
              have HBE := Lib.hid (show addsW split ks = buildW ks split from by rw [HBW.out, if_pos hke])
              have hk0 : (buildW ks split).keys.length = 0 := by rw [← HBE.out, hke]; rfl
              rw [HBE.out] at HW
              have HWZ := HW
              have HXZ := HX
              obtain ⟨wz, hwz⟩ : ∃ wz, wz = wr := ⟨_, rfl⟩
              subst hwz
              clear HW HX HBE HBW HVA hke
              generalize buildW ks split = s at *
              obtain ⟨oo, oc, rfl, -, -, -, -⟩ := Sl.bytes HWZ.out.oo.sl
              obtain ⟨xo, xc, rfl, -, -, -⟩ := Sl.plcs HWZ.out.xo.sl
              obtain ⟨ko, kc, rfl, -, -, -, -⟩ := Sl.strs0 HWZ.out.ko.sl
              have hcells := HWZ.out.box.cells
              rw [hk0] at hcells
              clear hk0
              go_wp2_with fail
            case' neg =>
              obtain ⟨ko, kc, rfl, -, -, -, -⟩ := Sl.strs0 HW.out.ko.sl
              have hk0 : (0 : Int) < ((addsW split ks).keys.length : Int) := by have := List.length_pos_iff.2 hke; omega
              have HBE := Lib.hid (show (addsW split ks).ended = buildW ks split from by rw [HBW.out, if_neg hke])
              have HPR := Lib.hid HVA.out.pre
              rw [List.take_of_length_le (Nat.le_refl _)] at HPR
              have HEN := Lib.hid (end_any wb (addsW split ks) _ _ _ _ _ HW.out hke (by obtain ⟨p, hp⟩ := HPR.out; exact (hp ▸ HU.out).right) (fun k hk => by obtain ⟨p, hp⟩ := HPR.out; exact HK.out k (by rw [hp]; exact List.mem_append_right _ hk)) (by obtain ⟨p, hp⟩ := HPR.out; have := congrArg List.length hp; rw [List.length_append] at this; omega) (by have := HVA.out.len; omega) (by have := HVA.out.idx; omega))
              rw [HBE.out] at HEN
              have hcells := HW.out.box.cells
              clear hke
              go_wp2_with fail
              refine HEN.out.mono ?_
              rintro e wz ⟨rfl, ⟨xvz, ovz, hwz⟩, hxz⟩
              have HWZ := Lib.hid hwz
              have HXZ := Lib.hid (show Ext w wz from Below.trans HX.out (hxz.mono HWB.out))
              clear hwz hxz HEN HPR HW HX HBE HVA HBW hcells hk0
              generalize buildW ks split = s at *
              obtain ⟨oo, oc, rfl, -, -, -, -⟩ := Sl.bytes HWZ.out.oo.sl
              obtain ⟨xo, xc, rfl, -, -, -⟩ := Sl.plcs HWZ.out.xo.sl
              have hcells := HWZ.out.box.cells
              go_wp2_with fail
            all_goals
              clear hcells
              obtain ⟨wd, hwd⟩ : ∃ wd, wd = wz.drew := ⟨_, rfl⟩
              have HD := Lib.hid (show WrAt wb wd s (.slice xo s.idx.length xc) (.slice oo s.out.length oc) _ _ from by rw [hwd]; exact HWZ.out.drew)
              have HXd := Lib.hid (show Ext w wd from by rw [hwd]; exact HXZ.out.trans (Ext.drew wz))
              have HNW := Lib.hid (show Value.ownBlock (.slice oo s.out.length oc) ≠ some wb from fun e => by have := (HD.out.oo.block wb e).1; omega)
              refine region_walkN (Kept (fun b => b < wd.heap.size ∧ Value.ownBlock (.slice oo s.out.length oc) ≠ some b) wd) (by rw [← hwd]; exact Kept.refl _ _) (by kernel_rfl) (by kernel_rfl) (fun _ _ d _ _ h => by cases d <;> exact h) ?_
              rw [← hwd]
              clear hwd HWZ HXZ
              have hA := fun W (h : Kept (fun b => b < wd.heap.size ∧ Value.ownBlock (.slice oo s.out.length oc) ≠ some b) wd W) => (h.blk HD.out.box ⟨HD.out.box.lt, HNW.out⟩).cells
              ((refine WalkN.take 0 _ ?_ (by simp only [List.getElem?_toArray, List.getElem?_cons_zero]; rfl) (by kernel_rfl) (by kernel_rfl) (by rfl) (fun W hW => ?_) ?_; rotate_left; · (go_simp; try with_reducible rfl)); simp only [Act.put, List.setIfInBounds_toArray, List.set_cons_zero, List.set_cons_succ]); ((refine WalkN.take 1 _ ?_ (by simp only [List.getElem?_toArray, List.getElem?_cons_succ, List.getElem?_cons_zero]; rfl) (by kernel_rfl) (by kernel_rfl) (by rfl) (fun W hW => ?_) ?_; rotate_left; · (go_simp; try with_reducible rfl)); simp only [Act.put, List.setIfInBounds_toArray, List.set_cons_zero, List.set_cons_succ]); ((refine WalkN.take 2 _ ?_ (by simp only [List.getElem?_toArray, List.getElem?_cons_succ, List.getElem?_cons_zero]; rfl) (by kernel_rfl) (by kernel_rfl) (by rfl) (fun W hW => ?_) ?_; rotate_left; · (go_simp; try with_reducible rfl)); simp only [Act.put, List.setIfInBounds_toArray, List.set_cons_zero, List.set_cons_succ]); ((refine WalkN.take 3 _ ?_ (by simp only [List.getElem?_toArray, List.getElem?_cons_succ, List.getElem?_cons_zero]; rfl) (by kernel_rfl) (by kernel_rfl) (by rfl) (fun W hW => ?_) ?_; rotate_left; · (go_simp; try with_reducible rfl)); simp only [Act.put, List.setIfInBounds_toArray, List.set_cons_zero, List.set_cons_succ]); ((refine WalkN.take 4 _ ?_ (by simp only [List.getElem?_toArray, List.getElem?_cons_succ, List.getElem?_cons_zero]; rfl) (by kernel_rfl) (by kernel_rfl) (by rfl) (fun W hW => ?_) ?_; rotate_left; · (go_simp; try with_reducible rfl)); simp only [Act.put, List.setIfInBounds_toArray, List.set_cons_zero, List.set_cons_succ]); ((refine WalkN.take 5 _ ?_ (by simp only [List.getElem?_toArray, List.getElem?_cons_succ, List.getElem?_cons_zero]; rfl) (by kernel_rfl) (by kernel_rfl) (by rfl) (fun W hW => ?_) ?_; rotate_left; · (go_simp; try with_reducible rfl)); simp only [Act.put, List.setIfInBounds_toArray, List.set_cons_zero, List.set_cons_succ]); ((refine WalkN.take 6 _ ?_ (by simp only [List.getElem?_toArray, List.getElem?_cons_succ, List.getElem?_cons_zero]; rfl) (by kernel_rfl) (by kernel_rfl) (by rfl) (fun W hW => ?_) ?_; rotate_left; · (go_simp; try with_reducible rfl)); simp only [Act.put, List.setIfInBounds_toArray, List.set_cons_zero, List.set_cons_succ]); ((refine WalkN.take 7 _ ?_ (by simp only [List.getElem?_toArray, List.getElem?_cons_succ, List.getElem?_cons_zero]; rfl) (by kernel_rfl) (by kernel_rfl) (by rfl) (fun W hW => ?_) ?_; rotate_left; · (go_simp; try with_reducible rfl)); simp only [Act.put, List.setIfInBounds_toArray, List.set_cons_zero, List.set_cons_succ])
              clear hA
              have HIB := Lib.hid (index_bytes (S := fun b => wb + 1 ≤ b ∧ b < wd.heap.size) (.slice xo s.idx.length xc) s.idx wd (fun b hb => hb.2) HD.out.xo.sl (by have := HV.out.idx; omega) (fun p hp => by have := HV.out.places p hp; have := HV.out.len; omega))
              have HIL := Lib.hid (show (idxB s.idx).length ≤ 2000000 from by
                have h1 := idxB_len 1000 (by decide) s.idx (fun p hp => by have := HV.out.places p hp; have := HV.out.len; omega)
                have h2 : (putB s.idx.length).length ≤ 10 := U64.len (by unfold U64; have := HV.out.idx; omega)
                have h3 : s.idx.length * (1000 + 30) ≤ 1000 * 1030 := Nat.mul_le_mul (by have := HV.out.idx; omega) (Nat.le_refl _)
                unfold idxB
                rw [List.length_append]
                omega)
              refine WalkN.one 8 (by kernel_rfl) ?_
              refine ⟨_, (by simp only [List.getElem?_toArray, List.getElem?_cons_succ, List.getElem?_cons_zero]; rfl), by rfl, fun K hK => ?_⟩
              go_simp
              refine HIB.out.mono ?_
              clear HIB
              rintro e w7 ⟨v7, rfl, ho7, hx7⟩
              refine hK.out _ _ (Below.kept hx7 fun b hb => hb.1) ?_
              clear hK
              have HSE := Lib.hid (seal_any v7 _ w7 (ho7.sl.mono fun b hb => hb.2) (by have := HIL.out; omega))
              refine WalkN.one 9 (by kernel_rfl) ?_
              refine ⟨_, (by simp only [List.getElem?_toArray, List.getElem?_cons_succ, List.getElem?_cons_zero]; rfl), by rfl, fun K hK => ?_⟩
              go_simp
              refine HSE.out.mono ?_
              clear HSE
              rintro e w8 ⟨v8, rfl, ho8, hx8⟩
              have hx78 : Ext wd w8 := hx7.trans hx8
              refine hK.out _ _ (Below.kept hx78 fun b hb => hb.1) ?_
              clear hK
              have H8 := Lib.hid (HD.out.keep hx78)
              have HSL := Lib.hid (sealB_length (idxB s.idx))
              obtain ⟨fo, fc, rfl, -, -, -, -⟩ := Sl.bytes ho8.sl
              have HF8 := Lib.hid ho8.sl
              refine WalkN.one 10 (by kernel_rfl) ?_
              refine ⟨_, (by simp only [List.getElem?_toArray, List.getElem?_cons_succ, List.getElem?_cons_zero]; rfl), by rfl, fun K hK => ?_⟩
              refine wp_own bytesT (.tmp 68) (.tmp 74) rfl rfl H8.out.oo rfl HF8.out (bc_one _) (by have := HV.out.len; have := HIL.out; have := HSL.out; rw [bc_length, bc_length]; omega) (by have := HV.out.len; have := HIL.out; have := HSL.out; rw [bc_length, bc_length]; omega) (by have := H8.out.box.lt; omega) (fun v9 w9 hown9 hb9 hgr9 => ?_)
              have hkk : Kept (fun b => b < wd.heap.size ∧ Value.ownBlock (.slice oo s.out.length oc) ≠ some b) wd w9 := (Below.kept hx78 fun b hb => hb.1).trans ⟨hgr9.os, hgr9.tape, hgr9.output, hgr9.size, fun b hb => hgr9.block b (Nat.lt_of_lt_of_le hb.1 hx78.size) fun e => hb.2 e.symm⟩
              refine hK.out _ _ hkk ?_
              clear hK
              simp only [Act.put, List.setIfInBounds_toArray, List.set_cons_zero, List.set_cons_succ]
              ((refine WalkN.take 11 _ ?_ (by simp only [List.getElem?_toArray, List.getElem?_cons_succ, List.getElem?_cons_zero]; rfl) (by kernel_rfl) (by kernel_rfl) (by rfl) (fun W hW => ?_) ?_; rotate_left; · (go_simp; try with_reducible rfl)); simp only [Act.put, List.setIfInBounds_toArray, List.set_cons_zero, List.set_cons_succ])
              refine WalkN.done (by kernel_rfl) ?_
              have HB9 := Lib.hid (H8.out.box.grownB hgr9 fun g e => by have := (H8.out.oo.block g e).1; omega)
              have HS9 := Lib.hid (H8.out.so.aside H8.out.oo (by decide) hgr9)
              obtain ⟨o2, ho2⟩ : ∃ o2, o2 = s.out ++ sealB (idxB s.idx) := ⟨_, rfl⟩
              have HO2 := Lib.hid ho2
              have HO9 := Lib.hid (show Own w9 (wb + 1) 5 1 v9 (bc o2) from by rw [ho2, bc_append]; exact hown9)
              have HX9 := Lib.hid (show Ext w w9 from Below.trans HXd.out ((Below.kept hx78 fun b (hb : b < w.heap.size) => Nat.lt_of_lt_of_le hb HXd.out.size).trans ⟨hb9.os, hb9.tape, hb9.output, hb9.size, fun b hb => hb9.block b (by have := HWB.out; omega)⟩ |>.below fun b hb => hb))
              obtain ⟨po, pc, rfl, -, -, -, -⟩ := Sl.bytes HO9.out.sl
              clear hkk ho7 hx7 ho8 hx8 hx78 hown9 hb9 hgr9 HD HXd H8 HF8
              have HD9 := Lib.hid (show wb + 1 ≤ w9.heap.size from HB9.out.lt)
              have hcells := HB9.out.cells
              obtain ⟨so, sc', rfl, -, -, -, -⟩ := Sl.strs0 HS9.out.sl
              have HOL := Lib.hid (show o2.length ≤ 10000000 from by rw [ho2, List.length_append]; have := HV.out.len; have := HIL.out; have := HSL.out; omega)
              clear ho2
              rw [← HO2.out] at HTB
              have HMK := Lib.hid (make_any (S := fun b => wb + 1 ≤ b ∧ b < w9.heap.size) (.slice so s.stems.length sc') s.stems bits w9 (fun b hb => hb.2) HS9.out.sl (by have := HV.out.stems; omega) (fun k hk => by have := HV.out.stz k hk; omega))
              go_wp2_with fail
              refine HMK.out.mono ?_
              clear HMK hcells HB9 HS9
              rintro e wa ⟨va, rfl, hoa, hxa⟩
              have HBL := Lib.hid (show (bloomB (dl s.stems) bits).length ≤ 10000 from by
                unfold bloomB
                rw [List.length_append, fillL_length, List.length_replicate, List.length_singleton]
                have h1 : (dl s.stems).length = s.stems.length := List.length_map _
                have h2 := bitsN_bound bits
                have h3 := HV.out.stems
                unfold bloomN
                have h4 : (dl s.stems).length * bitsN bits ≤ 1000 * 40 := Nat.mul_le_mul (by omega) h2.2
                omega)
              rw [show (s.stems.map fun k => k.data.toList) = dl s.stems from rfl] at hoa
              have HSE := Lib.hid (seal_any va _ wa (hoa.sl.mono fun b hb => hb.2) (by have := HBL.out; omega))
              have HXa := Lib.hid (HX9.out.trans hxa)
              have HWa := Lib.hid (Nat.le_trans HD9.out hxa.size)
              have HOa := Lib.hid (HO9.out.below hxa)
              obtain ⟨ao5, n5, c5, rfl, -, -, -⟩ := hoa.sl.len
              clear hoa hxa HX9 HO9
              go_wp2_with fail
              refine HSE.out.mono ?_
              clear HSE
              rintro e wc ⟨vc, rfl, hoc, hxc⟩
              have HXc := Lib.hid (HXa.out.trans hxc)
              have HOc := Lib.hid (HOa.out.below hxc)
              have HFc := Lib.hid hoc.sl
              have HSL2 := Lib.hid (sealB_length (bloomB (dl s.stems) bits))
              have HWc := Lib.hid (show wb + 1 ≤ wc.heap.size from by have := HWa.out; have := hxc.size; omega)
              obtain ⟨fo2, fc2, rfl, -, -, -, -⟩ := Sl.bytes hoc.sl
              clear hoc hxc HXa HOa
              generalize sealB (bloomB (dl s.stems) bits) = sb at *
              have HLL := Lib.hid (show (bc o2).length + (bc sb).length ≤ 11000000 from by have := HOL.out; have := HBL.out; have := HSL2.out; rw [bc_length o2, bc_length sb]; omega)
              go_wp2_with (at_builtin; go_must (refine wpList_own (v := .slice po o2.length pc) (xs := bc o2) bytesT rfl (.tmp 78) (.tmp 85) rfl rfl HOc.out rfl HFc.out (bc_one _) (by have := HLL.out; omega) (by have := HLL.out; omega) HWc.out ?_; intro vd wd2 hownd hbd hgrd; have HOd := Lib.hid (show Own wd2 (wb + 1) 5 1 vd (bc (o2 ++ sb)) from by rw [bc_append o2]; exact hownd); have HXd := Lib.hid (show Ext w wd2 from Below.trans HXc.out (hbd.mono (by have := HWB.out; omega))); have HWd := Lib.hid (Nat.le_trans HWc.out hbd.size); obtain ⟨ao6, n6, c6, rfl, -, -, -⟩ := hownd.sl.len; clear hownd hbd hgrd HOc HFc HXc HWc))
              have HL6 := Lib.hid (show (o2 ++ sb).length ≤ 11000000 from by have := HOL.out; have := HBL.out; have := HSL2.out; rw [List.length_append]; omega)
              refine (eight_any (B := wb + 1) (.slice ao6 n6 c6) (o2 ++ sb) s.out.length wd2 HWd.out HOd.out (by have := HL6.out; omega) (by have := HV.out.len; omega)).mono ?_
              rintro e we ⟨ve, rfl, hoe, hbe⟩
              have HOe := Lib.hid hoe
              have HXe := Lib.hid (show Ext w we from Below.trans HXd.out (hbe.mono (by have := HWB.out; omega)))
              have HWe := Lib.hid (Nat.le_trans HWd.out hbe.size)
              obtain ⟨ao7, n7, c7, rfl, -, -, -⟩ := hoe.sl.len
              clear hoe hbe HOd HXd HWd
              go_wp2_with fail
              refine (eight_any (B := wb + 1) (.slice ao7 n7 c7) (o2 ++ sb ++ eightB s.out.length) o2.length we HWe.out HOe.out (by have := HL6.out; rw [List.length_append]; have : (eightB s.out.length).length = 8 := rfl; omega) (by have := HOL.out; omega)).mono ?_
              rintro e wf ⟨vf, rfl, hof, hbf⟩
              have HOf := Lib.hid hof
              have HXf := Lib.hid (show Ext w wf from Below.trans HXe.out (hbf.mono (by have := HWB.out; omega)))
              have HWf := Lib.hid (Nat.le_trans HWe.out hbf.size)
              obtain ⟨ao8, n8, c8, rfl, -, -, -⟩ := hof.sl.len
              clear hof hbf HOe HXe HWe
              go_wp2_with fail
              refine (eight_any (B := wb + 1) (.slice ao8 n8 c8) (o2 ++ sb ++ eightB s.out.length ++ eightB o2.length) ks.length wf HWf.out HOf.out (by have := HL6.out; rw [List.length_append, List.length_append]; have h1 : (eightB s.out.length).length = 8 := rfl; have h2 : (eightB o2.length).length = 8 := rfl; omega) (by omega)).mono ?_
              rintro e wg ⟨vg, rfl, hog, hbg⟩
              have HOg := Lib.hid hog
              have HXg := Lib.hid (show Ext w wg from Below.trans HXf.out (hbg.mono (by have := HWB.out; omega)))
              have HWg := Lib.hid (Nat.le_trans HWf.out hbg.size)
              have HLg := Lib.hid (show (bc (o2 ++ sb ++ eightB s.out.length ++ eightB o2.length ++ eightB ks.length)).length ≤ 12000000 from by rw [bc_length, List.length_append, List.length_append, List.length_append]; have := HL6.out; have h1 : (eightB s.out.length).length = 8 := rfl; have h2 : (eightB o2.length).length = 8 := rfl; have h3 : (eightB ks.length).length = 8 := rfl; omega)
              obtain ⟨ao9, n9, c9, rfl, -, -, -⟩ := hog.sl.len
              clear hog hbg HOf HXf HWf
              go_wp2_with (at_builtin; go_must (refine wpList_ownO_str Tryz.underlying24 Tryz.underlying9 bytesInfo rfl (.tmp 94) (.const (.string ⟨#[116, 98, 108, 49]⟩)) rfl rfl HOg.out rfl (by have := HLg.out; have : (⟨#[116, 98, 108, 49]⟩ : ByteArray).size = 4 := rfl; omega) HWg.out ?_; intro vh wh hownh hbh hgrh; have HXh := Lib.hid (show Ext w wh from Below.trans HXg.out (hbh.mono (by have := HWB.out; omega))); have HOh := Lib.hid (show Own wh w.heap.size 5 1 vh (bc (tableB ks split bits)) from by rw [HTB.out, bc_append (o2 ++ sb ++ eightB s.out.length ++ eightB o2.length ++ eightB ks.length)]; exact hownh.mono (by have := HWB.out; omega)); obtain ⟨aoh, nh, ch, rfl, -, -, -⟩ := hownh.sl.len; clear hownh hbh hgrh HOg HXg HWg))
              go_ret2
              exact ⟨HXh.out, .inr (.inr (.inr ⟨HGD.out, HANY.out, HU.out, _, rfl, HOh.out⟩))⟩

end Go.Proofs.YtmmeofiocbfamaaGreatDoor
