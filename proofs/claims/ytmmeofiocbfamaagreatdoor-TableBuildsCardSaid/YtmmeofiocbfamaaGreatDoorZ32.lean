/- The document's block: Build. sentrylaw14's TableSame. No condition: lemmas. -/
import Derived.Test.YtmmeofiocbfamaaGreatDoorZ31
import Derived.Test.YtmmeofiocbfamaaGreatDoorZ29
namespace Go.Proofs.YtmmeofiocbfamaaGreatDoor
open Go Go.RowKit

theorem Sl.at {S : Nat → Prop} {w : World} {sz b off n c : Nat} {xs : List Value} (h : Sl S w sz (.slice (some ⟨b, off, none⟩) n c) xs) : ∀ j u, xs[j]? = some u → w.cell? ((⟨b, off, none⟩ : Addr).add j) = some u := fun j u hu => by
  obtain ⟨ao, n', c', hv, -, -, -, -, h5⟩ := h
  obtain ⟨b', off', e, -, hc⟩ := h5 (fun e => by subst e; simp at hu)
  cases hv
  cases e
  rw [Addr.add_lit]
  exact hc j u hu

set_option maxRecDepth 100000 in
set_option maxHeartbeats 1600000 in
theorem build13_any {S : Nat → Prop} (v : Value) (ks : List ByteArray) (w : World) (hSw : ∀ b, S b → b < w.heap.size) (h : Sl S w 1 v (sc ks)) (hl : ks.length ≤ 1000) (hk : ∀ k ∈ ks, k.size ≤ 1000) (hu : UpK ks) :
    Calls Tryz.prog 36 #[v] w fun e w' => ∃ v', e = .returned (.tuple #[v', .int .i64 0]) ∧ Own w' w.heap.size 5 1 v' (bc (blkF (dl ks))) ∧ Ext w w' := by
  have HS := Lib.hid h
  obtain ⟨ao, c, rfl, hlc, hcm, -, hcell⟩ := Sl.strs0 h
  have HC := Lib.hid hcell
  have HK := Lib.hid hk
  have HU := Lib.hid hu
  have HLD := Lib.hid (lastK_data ks)
  have HLS := Lib.hid (fun i => lastK_size ks i 1000 hk)
  have HPRE := Lib.hid (blkL_pre (dl ks))
  have HBL := Lib.hid (show (blkL 0 [] (dl ks)).length ≤ 4000000 from by
    have h2 := blkL_bound 1000 (by decide) 0 [] (dl ks) (Nat.zero_le _) fun x hx => by
      obtain ⟨y, hy, rfl⟩ := List.mem_map.1 hx
      rw [show y.data.toList.length = y.size from Array.length_toList]
      exact hk y hy
    have h3 : (dl ks).length = ks.length := List.length_map _
    rw [h3] at h2
    omega)
  have HBF := Lib.hid (show blkF (dl ks) = blkL 0 [] (dl ks) ++ (endsL 0 0 [] (dl ks)).flatMap four ++ four (endsL 0 0 [] (dl ks)).length from rfl)
  obtain ⟨bf, hbf⟩ : ∃ bf, bf = blkF (dl ks) := ⟨_, rfl⟩
  rw [← hbf] at HBF ⊢
  clear hbf
  rw [show (ks.map fun k => k.data.toList) = dl ks from rfl] at HLD
  obtain ⟨kl, hks⟩ : ∃ kl, kl = dl ks := ⟨_, rfl⟩
  rw [← hks] at HLD HPRE HBL HBF
  have HKL := Lib.hid (show kl.length = ks.length ∧ ∀ i (h : i < ks.length) (h' : i < kl.length), kl[i] = ks[i].data.toList from by subst hks; exact ⟨List.length_map _, fun i h h' => List.getElem_map _⟩)
  clear hks hcell h hk hu
  go_enter Tryz.func36, Tryz.ntmps36
  go_wp2_with fail
  go_loopw [4, 5, 6, 12] (fun bv ev zv iv wr => ∃ i : Nat, i ≤ ks.length ∧ iv = .int .i64 i ∧ zv = .int .i64 (endsL 0 0 [] (kl.take i)).length ∧ Own wr w.heap.size 5 1 bv (bc (blkL 0 [] (kl.take i))) ∧ Own wr w.heap.size 5 1 ev (bc ((endsL 0 0 [] (kl.take i)).flatMap four)) ∧ (∀ g, ev.ownBlock = some g → bv.ownBlock ≠ some g) ∧ Ext w wr) (fun _ _ _ iv _ => ks.length - (intOf iv).toNat)
  case atStart => exact ⟨0, by omega, rfl, rfl, Own.nil _ _ _ _, Own.nil _ _ _ _, (fun _ h => by cases h), Ext.refl _⟩
  case round =>
    obtain ⟨i, hi, rfl, rfl, hb, he, ha, hx⟩ := hrel
    have HB := Lib.hid hb
    have HE := Lib.hid he
    have HA := Lib.hid ha
    have HX := Lib.hid hx
    obtain ⟨bo, bn, bcap, rfl, hbn, -, -⟩ := hb.sl.len
    obtain ⟨eo, en, ecap, rfl, -, -, -⟩ := he.sl.len
    have HEL := Lib.hid (show (endsL 0 0 [] (kl.take i)).length ≤ 1000 from by have := endsL_len 0 0 [] (kl.take i); rw [List.length_take] at this; omega)
    rw [bc_length, Nat.mul_one] at hbn
    have HBN := Lib.hid hbn
    clear hb he ha hx hbn
    by_cases hlt : i < ks.length
    · obtain ⟨bk, off, rfl, hbk, hcc⟩ := HC.out (by omega)
      have hcl := HX.out.cell (hcc i hlt)
      have HT1 := Lib.hid (blkL_take kl i (by rw [HKL.out.1]; exact hlt))
      have HT2 := Lib.hid (endsL_take kl i (by rw [HKL.out.1]; exact hlt))
      rw [HKL.out.2 i hlt (by rw [HKL.out.1]; exact hlt), HLD.out i] at HT1
      have HKS := Lib.hid (HK.out _ (List.getElem_mem hlt))
      have HLA := Lib.hid (lastK_succ ks i hlt)
      have HLZ := Lib.hid (HLS.out i)
      have HP1 := Lib.hid (HPRE.out (i + 1))
      have HP0 := Lib.hid (HPRE.out i)
      obtain ⟨j, hj⟩ : ∃ j, j = i - 1 := ⟨_, rfl⟩
      have HPJ := Lib.hid (show 0 < i → lastK ks i = ks[j]'(by omega) ∧ ltS (ks[j]'(by omega)) ks[i] = true from fun h0 => by
        subst hj
        have e := lastK_succ ks (i - 1) (by omega)
        have := HU.out (i - 1) (by omega)
        simp only [Nat.sub_add_cancel h0] at e this
        exact ⟨e, this⟩)
      have hjl : j < ks.length := by omega
      have hcj := HX.out.cell (hcc j hjl)
      have HJ := Lib.hid (show 0 < i → (i : Int) - 1 = (j : Int) from fun h0 => by omega)
      generalize hpv : ks[j] = prev at *
      generalize hky : ks[i] = key at *
      have HIL := Lib.hid hlt
      clear hcc hj hpv hky
      by_cases h16 : i % 16 = 0
      · have hm16 : (i : Int) % 16 = 0 := by omega
        have H16 := Lib.hid h16
        have HN := Lib.hid (show blkN i (lastK ks i).data.toList key.data.toList = 0 from if_pos h16)
        have HF := Lib.hid (four13_any bn wr (by have := HBN.out; have := HP0.out; have := HBL.out; omega))
        obtain ⟨zl, hzl⟩ : ∃ z, z = (endsL 0 0 [] (kl.take i)).length := ⟨_, rfl⟩
        have HZL := Lib.hid hzl
        have HZN := Lib.hid (show (endsL 0 0 [] (kl.take (i + 1))).length = zl + 1 from by rw [HT2.out, if_pos h16, List.length_append, ← hzl]; rfl)
        have hwz : wrap64 ((zl : Int) + 1) = (zl : Int) + 1 := by have := HEL.out; unfold wrap64; omega
        have HE2 := Lib.hid (show (endsL 0 0 [] (kl.take (i + 1))).flatMap four = (endsL 0 0 [] (kl.take i)).flatMap four ++ four bn from by rw [HT2.out, if_pos h16, List.flatMap_append, HBN.out]; simp)
        have HEF := Lib.hid (show ((endsL 0 0 [] (kl.take i)).flatMap four).length ≤ 4000 from by rw [fours_len]; have := HEL.out; omega)
        rw [← hzl]
        generalize (endsL 0 0 [] (kl.take i)).flatMap four = es at *
        clear hzl h16
        rcases Nat.eq_zero_or_pos i with hi0 | hi0
        case' inl =>
          have hz : ¬ ((0 : Int) < (i : Int)) := by omega
          clear hi0 hcj
        case' inr =>
          have hz : (0 : Int) < (i : Int) := by omega
          have hjj := HJ.out hi0
          have hwj : wrap64 ((i : Int) - 1) = (j : Int) := by rw [hjj]; unfold wrap64; omega
          have hwj2 : wrap64 (j : Int) = (j : Int) := by unfold wrap64; omega
          have hge : Op.bytesLess prev.toList key.toList = true := (HPJ.out hi0).2
          clear hi0
        all_goals
          go_wp2_with fail
          refine HF.out.mono ?_
          clear HF
          rintro e w1 ⟨rfl, ho1, hx1⟩
          have HB1 := Lib.hid (HB.out.below hx1)
          have HE1 := Lib.hid (HE.out.below hx1)
          have HX1 := Lib.hid (HX.out.trans hx1)
          have HF1 := Lib.hid ho1.sl.at
          have HAP := Lib.hid (show ∀ g, Value.ownBlock (.slice bo bn bcap) = some g → g < w1.heap.size from fun g hg => Nat.lt_of_lt_of_le (HB.out.block g hg).2 hx1.size)
          clear ho1 hx1
          go_wp2_with (at_builtin; go_must (refine wpList_ownw bytesT rfl (.tmp 33) (.tmp 36) rfl rfl HE1.out rfl rfl HF1.out (bc_one _) (by have := HEF.out; simp [bc_length, four_length]; omega) (by have := HEF.out; simp [bc_length, four_length]; omega) HX1.out.size ?_; intro v5 w5 hown5 hwh5 hgr5; have HE5 := Lib.hid (show Own w5 w.heap.size 5 1 v5 (bc ((endsL 0 0 [] (kl.take (i + 1))).flatMap four)) from by rw [HE2.out, bc_append]; exact hown5); have HB5 := Lib.hid (HB1.out.keepOwn fun g hg => hgr5.block g (HAP.out g hg) fun e => HA.out g e.symm hg); have HX5 := Lib.hid (show Ext w w5 from Below.trans HX1.out ((Below.refl _ _).grown hgr5 HX1.out.size fun g hg => (HE1.out.block g hg).1)); obtain ⟨eo5, en5, ec5, rfl, -, -, -⟩ := hown5.sl.len; clear hown5 hwh5 hgr5))
          have hw0 : IntKind.u64.wrap 0 = 0 := by decide
          obtain ⟨wd, hwd⟩ : ∃ wd, wd = w5.drew := ⟨_, rfl⟩
          have HXd := Lib.hid (show Ext w wd from by rw [hwd]; exact HX5.out.trans (Ext.drew w5))
          have HBd := Lib.hid (show Own wd w.heap.size 5 1 (.slice bo bn bcap) (bc (blkL 0 [] (kl.take i))) from by rw [hwd]; exact HB5.out)
          have HEd := Lib.hid (show Own wd w.heap.size 5 1 (.slice eo5 en5 ec5) (bc ((endsL 0 0 [] (kl.take (i + 1))).flatMap four)) from by rw [hwd]; exact HE5.out)
          clear HX5 HB5 HE5
          refine region_walkN (Ext wd) (by rw [← hwd]; exact Ext.refl _) (by kernel_rfl) (by kernel_rfl) (fun _ _ d _ _ h => by cases d <;> exact h) ?_
          rw [← hwd]
          clear hwd
          ((refine WalkN.take 0 _ ?_ (by simp only [List.getElem?_toArray, List.getElem?_cons_zero]; rfl) (by kernel_rfl) (by kernel_rfl) (by rfl) (fun W hW => ?_) ?_; rotate_left; · (go_simp; try with_reducible rfl)); simp only [Act.put, List.setIfInBounds_toArray, List.set_cons_zero, List.set_cons_succ]); ((refine WalkN.take 1 _ ?_ (by simp only [List.getElem?_toArray, List.getElem?_cons_succ, List.getElem?_cons_zero]; rfl) (by kernel_rfl) (by kernel_rfl) (by rfl) (fun W hW => ?_) ?_; rotate_left; · (go_simp; try with_reducible rfl)); simp only [Act.put, List.setIfInBounds_toArray, List.set_cons_zero, List.set_cons_succ]); ((refine WalkN.take 2 _ ?_ (by simp only [List.getElem?_toArray, List.getElem?_cons_succ, List.getElem?_cons_zero]; rfl) (by kernel_rfl) (by kernel_rfl) (by rfl) (fun W hW => ?_) ?_; rotate_left; · (go_simp; try with_reducible rfl)); simp only [Act.put, List.setIfInBounds_toArray, List.set_cons_zero, List.set_cons_succ]); ((refine WalkN.take 4 _ ?_ (by simp only [List.getElem?_toArray, List.getElem?_cons_succ, List.getElem?_cons_zero]; rfl) (by kernel_rfl) (by kernel_rfl) (by rfl) (fun W hW => ?_) ?_; rotate_left; · (go_simp; try with_reducible rfl)); simp only [Act.put, List.setIfInBounds_toArray, List.set_cons_zero, List.set_cons_succ]); ((refine WalkN.take 5 _ ?_ (by simp only [List.getElem?_toArray, List.getElem?_cons_succ, List.getElem?_cons_zero]; rfl) (by kernel_rfl) (by kernel_rfl) (by rfl) (fun W hW => ?_) ?_; rotate_left; · (go_simp; try with_reducible rfl)); simp only [Act.put, List.setIfInBounds_toArray, List.set_cons_zero, List.set_cons_succ]); ((refine WalkN.take 6 _ ?_ (by simp only [List.getElem?_toArray, List.getElem?_cons_succ, List.getElem?_cons_zero]; rfl) (by kernel_rfl) (by kernel_rfl) (by rfl) (fun W hW => ?_) ?_; rotate_left; · (go_simp; try with_reducible rfl)); simp only [Act.put, List.setIfInBounds_toArray, List.set_cons_zero, List.set_cons_succ])
          have HP4 := Lib.hid (refPutO_any (.slice bo bn bcap) (blkL 0 [] (kl.take i)) 0 wd (Own.app HBd.out).sl (by have := HP0.out; have := HBL.out; omega) (by unfold U64; omega))
          refine WalkN.one 3 (by kernel_rfl) ?_
          refine ⟨_, (by simp only [List.getElem?_toArray, List.getElem?_cons_succ, List.getElem?_cons_zero]; rfl), by rfl, fun K hK => ?_⟩
          go_simp
          refine HP4.out.mono ?_
          rintro e w6 ⟨v6, rfl, ho6, hb6⟩
          have hE6 : Ext wd w6 := hb6
          refine hK.out _ _ hE6 ?_
          clear hK
          have HP5 := Lib.hid (refPutTextO_any v6 _ key w6 (Own.app ho6).sl (by have := HP1.out; rw [HT1.out, List.length_append] at this; unfold blkK at this; rw [HN.out, List.length_append] at this; have := HBL.out; rw [List.length_append]; omega) (by have := HKS.out; omega))
          refine WalkN.one 7 (by kernel_rfl) ?_
          refine ⟨_, (by simp only [List.getElem?_toArray, List.getElem?_cons_succ, List.getElem?_cons_zero]; rfl), by rfl, fun K hK => ?_⟩
          go_simp
          refine HP5.out.mono ?_
          rintro e w7 ⟨v7, rfl, ho7, hb7⟩
          have hE7 : Ext wd w7 := hE6.trans hb7
          refine hK.out _ _ hE7 ?_
          clear hK
          ((refine WalkN.take 8 _ ?_ (by simp only [List.getElem?_toArray, List.getElem?_cons_succ, List.getElem?_cons_zero]; rfl) (by kernel_rfl) (by kernel_rfl) (by rfl) (fun W hW => ?_) ?_; rotate_left; · (go_simp; try with_reducible rfl)); simp only [Act.put, List.setIfInBounds_toArray, List.set_cons_zero, List.set_cons_succ])
          refine WalkN.done (by kernel_rfl) ?_
          have HO7 := Lib.hid (show Own w7 w.heap.size 5 1 v7 (bc (blkL 0 [] (kl.take (i + 1)))) from by
            rw [HT1.out]
            unfold blkK
            rw [HN.out, List.drop_zero, ← List.append_assoc]
            exact ho7.mono (by have := HXd.out.size; have := hE6.size; omega))
          have HE7 := Lib.hid (HEd.out.below hE7)
          have HX7 := Lib.hid (HXd.out.trans hE7)
          have HA7 := Lib.hid (show ∀ g, Value.ownBlock (.slice eo5 en5 ec5) = some g → v7.ownBlock ≠ some g from fun g hg hg7 => by
            have h1 := (HEd.out.block g hg).2
            have h2 := (ho7.block g hg7).1
            have h3 := hE6.size
            omega)
          obtain ⟨ao7, n7, c7, rfl, -, -, -⟩ := ho7.sl.len
          clear ho6 hb6 hE6 ho7 hb7 hE7 HP4 HP5 hw0
          go_wp2_with fail
          go_roundw
          case rel => exact ⟨i + 1, HIL.out, by go_num, by rw [HZN.out]; rfl, HO7.out, HE7.out, HA7.out, HX7.out⟩
          case measure => have := HIL.out; simp [intOf]; omega
      · have hm16 : ((i : Int) % 16 == 0) = false := by have : ¬ ((i : Int) % 16 = 0) := by omega
                                                        simpa using this
        have hi0 : 0 < i := by rcases Nat.eq_zero_or_pos i with rfl | h0; · exact absurd rfl h16
                               · exact h0
        have hz : (0 : Int) < (i : Int) := by omega
        have hjj := HJ.out hi0
        have hwj : wrap64 ((i : Int) - 1) = (j : Int) := by rw [hjj]; unfold wrap64; omega
        have hwj2 : wrap64 (j : Int) = (j : Int) := by unfold wrap64; omega
        have hge : Op.bytesLess prev.toList key.toList = true := (HPJ.out hi0).2
        have HLP := Lib.hid (HPJ.out hi0).1
        have HPS := Lib.hid (show prev.size ≤ 1000 from by have := HLZ.out; rw [HLP.out] at this; exact this)
        have HCO := Lib.hid (common13_any prev key wr (by have := HPS.out; omega) (by have := HKS.out; omega))
        have HN := Lib.hid (show blkN i (lastK ks i).data.toList key.data.toList = comm prev.data.toList key.data.toList from by unfold blkN; rw [if_neg h16, HLP.out])
        have HNL := Lib.hid (show comm prev.data.toList key.data.toList ≤ key.size ∧ comm prev.data.toList key.data.toList ≤ 1000 from by have := (comm_le prev.data.toList key.data.toList).2; have h2 : key.data.toList.length = key.size := Array.length_toList; have := HKS.out; omega)
        have HZN := Lib.hid (show endsL 0 0 [] (kl.take (i + 1)) = endsL 0 0 [] (kl.take i) from by rw [HT2.out, if_neg h16, List.append_nil])
        clear hi0 h16
        generalize comm prev.data.toList key.data.toList = n at *
        have hw0 : IntKind.u64.wrap (n : Int) = (n : Int) := by have := HNL.out; rw [IntKind.wrap_u64]; omega
        go_wp2_with fail
        refine HCO.out.mono ?_
        rintro e w5 ⟨rfl, hx5⟩
        have HX5 := Lib.hid (HX.out.trans hx5)
        have HB5 := Lib.hid (HB.out.below hx5)
        have HE5 := Lib.hid (show Own w5 w.heap.size 5 1 (.slice eo en ecap) (bc ((endsL 0 0 [] (kl.take (i + 1))).flatMap four)) from by rw [HZN.out]; exact HE.out.below hx5)
        clear hx5 HCO HX HB HE HA hz hwj hwj2 hge hm16 hjj hcj
        have hnk := HNL.out.1
        go_wp2_with fail
        obtain ⟨wd, hwd⟩ : ∃ wd, wd = w5.drew := ⟨_, rfl⟩
        have HXd := Lib.hid (show Ext w wd from by rw [hwd]; exact HX5.out.trans (Ext.drew w5))
        have HBd := Lib.hid (show Own wd w.heap.size 5 1 (.slice bo bn bcap) (bc (blkL 0 [] (kl.take i))) from by rw [hwd]; exact HB5.out)
        have HEd := Lib.hid (show Own wd w.heap.size 5 1 (.slice eo en ecap) (bc ((endsL 0 0 [] (kl.take (i + 1))).flatMap four)) from by rw [hwd]; exact HE5.out)
        clear HX5 HB5 HE5
        refine region_walkN (Ext wd) (by rw [← hwd]; exact Ext.refl _) (by kernel_rfl) (by kernel_rfl) (fun _ _ d _ _ h => by cases d <;> exact h) ?_
        rw [← hwd]
        clear hwd
        ((refine WalkN.take 0 _ ?_ (by simp only [List.getElem?_toArray, List.getElem?_cons_zero]; rfl) (by kernel_rfl) (by kernel_rfl) (by rfl) (fun W hW => ?_) ?_; rotate_left; · (go_simp; try with_reducible rfl)); simp only [Act.put, List.setIfInBounds_toArray, List.set_cons_zero, List.set_cons_succ]); ((refine WalkN.take 1 _ ?_ (by simp only [List.getElem?_toArray, List.getElem?_cons_succ, List.getElem?_cons_zero]; rfl) (by kernel_rfl) (by kernel_rfl) (by rfl) (fun W hW => ?_) ?_; rotate_left; · (go_simp; try with_reducible rfl)); simp only [Act.put, List.setIfInBounds_toArray, List.set_cons_zero, List.set_cons_succ]); ((refine WalkN.take 2 _ ?_ (by simp only [List.getElem?_toArray, List.getElem?_cons_succ, List.getElem?_cons_zero]; rfl) (by kernel_rfl) (by kernel_rfl) (by rfl) (fun W hW => ?_) ?_; rotate_left; · (go_simp; try with_reducible rfl)); simp only [Act.put, List.setIfInBounds_toArray, List.set_cons_zero, List.set_cons_succ]); ((refine WalkN.take 4 _ ?_ (by simp only [List.getElem?_toArray, List.getElem?_cons_succ, List.getElem?_cons_zero]; rfl) (by kernel_rfl) (by kernel_rfl) (by rfl) (fun W hW => ?_) ?_; rotate_left; · (go_simp; try with_reducible rfl)); simp only [Act.put, List.setIfInBounds_toArray, List.set_cons_zero, List.set_cons_succ]); ((refine WalkN.take 5 _ ?_ (by simp only [List.getElem?_toArray, List.getElem?_cons_succ, List.getElem?_cons_zero]; rfl) (by kernel_rfl) (by kernel_rfl) (by rfl) (fun W hW => ?_) ?_; rotate_left; · (go_simp; try with_reducible rfl)); simp only [Act.put, List.setIfInBounds_toArray, List.set_cons_zero, List.set_cons_succ]); ((refine WalkN.take 6 _ ?_ (by simp only [List.getElem?_toArray, List.getElem?_cons_succ, List.getElem?_cons_zero]; rfl) (by kernel_rfl) (by kernel_rfl) (by rfl) (fun W hW => ?_) ?_; rotate_left; · (go_simp; try with_reducible rfl)); simp only [Act.put, List.setIfInBounds_toArray, List.set_cons_zero, List.set_cons_succ])
        have HP4 := Lib.hid (refPutO_any (.slice bo bn bcap) (blkL 0 [] (kl.take i)) n wd (Own.app HBd.out).sl (by have := HP0.out; have := HBL.out; omega) (by have := HNL.out; unfold U64; omega))
        refine WalkN.one 3 (by kernel_rfl) ?_
        refine ⟨_, (by simp only [List.getElem?_toArray, List.getElem?_cons_succ, List.getElem?_cons_zero]; rfl), by rfl, fun K hK => ?_⟩
        go_simp
        refine HP4.out.mono ?_
        rintro e w6 ⟨v6, rfl, ho6, hb6⟩
        have hE6 : Ext wd w6 := hb6
        refine hK.out _ _ hE6 ?_
        clear hK
        have HP5 := Lib.hid (refPutTextO_any v6 _ (key.extract n key.size) w6 (Own.app ho6).sl (by have := HP1.out; rw [HT1.out, List.length_append] at this; unfold blkK at this; rw [HN.out, List.length_append] at this; have := HBL.out; rw [List.length_append]; omega) (by rw [ByteArray.size_extract]; have := HKS.out; omega))
        refine WalkN.one 7 (by kernel_rfl) ?_
        refine ⟨_, (by simp only [List.getElem?_toArray, List.getElem?_cons_succ, List.getElem?_cons_zero]; rfl), by rfl, fun K hK => ?_⟩
        go_simp
        refine HP5.out.mono ?_
        rintro e w7 ⟨v7, rfl, ho7, hb7⟩
        have hE7 : Ext wd w7 := hE6.trans hb7
        refine hK.out _ _ hE7 ?_
        clear hK
        ((refine WalkN.take 8 _ ?_ (by simp only [List.getElem?_toArray, List.getElem?_cons_succ, List.getElem?_cons_zero]; rfl) (by kernel_rfl) (by kernel_rfl) (by rfl) (fun W hW => ?_) ?_; rotate_left; · (go_simp; try with_reducible rfl)); simp only [Act.put, List.setIfInBounds_toArray, List.set_cons_zero, List.set_cons_succ])
        refine WalkN.done (by kernel_rfl) ?_
        have HO7 := Lib.hid (show Own w7 w.heap.size 5 1 v7 (bc (blkL 0 [] (kl.take (i + 1)))) from by
          rw [HT1.out]
          unfold blkK
          rw [HN.out, ← List.append_assoc, show key.data.toList.drop n = (key.extract n key.size).data.toList from (Lib.extract_to_end key n).symm]
          exact ho7.mono (by have := HXd.out.size; have := hE6.size; omega))
        have HE7 := Lib.hid (HEd.out.below hE7)
        have HX7 := Lib.hid (HXd.out.trans hE7)
        have HA7 := Lib.hid (show ∀ g, Value.ownBlock (.slice eo en ecap) = some g → v7.ownBlock ≠ some g from fun g hg hg7 => by
          have h1 := (HEd.out.block g hg).2
          have h2 := (ho7.block g hg7).1
          have h3 := hE6.size
          omega)
        obtain ⟨ao7, n7, c7, rfl, -, -, -⟩ := ho7.sl.len
        clear ho6 hb6 hE6 ho7 hb7 hE7 HP4 HP5 hw0
        go_wp2_with fail
        go_roundw
        case rel => exact ⟨i + 1, HIL.out, by go_num, by rw [HZN.out], HO7.out, HE7.out, HA7.out, HX7.out⟩
        case measure => have := HIL.out; simp [intOf]; omega
    · obtain rfl : i = ks.length := by omega
      have HLF := Lib.hid (show kl.take ks.length = kl from by rw [← HKL.out.1]; exact List.take_length ..)
      rw [HLF.out] at HB HE HEL
      rw [HLF.out]
      obtain ⟨zl, hzl⟩ : ∃ z, z = (endsL 0 0 [] kl).length := ⟨_, rfl⟩
      rw [← hzl] at HEL ⊢
      rw [← hzl] at HBF
      have HEF := Lib.hid (show ((endsL 0 0 [] kl).flatMap four).length ≤ 4000 from by rw [fours_len, ← hzl]; have := HEL.out; omega)
      generalize (endsL 0 0 [] kl).flatMap four = es at *
      clear hzl hlt
      go_wp2_with (at_builtin; first | go_must (refine wpList_own (xs := bc (blkL 0 [] kl)) bytesT rfl (.tmp 54) (.tmp 55) rfl rfl HB.out rfl HE.out.sl (bc_one _) (by have := HEF.out; have := HBL.out; rw [bc_length, bc_length]; omega) (by have := HEF.out; have := HBL.out; rw [bc_length, bc_length]; omega) HX.out.size ?_; intro v4 w4 hown4 hb4 _; have HO4 := Lib.hid (show Own w4 w.heap.size 5 1 v4 (bc (blkL 0 [] kl ++ es)) from by rw [bc_append]; exact hown4); have HX4 := Lib.hid (show Ext w w4 from Below.trans HX.out hb4); have HF := Lib.hid (four13_any zl w4 (by have := HEL.out; omega)); obtain ⟨ao4, n4, c4, rfl, -, -, -⟩ := hown4.sl.len; clear hown4 hb4) | fail)
      refine HF.out.mono ?_
      clear HF
      rintro e w6 ⟨rfl, ho6, hx6⟩
      have HO6 := Lib.hid (HO4.out.below hx6)
      have HX6 := Lib.hid (HX4.out.trans hx6)
      have HF6 := Lib.hid ho6.sl
      clear ho6 hx6
      go_wp2_with (at_builtin; go_must (refine wpList_own (xs := bc (blkL 0 [] kl ++ es)) bytesT rfl (.tmp 56) (.tmp 58) rfl rfl HO6.out rfl HF6.out (bc_one _) (by have := HEF.out; have := HBL.out; rw [bc_length, bc_length, List.length_append]; simp [four_length]; omega) (by have := HEF.out; have := HBL.out; rw [bc_length, bc_length, List.length_append]; simp [four_length]; omega) HX6.out.size ?_; intro v7 w7 hown7 hb7 _; have HO7 := Lib.hid (show Own w7 w.heap.size 5 1 v7 (bc bf) from by rw [HBF.out, bc_append (blkL 0 [] kl ++ es)]; exact hown7); have HX7 := Lib.hid (show Ext w w7 from Below.trans HX6.out hb7); obtain ⟨ao7, n7, c7, rfl, -, -, -⟩ := hown7.sl.len; clear hown7 hb7))
      go_ret2
      exact ⟨_, rfl, HO7.out, HX7.out⟩

end Go.Proofs.YtmmeofiocbfamaaGreatDoor
namespace Go.Proofs.YtmmeofiocbfamaaGreatDoor
open Go Go.RowKit

theorem innerA_size (x : Ent) (hr : U64 x.2.1) : (innerA x).size ≤ 2 * x.1.size + 20 := by
  have h1 := esc_length x.1.data.toList
  have e : (innerA x).size = (innerB x.1.data.toList x.2.1 x.2.2).length := by unfold innerA; show (Array.size _) = _; simp
  rw [e]
  have h2 : x.1.data.toList.length = x.1.size := Array.length_toList
  unfold innerB
  simp only [List.length_append, List.length_cons, List.length_nil]
  have h3 : (be8 (flip64 x.2.1)).length = 8 := by unfold be8; rfl
  omega
theorem keyRow_of {es : List Ent} (hf : fewB es = true) (hu : ∀ e ∈ es, U64 e.2.1) : KeyRow (rowsL es) := by
  unfold fewB at hf
  rw [Bool.and_eq_true, List.all_eq_true, decide_eq_true_eq] at hf
  refine ⟨(rowsL_up es).upK, ?_, fun k hk => ?_, ?_⟩
  · have := rows_length es []
    simp only [List.length_nil, Nat.zero_add] at this
    exact Nat.le_trans this hf.2
  · obtain ⟨x, hx, rfl⟩ := (rowsL_mem es k).1 hk
    have h1 := hf.1 x hx
    have h2 := innerA_size x (hu x hx)
    simp only [decide_eq_true_eq] at h1
    omega
  · rw [List.any_eq_false]
    intro k hk
    obtain ⟨x, hx, rfl⟩ := (rowsL_mem es k).1 hk
    have : outerS (innerA x).data.toList = some (x.1.data.toList, x.2.1, x.2.2) := by
      show outerS (innerB x.1.data.toList x.2.1 x.2.2) = _
      exact outer_inner _ _ _ (hu x hx)
    rw [this]
    simp

end Go.Proofs.YtmmeofiocbfamaaGreatDoor
