/- Lemmas for the claim, no condition. -/
import Derived.Test.YtipddhcfcehcaaaYT34
namespace Go.Proofs.Ytipddhcfcehcaaa
open Go Go.RowKit Go.Maps

set_option maxRecDepth 100000 in
set_option maxHeartbeats 4000000 in
theorem same5_any (ts : List TyS) (tv uv : Value) (w : World) (ht : TysAt (· < w.heap.size) w ts tv) (hu : TysAt (· < w.heap.size) w ts uv) :
    Calls Try.prog 22 #[.agg #[tv], .agg #[uv]] w fun e w' => e = .returned (.bool true) ∧ Ext w w' := by
  obtain ⟨aot, ct, rfl, hct1, hct2, hrt⟩ := ht.rows
  obtain ⟨aou, cu, rfl, hcu1, hcu2, hru⟩ := hu.rows
  have HRT := Lib.hid hrt
  have HRU := Lib.hid hru
  clear ht hu hrt hru
  obtain ⟨wa, hwa⟩ : ∃ x, x = w.alloc (.cells #[.slice aot ts.length ct] 24) := ⟨_, rfl⟩
  obtain ⟨wb, hwb⟩ : ∃ x, x = wa.alloc (.cells #[.slice aou ts.length cu] 24) := ⟨_, rfl⟩
  have ea : wa.heap.size = w.heap.size + 1 := by rw [hwa]; simp
  have xa : Ext w wa := by rw [hwa]; exact Ext.alloc _ _
  have xb : Ext wa wb := by rw [hwb]; exact Ext.alloc _ _
  have HA := Lib.hid (show Blk wb w.heap.size #[.slice aot ts.length ct] 24 from Blk.below (by rw [hwa]; exact Blk.made _ _ _) xb)
  have HB := Lib.hid (show Blk wb (w.heap.size + 1) #[.slice aou ts.length cu] 24 from by rw [hwb, ← ea]; exact Blk.made _ _ _)
  have HX := Lib.hid (show Ext w wb from xa.trans xb)
  have ab := HA.out.cells
  have bb := HB.out.cells
  clear xa xb ea
  subst hwb hwa
  go_enter Try.func22, Try.ntmps22
  go_wp2_with fail
  generalize (w.alloc (.cells #[.slice aot ts.length ct] 24)).alloc (.cells #[.slice aou ts.length cu] 24) = wb at *
  clear ab bb
  obtain ⟨b0, hb0⟩ : ∃ x, x = w.heap.size := ⟨_, rfl⟩
  rw [← hb0] at HA HB ⊢
  clear hb0
  go_loopw [19] (fun iv wr => ∃ i : Nat, i ≤ ts.length ∧ iv = .int .i64 i ∧ Ext wb wr) (fun iv _ => ts.length - (intOf iv).toNat)
  case atStart => exact ⟨0, by omega, rfl, Ext.refl _⟩
  case round =>
    obtain ⟨i, hi, rfl, hxb⟩ := hrel
    by_cases hlt : i < ts.length
    · obtain ⟨bl, offl, rvl, haol, hbb, d0, d1, hrtl⟩ := HRT.out i hlt
      obtain ⟨bm, offm, rvm, haom, hbm, m0, m1, hrtm⟩ := HRU.out i hlt
      have HXB := Lib.hid hxb
      have hk0 : (0 : Int) ≤ (i : Int) := by omega
      have hk1 : (i : Int) < ts.length := by omega
      subst haol haom
      generalize ts[i] = x at *
      obtain ⟨nm, rl⟩ := x
      dsimp only at d0 d1 hrtl m0 m1 hrtm
      obtain ⟨aor, cr, rfl, hcr1, hcr2, hrr⟩ := hrtl.rows
      obtain ⟨aoq, cq, rfl, hcq1, hcq2, hrq⟩ := hrtm.rows
      have HRR := Lib.hid hrr
      have HRQ := Lib.hid hrq
      clear hrr hrq hrtl hrtm hxb
      go_wp2_with fail
      obtain ⟨wd, hwd⟩ : ∃ wd, wd = wr.drew := ⟨_, rfl⟩
      have HXBd := Lib.hid (show Ext wb wd from by rw [hwd]; exact HXB.out.trans (Ext.drew wr))
      have HXd := Lib.hid (show Ext w wd from HX.out.trans HXBd.out)
      have hE := Lib.hid (Ext.refl wd)
      refine region_walkN (Ext wd) (by rw [← hwd]; exact Ext.refl _) (by kernel_rfl) (by kernel_rfl) (fun _ _ d _ _ h => by cases d <;> exact h) ?_
      rw [← hwd]
      have ga : ∀ W, Ext wd W → W.cell? ⟨b0, 0, none⟩ = some (.slice (some ⟨bl, offl, none⟩) ts.length ct) := fun W h => (HA.out.below (HXBd.out.trans h)).cells 0
      have gb : ∀ W, Ext wd W → W.cell? ⟨b0 + 1, 0, none⟩ = some (.slice (some ⟨bm, offm, none⟩) ts.length cu) := fun W h => (HB.out.below (HXBd.out.trans h)).cells 0
      have d0' : ∀ W, Ext wd W → W.cell? ⟨bl, offl + i * 2, none⟩ = some (.string nm) := fun W h => (HXd.out.trans h).cell (a := ⟨bl, offl + i * 2, none⟩) d0
      have d1' : ∀ W, Ext wd W → W.cell? ⟨bl, offl + i * 2 + 1, none⟩ = some (.slice aor rl.length cr) := fun W h => (HXd.out.trans h).cell (a := ⟨bl, offl + i * 2 + 1, none⟩) d1
      have m0' : ∀ W, Ext wd W → W.cell? ⟨bm, offm + i * 2, none⟩ = some (.string nm) := fun W h => (HXd.out.trans h).cell (a := ⟨bm, offm + i * 2, none⟩) m0
      have m1' : ∀ W, Ext wd W → W.cell? ⟨bm, offm + i * 2 + 1, none⟩ = some (.slice aoq rl.length cq) := fun W h => (HXd.out.trans h).cell (a := ⟨bm, offm + i * 2 + 1, none⟩) m1
      clear hwd HXB d0 d1 m0 m1
      ((refine WalkN.take 0 _ ?_ (by simp only [List.getElem?_toArray, List.getElem?_cons_zero]; rfl) (by kernel_rfl) (by kernel_rfl) (by rfl) (fun W hW => ?_) ?_; rotate_left; · (go_simp; try with_reducible rfl)); simp only [Act.put, List.setIfInBounds_toArray, List.set_cons_zero, List.set_cons_succ]); ((refine WalkN.take 1 _ ?_ (by simp only [List.getElem?_toArray, List.getElem?_cons_succ, List.getElem?_cons_zero]; rfl) (by kernel_rfl) (by kernel_rfl) (by rfl) (fun W hW => ?_) ?_; rotate_left; · (go_simp; try with_reducible rfl)); simp only [Act.put, List.setIfInBounds_toArray, List.set_cons_zero, List.set_cons_succ]); ((refine WalkN.take 2 _ ?_ (by simp only [List.getElem?_toArray, List.getElem?_cons_succ, List.getElem?_cons_zero]; rfl) (by kernel_rfl) (by kernel_rfl) (by rfl) (fun W hW => ?_) ?_; rotate_left; · (go_simp; try with_reducible rfl)); simp only [Act.put, List.setIfInBounds_toArray, List.set_cons_zero, List.set_cons_succ]); ((refine WalkN.take 3 _ ?_ (by simp only [List.getElem?_toArray, List.getElem?_cons_succ, List.getElem?_cons_zero]; rfl) (by kernel_rfl) (by kernel_rfl) (by rfl) (fun W hW => ?_) ?_; rotate_left; · (go_simp; try with_reducible rfl)); simp only [Act.put, List.setIfInBounds_toArray, List.set_cons_zero, List.set_cons_succ]); ((refine WalkN.take 4 _ ?_ (by simp only [List.getElem?_toArray, List.getElem?_cons_succ, List.getElem?_cons_zero]; rfl) (by kernel_rfl) (by kernel_rfl) (by rfl) (fun W hW => ?_) ?_; rotate_left; · (go_simp; try with_reducible rfl)); simp only [Act.put, List.setIfInBounds_toArray, List.set_cons_zero, List.set_cons_succ]); ((refine WalkN.take 5 _ ?_ (by simp only [List.getElem?_toArray, List.getElem?_cons_succ, List.getElem?_cons_zero]; rfl) (by kernel_rfl) (by kernel_rfl) (by rfl) (fun W hW => ?_) ?_; rotate_left; · (go_simp; try with_reducible rfl)); simp only [Act.put, List.setIfInBounds_toArray, List.set_cons_zero, List.set_cons_succ]); ((refine WalkN.take 6 _ ?_ (by simp only [List.getElem?_toArray, List.getElem?_cons_succ, List.getElem?_cons_zero]; rfl) (by kernel_rfl) (by kernel_rfl) (by rfl) (fun W hW => ?_) ?_; rotate_left; · (go_simp; try with_reducible rfl)); simp only [Act.put, List.setIfInBounds_toArray, List.set_cons_zero, List.set_cons_succ]); ((refine WalkN.take 7 _ ?_ (by simp only [List.getElem?_toArray, List.getElem?_cons_succ, List.getElem?_cons_zero]; rfl) (by kernel_rfl) (by kernel_rfl) (by rfl) (fun W hW => ?_) ?_; rotate_left; · (go_simp; try with_reducible rfl)); simp only [Act.put, List.setIfInBounds_toArray, List.set_cons_zero, List.set_cons_succ]); ((refine WalkN.take 8 _ ?_ (by simp only [List.getElem?_toArray, List.getElem?_cons_succ, List.getElem?_cons_zero]; rfl) (by kernel_rfl) (by kernel_rfl) (by rfl) (fun W hW => ?_) ?_; rotate_left; · (go_simp; try with_reducible rfl)); simp only [Act.put, List.setIfInBounds_toArray, List.set_cons_zero, List.set_cons_succ]); ((refine WalkN.take 9 _ ?_ (by simp only [List.getElem?_toArray, List.getElem?_cons_succ, List.getElem?_cons_zero]; rfl) (by kernel_rfl) (by kernel_rfl) (by rfl) (fun W hW => ?_) ?_; rotate_left; · (go_simp; try with_reducible rfl)); simp only [Act.put, List.setIfInBounds_toArray, List.set_cons_zero, List.set_cons_succ])
      clear ga gb d0' d1' m0' m1'
      refine WalkN.two 10 11 (by kernel_rfl) ?_ ?_
      · refine ⟨_, (by simp only [List.getElem?_toArray, List.getElem?_cons_succ, List.getElem?_cons_zero]; rfl), by rfl, fun K hK => ?_⟩
        go_simp
        obtain ⟨b6, hb6⟩ : ∃ x, x = wd.heap.size := ⟨_, rfl⟩
        rw [← hb6]
        have hA0 := Ext.alloc wd (.cells #[.string ⟨#[]⟩, .slice none 0 0] 49)
        have hO0 : Blk (wd.alloc (.cells #[.string ⟨#[]⟩, .slice none 0 0] 49)) b6 #[.string ⟨#[]⟩, .slice none 0 0] 49 := by rw [hb6]; exact Blk.made _ _ _
        have hX0 := Ext.trans hE.out hA0
        have H6B := Lib.hid (show wd.heap.size ≤ b6 from by have := hE.out.size; omega)
        refine hK.out _ _ hX0 ?_
        clear hK hb6 hA0
        generalize wd.alloc (.cells #[.string ⟨#[]⟩, .slice none 0 0] 49) = u1 at *
        have hE := Lib.hid hX0
        have H6 := Lib.hid hO0
        clear hO0 hX0
        refine WalkN.one 11 (by kernel_rfl) ?_
        refine ⟨_, (by simp only [List.getElem?_toArray, List.getElem?_cons_succ, List.getElem?_cons_zero]; rfl), by rfl, fun K hK => ?_⟩
        go_simp
        obtain ⟨b7, hb7⟩ : ∃ x, x = u1.heap.size := ⟨_, rfl⟩
        rw [← hb7]
        have hA1 := Ext.alloc u1 (.cells #[.string ⟨#[]⟩, .slice none 0 0] 49)
        have hO1 : Blk (u1.alloc (.cells #[.string ⟨#[]⟩, .slice none 0 0] 49)) b7 #[.string ⟨#[]⟩, .slice none 0 0] 49 := by rw [hb7]; exact Blk.made _ _ _
        have hX1 := Ext.trans hE.out hA1
        have H7B := Lib.hid (show wd.heap.size ≤ b7 from by have := hE.out.size; omega)
        have hP1 := H6.out.below hA1
        have H67 := Lib.hid (show b6 ≠ b7 from by have := H6.out.lt; omega)
        refine hK.out _ _ hX1 ?_
        clear hK hb7 hA1
        generalize u1.alloc (.cells #[.string ⟨#[]⟩, .slice none 0 0] 49) = u2 at *
        have hE := Lib.hid hX1
        have H7 := Lib.hid hO1
        clear hO1 hX1
        have H6 := Lib.hid hP1
        clear hP1
        refine WalkN.one 12 (by kernel_rfl) ?_
        refine ⟨_, (by simp only [List.getElem?_toArray, List.getElem?_cons_succ, List.getElem?_cons_zero]; rfl), by rfl, fun K hK => ?_⟩
        have h6 := H6.out.cells
        have f6 := H6.out.free
        go_simp
        have hS2 := (H6.out.set_to (cs' := #[.string nm, .slice none 0 0]) 0 (.string nm) rfl).set_to (cs' := #[.string nm, .slice aor rl.length cr]) 1 (.slice aor rl.length cr) rfl
        have hX2 : Ext wd ((u2.setCell ⟨b6, 0, none⟩ (.string nm)).setCell ⟨b6, 1, none⟩ (.slice aor rl.length cr)) := Below.setCell (Below.setCell hE.out H6B.out _) H6B.out _
        have hP2 := (H7.out.other (a := ⟨b6, 0, none⟩) (fun e => H67.out e.symm) (.string nm)).other (a := ⟨b6, 1, none⟩) (fun e => H67.out e.symm) (.slice aor rl.length cr)
        refine hK.out _ _ hX2 ?_
        clear hK h6 f6
        generalize (u2.setCell ⟨b6, 0, none⟩ (.string nm)).setCell ⟨b6, 1, none⟩ (.slice aor rl.length cr) = u3 at *
        have hE := Lib.hid hX2
        have H6 := Lib.hid hS2
        have H7 := Lib.hid hP2
        clear hX2 hS2 hP2
        refine WalkN.one 13 (by kernel_rfl) ?_
        refine ⟨_, (by simp only [List.getElem?_toArray, List.getElem?_cons_succ, List.getElem?_cons_zero]; rfl), by rfl, fun K hK => ?_⟩
        have h7 := H7.out.cells
        have f7 := H7.out.free
        go_simp
        have hS3 := (H7.out.set_to (cs' := #[.string nm, .slice none 0 0]) 0 (.string nm) rfl).set_to (cs' := #[.string nm, .slice aoq rl.length cq]) 1 (.slice aoq rl.length cq) rfl
        have hX3 : Ext wd ((u3.setCell ⟨b7, 0, none⟩ (.string nm)).setCell ⟨b7, 1, none⟩ (.slice aoq rl.length cq)) := Below.setCell (Below.setCell hE.out H7B.out _) H7B.out _
        have hP3 := (H6.out.other (a := ⟨b7, 0, none⟩) H67.out (.string nm)).other (a := ⟨b7, 1, none⟩) H67.out (.slice aoq rl.length cq)
        refine hK.out _ _ hX3 ?_
        clear hK h7 f7
        generalize (u3.setCell ⟨b7, 0, none⟩ (.string nm)).setCell ⟨b7, 1, none⟩ (.slice aoq rl.length cq) = u4 at *
        have hE := Lib.hid hX3
        have H7 := Lib.hid hS3
        have H6 := Lib.hid hP3
        clear hX3 hS3 hP3
        refine WalkN.done (by kernel_rfl) ?_
        have HXy := Lib.hid (show Ext w u4 from HXd.out.trans hE.out)
        have HXb := Lib.hid (show Ext wb u4 from HXBd.out.trans hE.out)
        clear hE H6B H7B HXd HXBd
        generalize u4 = wy at *
        have y6 := H6.out.cells
        have y7 := H7.out.cells
        go_wp2_with fail
        clear y6 y7
        go_loopw [49] (fun kv wq => ∃ k : Nat, k ≤ rl.length ∧ kv = .int .i64 k ∧ Ext wy wq) (fun kv _ => rl.length - (intOf kv).toNat)
        case atStart => exact ⟨0, by omega, rfl, Ext.refl _⟩
        case round =>
          obtain ⟨k, hk, rfl, hxq⟩ := hrel
          by_cases hlk : k < rl.length
          · obtain ⟨b2, off2, pv, haor, hb2, e0, e1, e2, e3, e4, hat⟩ := HRR.out k hlk
            obtain ⟨b3, off3, qv, haoq, hb3, q0, q1, q2, q3, q4, hat2⟩ := HRQ.out k hlk
            have HAT := Lib.hid hat
            have HAT2 := Lib.hid hat2
            have HXQ := Lib.hid (show Ext w wr from HXy.out.trans hxq)
            have HXQY := Lib.hid hxq
            have HKL := Lib.hid hlk
            have hk0 : (0 : Int) ≤ (k : Int) := by omega
            have hk1 : (k : Int) < rl.length := by omega
            subst haor haoq
            generalize rl[k] = y at *
            obtain ⟨yn, yr⟩ := y
            dsimp only at e0 e1 e2 e3 e4 q0 q1 q2 q3 q4
            obtain ⟨aop, cp, rfl, -, -, -⟩ := hat.rows
            obtain ⟨aop2, cp2, rfl, -, -, -⟩ := hat2.rows
            clear hat hat2
            go_wp2_with fail
            obtain ⟨wd, hwd⟩ : ∃ wd, wd = wr.drew := ⟨_, rfl⟩
            have HXYd := Lib.hid (show Ext wy wd from by rw [hwd]; exact HXQY.out.trans (Ext.drew wr))
            have HXd := Lib.hid (show Ext w wd from HXy.out.trans HXYd.out)
            refine region_walkN (Ext wd) (by rw [← hwd]; exact Ext.refl _) (by kernel_rfl) (by kernel_rfl) (fun _ _ d _ _ h => by cases d <;> exact h) ?_
            rw [← hwd]
            have g6 : ∀ W, Ext wd W → ∀ i, W.cell? ⟨b6, i, none⟩ = (#[.string nm, .slice (some ⟨b2, off2, none⟩) rl.length cr] : Array Value)[i]? := fun W h => (H6.out.below (HXYd.out.trans h)).cells
            have g7 : ∀ W, Ext wd W → ∀ i, W.cell? ⟨b7, i, none⟩ = (#[.string nm, .slice (some ⟨b3, off3, none⟩) rl.length cq] : Array Value)[i]? := fun W h => (H7.out.below (HXYd.out.trans h)).cells
            have e0' : ∀ W, Ext wd W → W.cell? ⟨b2, off2 + k * 5, none⟩ = some (.string yn) := fun W h => (HXd.out.trans h).cell (a := ⟨b2, off2 + k * 5, none⟩) e0
            have e1' : ∀ W, Ext wd W → W.cell? ⟨b2, off2 + k * 5 + 1, none⟩ = _ := fun W h => (HXd.out.trans h).cell (a := ⟨b2, off2 + k * 5 + 1, none⟩) e1
            have e2' : ∀ W, Ext wd W → W.cell? ⟨b2, off2 + k * 5 + 2, none⟩ = _ := fun W h => (HXd.out.trans h).cell (a := ⟨b2, off2 + k * 5 + 2, none⟩) e2
            have e3' : ∀ W, Ext wd W → W.cell? ⟨b2, off2 + k * 5 + 3, none⟩ = _ := fun W h => (HXd.out.trans h).cell (a := ⟨b2, off2 + k * 5 + 3, none⟩) e3
            have e4' : ∀ W, Ext wd W → W.cell? ⟨b2, off2 + k * 5 + 4, none⟩ = _ := fun W h => (HXd.out.trans h).cell (a := ⟨b2, off2 + k * 5 + 4, none⟩) e4
            have q0' : ∀ W, Ext wd W → W.cell? ⟨b3, off3 + k * 5, none⟩ = some (.string yn) := fun W h => (HXd.out.trans h).cell (a := ⟨b3, off3 + k * 5, none⟩) q0
            have q1' : ∀ W, Ext wd W → W.cell? ⟨b3, off3 + k * 5 + 1, none⟩ = _ := fun W h => (HXd.out.trans h).cell (a := ⟨b3, off3 + k * 5 + 1, none⟩) q1
            have q2' : ∀ W, Ext wd W → W.cell? ⟨b3, off3 + k * 5 + 2, none⟩ = _ := fun W h => (HXd.out.trans h).cell (a := ⟨b3, off3 + k * 5 + 2, none⟩) q2
            have q3' : ∀ W, Ext wd W → W.cell? ⟨b3, off3 + k * 5 + 3, none⟩ = _ := fun W h => (HXd.out.trans h).cell (a := ⟨b3, off3 + k * 5 + 3, none⟩) q3
            have q4' : ∀ W, Ext wd W → W.cell? ⟨b3, off3 + k * 5 + 4, none⟩ = _ := fun W h => (HXd.out.trans h).cell (a := ⟨b3, off3 + k * 5 + 4, none⟩) q4
            clear hwd hxq e0 e1 e2 e3 e4 q0 q1 q2 q3 q4 hlk
            ((refine WalkN.take 0 _ ?_ (by simp only [List.getElem?_toArray, List.getElem?_cons_zero]; rfl) (by kernel_rfl) (by kernel_rfl) (by rfl) (fun W hW => ?_) ?_; rotate_left; · (go_simp; try with_reducible rfl)); simp only [Act.put, List.setIfInBounds_toArray, List.set_cons_zero, List.set_cons_succ]); ((refine WalkN.take 1 _ ?_ (by simp only [List.getElem?_toArray, List.getElem?_cons_succ, List.getElem?_cons_zero]; rfl) (by kernel_rfl) (by kernel_rfl) (by rfl) (fun W hW => ?_) ?_; rotate_left; · (go_simp; try with_reducible rfl)); simp only [Act.put, List.setIfInBounds_toArray, List.set_cons_zero, List.set_cons_succ]); ((refine WalkN.take 2 _ ?_ (by simp only [List.getElem?_toArray, List.getElem?_cons_succ, List.getElem?_cons_zero]; rfl) (by kernel_rfl) (by kernel_rfl) (by rfl) (fun W hW => ?_) ?_; rotate_left; · (go_simp; try with_reducible rfl)); simp only [Act.put, List.setIfInBounds_toArray, List.set_cons_zero, List.set_cons_succ]); ((refine WalkN.take 3 _ ?_ (by simp only [List.getElem?_toArray, List.getElem?_cons_succ, List.getElem?_cons_zero]; rfl) (by kernel_rfl) (by kernel_rfl) (by rfl) (fun W hW => ?_) ?_; rotate_left; · (go_simp; try with_reducible rfl)); simp only [Act.put, List.setIfInBounds_toArray, List.set_cons_zero, List.set_cons_succ]); ((refine WalkN.take 4 _ ?_ (by simp only [List.getElem?_toArray, List.getElem?_cons_succ, List.getElem?_cons_zero]; rfl) (by kernel_rfl) (by kernel_rfl) (by rfl) (fun W hW => ?_) ?_; rotate_left; · (go_simp; try with_reducible rfl)); simp only [Act.put, List.setIfInBounds_toArray, List.set_cons_zero, List.set_cons_succ]); ((refine WalkN.take 5 _ ?_ (by simp only [List.getElem?_toArray, List.getElem?_cons_succ, List.getElem?_cons_zero]; rfl) (by kernel_rfl) (by kernel_rfl) (by rfl) (fun W hW => ?_) ?_; rotate_left; · (go_simp; try with_reducible rfl)); simp only [Act.put, List.setIfInBounds_toArray, List.set_cons_zero, List.set_cons_succ]); ((refine WalkN.take 6 _ ?_ (by simp only [List.getElem?_toArray, List.getElem?_cons_succ, List.getElem?_cons_zero]; rfl) (by kernel_rfl) (by kernel_rfl) (by rfl) (fun W hW => ?_) ?_; rotate_left; · (go_simp; try with_reducible rfl)); simp only [Act.put, List.setIfInBounds_toArray, List.set_cons_zero, List.set_cons_succ]); ((refine WalkN.take 7 _ ?_ (by simp only [List.getElem?_toArray, List.getElem?_cons_succ, List.getElem?_cons_zero]; rfl) (by kernel_rfl) (by kernel_rfl) (by rfl) (fun W hW => ?_) ?_; rotate_left; · (go_simp; try with_reducible rfl)); simp only [Act.put, List.setIfInBounds_toArray, List.set_cons_zero, List.set_cons_succ]); ((refine WalkN.take 8 _ ?_ (by simp only [List.getElem?_toArray, List.getElem?_cons_succ, List.getElem?_cons_zero]; rfl) (by kernel_rfl) (by kernel_rfl) (by rfl) (fun W hW => ?_) ?_; rotate_left; · (go_simp; try with_reducible rfl)); simp only [Act.put, List.setIfInBounds_toArray, List.set_cons_zero, List.set_cons_succ]); ((refine WalkN.take 9 _ ?_ (by simp only [List.getElem?_toArray, List.getElem?_cons_succ, List.getElem?_cons_zero]; rfl) (by kernel_rfl) (by kernel_rfl) (by rfl) (fun W hW => ?_) ?_; rotate_left; · (go_simp; try with_reducible rfl)); simp only [Act.put, List.setIfInBounds_toArray, List.set_cons_zero, List.set_cons_succ]); ((refine WalkN.take 10 _ ?_ (by simp only [List.getElem?_toArray, List.getElem?_cons_succ, List.getElem?_cons_zero]; rfl) (by kernel_rfl) (by kernel_rfl) (by rfl) (fun W hW => ?_) ?_; rotate_left; · (go_simp; try with_reducible rfl)); simp only [Act.put, List.setIfInBounds_toArray, List.set_cons_zero, List.set_cons_succ]); ((refine WalkN.take 11 _ ?_ (by simp only [List.getElem?_toArray, List.getElem?_cons_succ, List.getElem?_cons_zero]; rfl) (by kernel_rfl) (by kernel_rfl) (by rfl) (fun W hW => ?_) ?_; rotate_left; · (go_simp; try with_reducible rfl)); simp only [Act.put, List.setIfInBounds_toArray, List.set_cons_zero, List.set_cons_succ]); ((refine WalkN.take 12 _ ?_ (by simp only [List.getElem?_toArray, List.getElem?_cons_succ, List.getElem?_cons_zero]; rfl) (by kernel_rfl) (by kernel_rfl) (by rfl) (fun W hW => ?_) ?_; rotate_left; · (go_simp; try with_reducible rfl)); simp only [Act.put, List.setIfInBounds_toArray, List.set_cons_zero, List.set_cons_succ]); ((refine WalkN.take 13 _ ?_ (by simp only [List.getElem?_toArray, List.getElem?_cons_succ, List.getElem?_cons_zero]; rfl) (by kernel_rfl) (by kernel_rfl) (by rfl) (fun W hW => ?_) ?_; rotate_left; · (go_simp; try with_reducible rfl)); simp only [Act.put, List.setIfInBounds_toArray, List.set_cons_zero, List.set_cons_succ]); ((refine WalkN.take 14 _ ?_ (by simp only [List.getElem?_toArray, List.getElem?_cons_succ, List.getElem?_cons_zero]; rfl) (by kernel_rfl) (by kernel_rfl) (by rfl) (fun W hW => ?_) ?_; rotate_left; · (go_simp; try with_reducible rfl)); simp only [Act.put, List.setIfInBounds_toArray, List.set_cons_zero, List.set_cons_succ]); ((refine WalkN.take 15 _ ?_ (by simp only [List.getElem?_toArray, List.getElem?_cons_succ, List.getElem?_cons_zero]; rfl) (by kernel_rfl) (by kernel_rfl) (by rfl) (fun W hW => ?_) ?_; rotate_left; · (go_simp; try with_reducible rfl)); simp only [Act.put, List.setIfInBounds_toArray, List.set_cons_zero, List.set_cons_succ]); ((refine WalkN.take 16 _ ?_ (by simp only [List.getElem?_toArray, List.getElem?_cons_succ, List.getElem?_cons_zero]; rfl) (by kernel_rfl) (by kernel_rfl) (by rfl) (fun W hW => ?_) ?_; rotate_left; · (go_simp; try with_reducible rfl)); simp only [Act.put, List.setIfInBounds_toArray, List.set_cons_zero, List.set_cons_succ]); ((refine WalkN.take 17 _ ?_ (by simp only [List.getElem?_toArray, List.getElem?_cons_succ, List.getElem?_cons_zero]; rfl) (by kernel_rfl) (by kernel_rfl) (by rfl) (fun W hW => ?_) ?_; rotate_left; · (go_simp; try with_reducible rfl)); simp only [Act.put, List.setIfInBounds_toArray, List.set_cons_zero, List.set_cons_succ]); ((refine WalkN.take 18 _ ?_ (by simp only [List.getElem?_toArray, List.getElem?_cons_succ, List.getElem?_cons_zero]; rfl) (by kernel_rfl) (by kernel_rfl) (by rfl) (fun W hW => ?_) ?_; rotate_left; · (go_simp; try with_reducible rfl)); simp only [Act.put, List.setIfInBounds_toArray, List.set_cons_zero, List.set_cons_succ]); ((refine WalkN.take 19 _ ?_ (by simp only [List.getElem?_toArray, List.getElem?_cons_succ, List.getElem?_cons_zero]; rfl) (by kernel_rfl) (by kernel_rfl) (by rfl) (fun W hW => ?_) ?_; rotate_left; · (go_simp; try with_reducible rfl)); simp only [Act.put, List.setIfInBounds_toArray, List.set_cons_zero, List.set_cons_succ]); ((refine WalkN.take 20 _ ?_ (by simp only [List.getElem?_toArray, List.getElem?_cons_succ, List.getElem?_cons_zero]; rfl) (by kernel_rfl) (by kernel_rfl) (by rfl) (fun W hW => ?_) ?_; rotate_left; · (go_simp; try with_reducible rfl)); simp only [Act.put, List.setIfInBounds_toArray, List.set_cons_zero, List.set_cons_succ]); ((refine WalkN.take 21 _ ?_ (by simp only [List.getElem?_toArray, List.getElem?_cons_succ, List.getElem?_cons_zero]; rfl) (by kernel_rfl) (by kernel_rfl) (by rfl) (fun W hW => ?_) ?_; rotate_left; · (go_simp; try with_reducible rfl)); simp only [Act.put, List.setIfInBounds_toArray, List.set_cons_zero, List.set_cons_succ]); ((refine WalkN.take 22 _ ?_ (by simp only [List.getElem?_toArray, List.getElem?_cons_succ, List.getElem?_cons_zero]; rfl) (by kernel_rfl) (by kernel_rfl) (by rfl) (fun W hW => ?_) ?_; rotate_left; · (go_simp; try with_reducible rfl)); simp only [Act.put, List.setIfInBounds_toArray, List.set_cons_zero, List.set_cons_succ]); ((refine WalkN.take 23 _ ?_ (by simp only [List.getElem?_toArray, List.getElem?_cons_succ, List.getElem?_cons_zero]; rfl) (by kernel_rfl) (by kernel_rfl) (by rfl) (fun W hW => ?_) ?_; rotate_left; · (go_simp; try with_reducible rfl)); simp only [Act.put, List.setIfInBounds_toArray, List.set_cons_zero, List.set_cons_succ]); ((refine WalkN.take 24 _ ?_ (by simp only [List.getElem?_toArray, List.getElem?_cons_succ, List.getElem?_cons_zero]; rfl) (by kernel_rfl) (by kernel_rfl) (by rfl) (fun W hW => ?_) ?_; rotate_left; · (go_simp; try with_reducible rfl)); simp only [Act.put, List.setIfInBounds_toArray, List.set_cons_zero, List.set_cons_succ]); ((refine WalkN.take 25 _ ?_ (by simp only [List.getElem?_toArray, List.getElem?_cons_succ, List.getElem?_cons_zero]; rfl) (by kernel_rfl) (by kernel_rfl) (by rfl) (fun W hW => ?_) ?_; rotate_left; · (go_simp; try with_reducible rfl)); simp only [Act.put, List.setIfInBounds_toArray, List.set_cons_zero, List.set_cons_succ])
            clear g6 g7 e0' e1' e2' e3' e4' q0' q1' q2' q3' q4'
            refine WalkN.one 26 (by kernel_rfl) ?_
            refine ⟨_, (by simp only [List.getElem?_toArray, List.getElem?_cons_succ, List.getElem?_cons_zero]; rfl), by rfl, fun K hK => ?_⟩
            go_simp
            have HSR := sameRule_any yr yr _ _ wd true (HAT.out.up HXd.out) (HAT2.out.up HXd.out) ⟨fun _ => rfl, fun _ => rfl⟩
            unfold rV at HSR
            refine HSR.mono ?_
            rintro e w9 ⟨rfl, hb9⟩
            have hx9 : Ext wd w9 := hb9
            refine hK.out _ _ hx9 ?_
            clear hK hb9
            ((refine WalkN.take 27 _ ?_ (by simp only [List.getElem?_toArray, List.getElem?_cons_succ, List.getElem?_cons_zero]; rfl) (by kernel_rfl) (by kernel_rfl) (by rfl) (fun W hW => ?_) ?_; rotate_left; · (go_simp; try with_reducible rfl)); simp only [Act.put, List.setIfInBounds_toArray, List.set_cons_zero, List.set_cons_succ]); ((refine WalkN.take 28 _ ?_ (by simp only [List.getElem?_toArray, List.getElem?_cons_succ, List.getElem?_cons_zero]; rfl) (by kernel_rfl) (by kernel_rfl) (by rfl) (fun W hW => ?_) ?_; rotate_left; · (go_simp; try with_reducible rfl)); simp only [Act.put, List.setIfInBounds_toArray, List.set_cons_zero, List.set_cons_succ])
            refine WalkN.done (by kernel_rfl) ?_
            have HX9 := Lib.hid (show Ext wy w9 from HXYd.out.trans hx9)
            clear hx9
            go_wp2_with fail
            go_roundw
            case rel => exact ⟨k + 1, by have := HKL.out; omega, by go_num, HX9.out⟩
            case measure => have := HKL.out; simp [intOf]; omega
          · have HXB := Lib.hid (show Ext wb wr from HXb.out.trans hxq)
            obtain rfl : k = rl.length := by omega
            clear hlk hxq
            go_wp2_with fail
            go_roundw
            case rel => exact ⟨i + 1, by omega, by go_num, HXB.out⟩
            case measure => simp [intOf]; omega
      · refine ⟨_, (by simp only [List.getElem?_toArray, List.getElem?_cons_succ, List.getElem?_cons_zero]; rfl), by rfl, fun K hK => ?_⟩
        go_simp
        obtain ⟨b7, hb7⟩ : ∃ x, x = wd.heap.size := ⟨_, rfl⟩
        rw [← hb7]
        have hA0 := Ext.alloc wd (.cells #[.string ⟨#[]⟩, .slice none 0 0] 49)
        have hO0 : Blk (wd.alloc (.cells #[.string ⟨#[]⟩, .slice none 0 0] 49)) b7 #[.string ⟨#[]⟩, .slice none 0 0] 49 := by rw [hb7]; exact Blk.made _ _ _
        have hX0 := Ext.trans hE.out hA0
        have H7B := Lib.hid (show wd.heap.size ≤ b7 from by have := hE.out.size; omega)
        refine hK.out _ _ hX0 ?_
        clear hK hb7 hA0
        generalize wd.alloc (.cells #[.string ⟨#[]⟩, .slice none 0 0] 49) = u1 at *
        have hE := Lib.hid hX0
        have H7 := Lib.hid hO0
        clear hO0 hX0
        refine WalkN.one 10 (by kernel_rfl) ?_
        refine ⟨_, (by simp only [List.getElem?_toArray, List.getElem?_cons_succ, List.getElem?_cons_zero]; rfl), by rfl, fun K hK => ?_⟩
        go_simp
        obtain ⟨b6, hb6⟩ : ∃ x, x = u1.heap.size := ⟨_, rfl⟩
        rw [← hb6]
        have hA1 := Ext.alloc u1 (.cells #[.string ⟨#[]⟩, .slice none 0 0] 49)
        have hO1 : Blk (u1.alloc (.cells #[.string ⟨#[]⟩, .slice none 0 0] 49)) b6 #[.string ⟨#[]⟩, .slice none 0 0] 49 := by rw [hb6]; exact Blk.made _ _ _
        have hX1 := Ext.trans hE.out hA1
        have H6B := Lib.hid (show wd.heap.size ≤ b6 from by have := hE.out.size; omega)
        have hP1 := H7.out.below hA1
        have H67 := Lib.hid (show b6 ≠ b7 from by have := H7.out.lt; omega)
        refine hK.out _ _ hX1 ?_
        clear hK hb6 hA1
        generalize u1.alloc (.cells #[.string ⟨#[]⟩, .slice none 0 0] 49) = u2 at *
        have hE := Lib.hid hX1
        have H6 := Lib.hid hO1
        clear hO1 hX1
        have H7 := Lib.hid hP1
        clear hP1
        refine WalkN.one 12 (by kernel_rfl) ?_
        refine ⟨_, (by simp only [List.getElem?_toArray, List.getElem?_cons_succ, List.getElem?_cons_zero]; rfl), by rfl, fun K hK => ?_⟩
        have h6 := H6.out.cells
        have f6 := H6.out.free
        go_simp
        have hS2 := (H6.out.set_to (cs' := #[.string nm, .slice none 0 0]) 0 (.string nm) rfl).set_to (cs' := #[.string nm, .slice aor rl.length cr]) 1 (.slice aor rl.length cr) rfl
        have hX2 : Ext wd ((u2.setCell ⟨b6, 0, none⟩ (.string nm)).setCell ⟨b6, 1, none⟩ (.slice aor rl.length cr)) := Below.setCell (Below.setCell hE.out H6B.out _) H6B.out _
        have hP2 := (H7.out.other (a := ⟨b6, 0, none⟩) (fun e => H67.out e.symm) (.string nm)).other (a := ⟨b6, 1, none⟩) (fun e => H67.out e.symm) (.slice aor rl.length cr)
        refine hK.out _ _ hX2 ?_
        clear hK h6 f6
        generalize (u2.setCell ⟨b6, 0, none⟩ (.string nm)).setCell ⟨b6, 1, none⟩ (.slice aor rl.length cr) = u3 at *
        have hE := Lib.hid hX2
        have H6 := Lib.hid hS2
        have H7 := Lib.hid hP2
        clear hX2 hS2 hP2
        refine WalkN.one 13 (by kernel_rfl) ?_
        refine ⟨_, (by simp only [List.getElem?_toArray, List.getElem?_cons_succ, List.getElem?_cons_zero]; rfl), by rfl, fun K hK => ?_⟩
        have h7 := H7.out.cells
        have f7 := H7.out.free
        go_simp
        have hS3 := (H7.out.set_to (cs' := #[.string nm, .slice none 0 0]) 0 (.string nm) rfl).set_to (cs' := #[.string nm, .slice aoq rl.length cq]) 1 (.slice aoq rl.length cq) rfl
        have hX3 : Ext wd ((u3.setCell ⟨b7, 0, none⟩ (.string nm)).setCell ⟨b7, 1, none⟩ (.slice aoq rl.length cq)) := Below.setCell (Below.setCell hE.out H7B.out _) H7B.out _
        have hP3 := (H6.out.other (a := ⟨b7, 0, none⟩) H67.out (.string nm)).other (a := ⟨b7, 1, none⟩) H67.out (.slice aoq rl.length cq)
        refine hK.out _ _ hX3 ?_
        clear hK h7 f7
        generalize (u3.setCell ⟨b7, 0, none⟩ (.string nm)).setCell ⟨b7, 1, none⟩ (.slice aoq rl.length cq) = u4 at *
        have hE := Lib.hid hX3
        have H7 := Lib.hid hS3
        have H6 := Lib.hid hP3
        clear hX3 hS3 hP3
        refine WalkN.done (by kernel_rfl) ?_
        have HXy := Lib.hid (show Ext w u4 from HXd.out.trans hE.out)
        have HXb := Lib.hid (show Ext wb u4 from HXBd.out.trans hE.out)
        clear hE H6B H7B HXd HXBd
        generalize u4 = wy at *
        have y6 := H6.out.cells
        have y7 := H7.out.cells
        go_wp2_with fail
        clear y6 y7
        go_loopw [49] (fun kv wq => ∃ k : Nat, k ≤ rl.length ∧ kv = .int .i64 k ∧ Ext wy wq) (fun kv _ => rl.length - (intOf kv).toNat)
        case atStart => exact ⟨0, by omega, rfl, Ext.refl _⟩
        case round =>
          obtain ⟨k, hk, rfl, hxq⟩ := hrel
          by_cases hlk : k < rl.length
          · obtain ⟨b2, off2, pv, haor, hb2, e0, e1, e2, e3, e4, hat⟩ := HRR.out k hlk
            obtain ⟨b3, off3, qv, haoq, hb3, q0, q1, q2, q3, q4, hat2⟩ := HRQ.out k hlk
            have HAT := Lib.hid hat
            have HAT2 := Lib.hid hat2
            have HXQ := Lib.hid (show Ext w wr from HXy.out.trans hxq)
            have HXQY := Lib.hid hxq
            have HKL := Lib.hid hlk
            have hk0 : (0 : Int) ≤ (k : Int) := by omega
            have hk1 : (k : Int) < rl.length := by omega
            subst haor haoq
            generalize rl[k] = y at *
            obtain ⟨yn, yr⟩ := y
            dsimp only at e0 e1 e2 e3 e4 q0 q1 q2 q3 q4
            obtain ⟨aop, cp, rfl, -, -, -⟩ := hat.rows
            obtain ⟨aop2, cp2, rfl, -, -, -⟩ := hat2.rows
            clear hat hat2
            go_wp2_with fail
            obtain ⟨wd, hwd⟩ : ∃ wd, wd = wr.drew := ⟨_, rfl⟩
            have HXYd := Lib.hid (show Ext wy wd from by rw [hwd]; exact HXQY.out.trans (Ext.drew wr))
            have HXd := Lib.hid (show Ext w wd from HXy.out.trans HXYd.out)
            refine region_walkN (Ext wd) (by rw [← hwd]; exact Ext.refl _) (by kernel_rfl) (by kernel_rfl) (fun _ _ d _ _ h => by cases d <;> exact h) ?_
            rw [← hwd]
            have g6 : ∀ W, Ext wd W → ∀ i, W.cell? ⟨b6, i, none⟩ = (#[.string nm, .slice (some ⟨b2, off2, none⟩) rl.length cr] : Array Value)[i]? := fun W h => (H6.out.below (HXYd.out.trans h)).cells
            have g7 : ∀ W, Ext wd W → ∀ i, W.cell? ⟨b7, i, none⟩ = (#[.string nm, .slice (some ⟨b3, off3, none⟩) rl.length cq] : Array Value)[i]? := fun W h => (H7.out.below (HXYd.out.trans h)).cells
            have e0' : ∀ W, Ext wd W → W.cell? ⟨b2, off2 + k * 5, none⟩ = some (.string yn) := fun W h => (HXd.out.trans h).cell (a := ⟨b2, off2 + k * 5, none⟩) e0
            have e1' : ∀ W, Ext wd W → W.cell? ⟨b2, off2 + k * 5 + 1, none⟩ = _ := fun W h => (HXd.out.trans h).cell (a := ⟨b2, off2 + k * 5 + 1, none⟩) e1
            have e2' : ∀ W, Ext wd W → W.cell? ⟨b2, off2 + k * 5 + 2, none⟩ = _ := fun W h => (HXd.out.trans h).cell (a := ⟨b2, off2 + k * 5 + 2, none⟩) e2
            have e3' : ∀ W, Ext wd W → W.cell? ⟨b2, off2 + k * 5 + 3, none⟩ = _ := fun W h => (HXd.out.trans h).cell (a := ⟨b2, off2 + k * 5 + 3, none⟩) e3
            have e4' : ∀ W, Ext wd W → W.cell? ⟨b2, off2 + k * 5 + 4, none⟩ = _ := fun W h => (HXd.out.trans h).cell (a := ⟨b2, off2 + k * 5 + 4, none⟩) e4
            have q0' : ∀ W, Ext wd W → W.cell? ⟨b3, off3 + k * 5, none⟩ = some (.string yn) := fun W h => (HXd.out.trans h).cell (a := ⟨b3, off3 + k * 5, none⟩) q0
            have q1' : ∀ W, Ext wd W → W.cell? ⟨b3, off3 + k * 5 + 1, none⟩ = _ := fun W h => (HXd.out.trans h).cell (a := ⟨b3, off3 + k * 5 + 1, none⟩) q1
            have q2' : ∀ W, Ext wd W → W.cell? ⟨b3, off3 + k * 5 + 2, none⟩ = _ := fun W h => (HXd.out.trans h).cell (a := ⟨b3, off3 + k * 5 + 2, none⟩) q2
            have q3' : ∀ W, Ext wd W → W.cell? ⟨b3, off3 + k * 5 + 3, none⟩ = _ := fun W h => (HXd.out.trans h).cell (a := ⟨b3, off3 + k * 5 + 3, none⟩) q3
            have q4' : ∀ W, Ext wd W → W.cell? ⟨b3, off3 + k * 5 + 4, none⟩ = _ := fun W h => (HXd.out.trans h).cell (a := ⟨b3, off3 + k * 5 + 4, none⟩) q4
            clear hwd hxq e0 e1 e2 e3 e4 q0 q1 q2 q3 q4 hlk
            ((refine WalkN.take 0 _ ?_ (by simp only [List.getElem?_toArray, List.getElem?_cons_zero]; rfl) (by kernel_rfl) (by kernel_rfl) (by rfl) (fun W hW => ?_) ?_; rotate_left; · (go_simp; try with_reducible rfl)); simp only [Act.put, List.setIfInBounds_toArray, List.set_cons_zero, List.set_cons_succ]); ((refine WalkN.take 1 _ ?_ (by simp only [List.getElem?_toArray, List.getElem?_cons_succ, List.getElem?_cons_zero]; rfl) (by kernel_rfl) (by kernel_rfl) (by rfl) (fun W hW => ?_) ?_; rotate_left; · (go_simp; try with_reducible rfl)); simp only [Act.put, List.setIfInBounds_toArray, List.set_cons_zero, List.set_cons_succ]); ((refine WalkN.take 2 _ ?_ (by simp only [List.getElem?_toArray, List.getElem?_cons_succ, List.getElem?_cons_zero]; rfl) (by kernel_rfl) (by kernel_rfl) (by rfl) (fun W hW => ?_) ?_; rotate_left; · (go_simp; try with_reducible rfl)); simp only [Act.put, List.setIfInBounds_toArray, List.set_cons_zero, List.set_cons_succ]); ((refine WalkN.take 3 _ ?_ (by simp only [List.getElem?_toArray, List.getElem?_cons_succ, List.getElem?_cons_zero]; rfl) (by kernel_rfl) (by kernel_rfl) (by rfl) (fun W hW => ?_) ?_; rotate_left; · (go_simp; try with_reducible rfl)); simp only [Act.put, List.setIfInBounds_toArray, List.set_cons_zero, List.set_cons_succ]); ((refine WalkN.take 4 _ ?_ (by simp only [List.getElem?_toArray, List.getElem?_cons_succ, List.getElem?_cons_zero]; rfl) (by kernel_rfl) (by kernel_rfl) (by rfl) (fun W hW => ?_) ?_; rotate_left; · (go_simp; try with_reducible rfl)); simp only [Act.put, List.setIfInBounds_toArray, List.set_cons_zero, List.set_cons_succ]); ((refine WalkN.take 5 _ ?_ (by simp only [List.getElem?_toArray, List.getElem?_cons_succ, List.getElem?_cons_zero]; rfl) (by kernel_rfl) (by kernel_rfl) (by rfl) (fun W hW => ?_) ?_; rotate_left; · (go_simp; try with_reducible rfl)); simp only [Act.put, List.setIfInBounds_toArray, List.set_cons_zero, List.set_cons_succ]); ((refine WalkN.take 6 _ ?_ (by simp only [List.getElem?_toArray, List.getElem?_cons_succ, List.getElem?_cons_zero]; rfl) (by kernel_rfl) (by kernel_rfl) (by rfl) (fun W hW => ?_) ?_; rotate_left; · (go_simp; try with_reducible rfl)); simp only [Act.put, List.setIfInBounds_toArray, List.set_cons_zero, List.set_cons_succ]); ((refine WalkN.take 7 _ ?_ (by simp only [List.getElem?_toArray, List.getElem?_cons_succ, List.getElem?_cons_zero]; rfl) (by kernel_rfl) (by kernel_rfl) (by rfl) (fun W hW => ?_) ?_; rotate_left; · (go_simp; try with_reducible rfl)); simp only [Act.put, List.setIfInBounds_toArray, List.set_cons_zero, List.set_cons_succ]); ((refine WalkN.take 8 _ ?_ (by simp only [List.getElem?_toArray, List.getElem?_cons_succ, List.getElem?_cons_zero]; rfl) (by kernel_rfl) (by kernel_rfl) (by rfl) (fun W hW => ?_) ?_; rotate_left; · (go_simp; try with_reducible rfl)); simp only [Act.put, List.setIfInBounds_toArray, List.set_cons_zero, List.set_cons_succ]); ((refine WalkN.take 9 _ ?_ (by simp only [List.getElem?_toArray, List.getElem?_cons_succ, List.getElem?_cons_zero]; rfl) (by kernel_rfl) (by kernel_rfl) (by rfl) (fun W hW => ?_) ?_; rotate_left; · (go_simp; try with_reducible rfl)); simp only [Act.put, List.setIfInBounds_toArray, List.set_cons_zero, List.set_cons_succ]); ((refine WalkN.take 10 _ ?_ (by simp only [List.getElem?_toArray, List.getElem?_cons_succ, List.getElem?_cons_zero]; rfl) (by kernel_rfl) (by kernel_rfl) (by rfl) (fun W hW => ?_) ?_; rotate_left; · (go_simp; try with_reducible rfl)); simp only [Act.put, List.setIfInBounds_toArray, List.set_cons_zero, List.set_cons_succ]); ((refine WalkN.take 11 _ ?_ (by simp only [List.getElem?_toArray, List.getElem?_cons_succ, List.getElem?_cons_zero]; rfl) (by kernel_rfl) (by kernel_rfl) (by rfl) (fun W hW => ?_) ?_; rotate_left; · (go_simp; try with_reducible rfl)); simp only [Act.put, List.setIfInBounds_toArray, List.set_cons_zero, List.set_cons_succ]); ((refine WalkN.take 12 _ ?_ (by simp only [List.getElem?_toArray, List.getElem?_cons_succ, List.getElem?_cons_zero]; rfl) (by kernel_rfl) (by kernel_rfl) (by rfl) (fun W hW => ?_) ?_; rotate_left; · (go_simp; try with_reducible rfl)); simp only [Act.put, List.setIfInBounds_toArray, List.set_cons_zero, List.set_cons_succ]); ((refine WalkN.take 13 _ ?_ (by simp only [List.getElem?_toArray, List.getElem?_cons_succ, List.getElem?_cons_zero]; rfl) (by kernel_rfl) (by kernel_rfl) (by rfl) (fun W hW => ?_) ?_; rotate_left; · (go_simp; try with_reducible rfl)); simp only [Act.put, List.setIfInBounds_toArray, List.set_cons_zero, List.set_cons_succ]); ((refine WalkN.take 14 _ ?_ (by simp only [List.getElem?_toArray, List.getElem?_cons_succ, List.getElem?_cons_zero]; rfl) (by kernel_rfl) (by kernel_rfl) (by rfl) (fun W hW => ?_) ?_; rotate_left; · (go_simp; try with_reducible rfl)); simp only [Act.put, List.setIfInBounds_toArray, List.set_cons_zero, List.set_cons_succ]); ((refine WalkN.take 15 _ ?_ (by simp only [List.getElem?_toArray, List.getElem?_cons_succ, List.getElem?_cons_zero]; rfl) (by kernel_rfl) (by kernel_rfl) (by rfl) (fun W hW => ?_) ?_; rotate_left; · (go_simp; try with_reducible rfl)); simp only [Act.put, List.setIfInBounds_toArray, List.set_cons_zero, List.set_cons_succ]); ((refine WalkN.take 16 _ ?_ (by simp only [List.getElem?_toArray, List.getElem?_cons_succ, List.getElem?_cons_zero]; rfl) (by kernel_rfl) (by kernel_rfl) (by rfl) (fun W hW => ?_) ?_; rotate_left; · (go_simp; try with_reducible rfl)); simp only [Act.put, List.setIfInBounds_toArray, List.set_cons_zero, List.set_cons_succ]); ((refine WalkN.take 17 _ ?_ (by simp only [List.getElem?_toArray, List.getElem?_cons_succ, List.getElem?_cons_zero]; rfl) (by kernel_rfl) (by kernel_rfl) (by rfl) (fun W hW => ?_) ?_; rotate_left; · (go_simp; try with_reducible rfl)); simp only [Act.put, List.setIfInBounds_toArray, List.set_cons_zero, List.set_cons_succ]); ((refine WalkN.take 18 _ ?_ (by simp only [List.getElem?_toArray, List.getElem?_cons_succ, List.getElem?_cons_zero]; rfl) (by kernel_rfl) (by kernel_rfl) (by rfl) (fun W hW => ?_) ?_; rotate_left; · (go_simp; try with_reducible rfl)); simp only [Act.put, List.setIfInBounds_toArray, List.set_cons_zero, List.set_cons_succ]); ((refine WalkN.take 19 _ ?_ (by simp only [List.getElem?_toArray, List.getElem?_cons_succ, List.getElem?_cons_zero]; rfl) (by kernel_rfl) (by kernel_rfl) (by rfl) (fun W hW => ?_) ?_; rotate_left; · (go_simp; try with_reducible rfl)); simp only [Act.put, List.setIfInBounds_toArray, List.set_cons_zero, List.set_cons_succ]); ((refine WalkN.take 20 _ ?_ (by simp only [List.getElem?_toArray, List.getElem?_cons_succ, List.getElem?_cons_zero]; rfl) (by kernel_rfl) (by kernel_rfl) (by rfl) (fun W hW => ?_) ?_; rotate_left; · (go_simp; try with_reducible rfl)); simp only [Act.put, List.setIfInBounds_toArray, List.set_cons_zero, List.set_cons_succ]); ((refine WalkN.take 21 _ ?_ (by simp only [List.getElem?_toArray, List.getElem?_cons_succ, List.getElem?_cons_zero]; rfl) (by kernel_rfl) (by kernel_rfl) (by rfl) (fun W hW => ?_) ?_; rotate_left; · (go_simp; try with_reducible rfl)); simp only [Act.put, List.setIfInBounds_toArray, List.set_cons_zero, List.set_cons_succ]); ((refine WalkN.take 22 _ ?_ (by simp only [List.getElem?_toArray, List.getElem?_cons_succ, List.getElem?_cons_zero]; rfl) (by kernel_rfl) (by kernel_rfl) (by rfl) (fun W hW => ?_) ?_; rotate_left; · (go_simp; try with_reducible rfl)); simp only [Act.put, List.setIfInBounds_toArray, List.set_cons_zero, List.set_cons_succ]); ((refine WalkN.take 23 _ ?_ (by simp only [List.getElem?_toArray, List.getElem?_cons_succ, List.getElem?_cons_zero]; rfl) (by kernel_rfl) (by kernel_rfl) (by rfl) (fun W hW => ?_) ?_; rotate_left; · (go_simp; try with_reducible rfl)); simp only [Act.put, List.setIfInBounds_toArray, List.set_cons_zero, List.set_cons_succ]); ((refine WalkN.take 24 _ ?_ (by simp only [List.getElem?_toArray, List.getElem?_cons_succ, List.getElem?_cons_zero]; rfl) (by kernel_rfl) (by kernel_rfl) (by rfl) (fun W hW => ?_) ?_; rotate_left; · (go_simp; try with_reducible rfl)); simp only [Act.put, List.setIfInBounds_toArray, List.set_cons_zero, List.set_cons_succ]); ((refine WalkN.take 25 _ ?_ (by simp only [List.getElem?_toArray, List.getElem?_cons_succ, List.getElem?_cons_zero]; rfl) (by kernel_rfl) (by kernel_rfl) (by rfl) (fun W hW => ?_) ?_; rotate_left; · (go_simp; try with_reducible rfl)); simp only [Act.put, List.setIfInBounds_toArray, List.set_cons_zero, List.set_cons_succ])
            clear g6 g7 e0' e1' e2' e3' e4' q0' q1' q2' q3' q4'
            refine WalkN.one 26 (by kernel_rfl) ?_
            refine ⟨_, (by simp only [List.getElem?_toArray, List.getElem?_cons_succ, List.getElem?_cons_zero]; rfl), by rfl, fun K hK => ?_⟩
            go_simp
            have HSR := sameRule_any yr yr _ _ wd true (HAT.out.up HXd.out) (HAT2.out.up HXd.out) ⟨fun _ => rfl, fun _ => rfl⟩
            unfold rV at HSR
            refine HSR.mono ?_
            rintro e w9 ⟨rfl, hb9⟩
            have hx9 : Ext wd w9 := hb9
            refine hK.out _ _ hx9 ?_
            clear hK hb9
            ((refine WalkN.take 27 _ ?_ (by simp only [List.getElem?_toArray, List.getElem?_cons_succ, List.getElem?_cons_zero]; rfl) (by kernel_rfl) (by kernel_rfl) (by rfl) (fun W hW => ?_) ?_; rotate_left; · (go_simp; try with_reducible rfl)); simp only [Act.put, List.setIfInBounds_toArray, List.set_cons_zero, List.set_cons_succ]); ((refine WalkN.take 28 _ ?_ (by simp only [List.getElem?_toArray, List.getElem?_cons_succ, List.getElem?_cons_zero]; rfl) (by kernel_rfl) (by kernel_rfl) (by rfl) (fun W hW => ?_) ?_; rotate_left; · (go_simp; try with_reducible rfl)); simp only [Act.put, List.setIfInBounds_toArray, List.set_cons_zero, List.set_cons_succ])
            refine WalkN.done (by kernel_rfl) ?_
            have HX9 := Lib.hid (show Ext wy w9 from HXYd.out.trans hx9)
            clear hx9
            go_wp2_with fail
            go_roundw
            case rel => exact ⟨k + 1, by have := HKL.out; omega, by go_num, HX9.out⟩
            case measure => have := HKL.out; simp [intOf]; omega
          · have HXB := Lib.hid (show Ext wb wr from HXb.out.trans hxq)
            obtain rfl : k = rl.length := by omega
            clear hlk hxq
            go_wp2_with fail
            go_roundw
            case rel => exact ⟨i + 1, by omega, by go_num, HXB.out⟩
            case measure => simp [intOf]; omega
    · obtain rfl : i = ts.length := by omega
      have HXW := Lib.hid (show Ext w wr from HX.out.trans hxb)
      clear hlt hxb
      go_wp2_with fail
      go_ret
      exact ⟨rfl, HXW.out⟩

end Go.Proofs.Ytipddhcfcehcaaa
