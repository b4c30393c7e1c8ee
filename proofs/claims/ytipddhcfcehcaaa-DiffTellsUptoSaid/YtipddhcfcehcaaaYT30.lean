/- Lemmas for the claim, no condition. -/
import Derived.Test.YtipddhcfcehcaaaYT29
import Derived.Test.YtipddhcfcehcaaaYT28
namespace Go.Proofs.Ytipddhcfcehcaaa
open Go Go.RowKit Go.Maps

theorem take_eq_all {α : Type} {l m : List α} (hn : l.length = m.length) (h : l.take l.length = m.take l.length) : l = m := by
  rw [List.take_length, hn, List.take_length] at h
  exact h
theorem take_eq_next {α : Type} {l m : List α} {i : Nat} (h1 : i < l.length) (h2 : i < m.length) (h : l.take i = m.take i) (he : l[i] = m[i]) : l.take (i + 1) = m.take (i + 1) := by
  rw [List.take_succ_eq_append_getElem h1, List.take_succ_eq_append_getElem h2, h, he]

set_option maxRecDepth 100000 in
set_option maxHeartbeats 1000000 in
theorem equalC_any (v1 v2 : Value) (l m : List Ch) (w : World) (h1 : Sl (· < w.heap.size) w 3 v1 (chcs l)) (h2 : Sl (· < w.heap.size) w 3 v2 (chcs m)) : Calls Try.prog 41 #[v1, v2] w fun e w' => e = .returned (.bool (decide (l = m))) ∧ Ext w w' := by
  obtain ⟨ao, c, rfl, hlc, hcm, hc⟩ := Sl.rows chC_length (by decide) h1
  obtain ⟨ao2, c2, rfl, hlc2, hcm2, hc2⟩ := Sl.rows chC_length (by decide) h2
  have HC := Lib.hid hc
  have HC2 := Lib.hid hc2
  clear hc hc2 h1 h2
  by_cases hn : l.length = m.length
  case neg =>
    have HNE := Lib.hid (show decide (l = m) = false from decide_eq_false fun e => hn (by rw [e]))
    have hne : ((l.length : Int) == (m.length : Int)) = false := beq_eq_false_iff_ne.2 (by omega)
    have hne' : ((l.length : Int) != (m.length : Int)) = true := bne_iff_ne.2 (by omega)
    have hnn : ¬ (l.length : Int) = (m.length : Int) := by omega
    go_enter Try.func41, Try.ntmps41
    go_wp2_with fail
    go_ret
    exact ⟨by rw [HNE.out]; rfl, Ext.refl _⟩
  case pos =>
    have HN := Lib.hid hn
    rw [← hn] at hlc2 ⊢
    clear hn
    go_enter Try.func41, Try.ntmps41
    go_wp2_with fail
    go_loopw [5, 13] (fun _ ii wr => ∃ i : Nat, i ≤ l.length ∧ ii = .int .i64 i ∧ l.take i = m.take i ∧ Ext w wr) (fun _ ii _ => l.length - (intOf ii).toNat)
    case atStart => exact ⟨0, by omega, rfl, rfl, Ext.refl _⟩
    case round =>
      obtain ⟨i, hi, rfl, hte, hbel⟩ := hrel
      have HTE := Lib.hid hte
      clear hte
      by_cases hlt : i < l.length
      · have hlm : i < m.length := by have := HN.out; omega
        obtain ⟨b, off, rfl, hb, hk⟩ := HC.out (by omega)
        obtain ⟨b2, off2, rfl, hb2, he⟩ := HC2.out (by omega)
        have HNX := Lib.hid (take_eq_next hlt hlm HTE.out)
        have HNQ := Lib.hid (fun (h : l[i] ≠ m[i]) (e : l = m) => h (by subst e; rfl))
        have k0 := hk i hlt 0 _ rfl
        have k1 := hk i hlt 1 _ rfl
        have k2 := hk i hlt 2 _ rfl
        have e0 := he i hlm 0 _ rfl
        have e1 := he i hlm 1 _ rfl
        have e2 := he i hlm 2 _ rfl
        generalize l[i] = x at *
        generalize m[i] = y at *
        have hne := fun W => ch_neq x y W
        by_cases hxy : x = y
        case pos =>
          have HX := Lib.hid hxy
          subst hxy
          rw [decide_eq_false (by simp)] at hne
          obtain ⟨xk, ⟨xt, xr⟩⟩ := x
          unfold chV at hne
          dsimp only at k0 k1 k2 e0 e1 e2 hne
          clear hk he
          go_wp2_with fail
          obtain ⟨wd, hwd⟩ : ∃ wd, wd = wr.drew := ⟨_, rfl⟩
          have hbd : Ext w wd := by rw [hwd]; exact hbel.trans (Ext.drew wr)
          refine region_walkN (Ext wd) (by rw [← hwd]; exact Ext.refl _) (by kernel_rfl) (by kernel_rfl) (fun _ _ d _ _ h => by cases d <;> exact h) ?_
          rw [← hwd]
          clear hwd hbel
          have fk0 : ∀ W, Ext wd W → W.cell? ⟨b, off + i * 3, none⟩ = some (.int .i64 xk) := fun W h => (hbd.trans h).cell (a := ⟨b, off + i * 3, none⟩) k0
          have fk1 : ∀ W, Ext wd W → W.cell? ⟨b, off + i * 3 + 1, none⟩ = some (.string xt) := fun W h => (hbd.trans h).cell (a := ⟨b, off + i * 3 + 1, none⟩) k1
          have fk2 : ∀ W, Ext wd W → W.cell? ⟨b, off + i * 3 + 2, none⟩ = some (.string xr) := fun W h => (hbd.trans h).cell (a := ⟨b, off + i * 3 + 2, none⟩) k2
          have fe0 : ∀ W, Ext wd W → W.cell? ⟨b2, off2 + i * 3, none⟩ = some (.int .i64 xk) := fun W h => (hbd.trans h).cell (a := ⟨b2, off2 + i * 3, none⟩) e0
          have fe1 : ∀ W, Ext wd W → W.cell? ⟨b2, off2 + i * 3 + 1, none⟩ = some (.string xt) := fun W h => (hbd.trans h).cell (a := ⟨b2, off2 + i * 3 + 1, none⟩) e1
          have fe2 : ∀ W, Ext wd W → W.cell? ⟨b2, off2 + i * 3 + 2, none⟩ = some (.string xr) := fun W h => (hbd.trans h).cell (a := ⟨b2, off2 + i * 3 + 2, none⟩) e2
          clear k0 k1 k2 e0 e1 e2
          ((refine WalkN.take 0 _ ?_ (by simp only [List.getElem?_toArray, List.getElem?_cons_zero]; rfl) (by kernel_rfl) (by kernel_rfl) (by rfl) (fun W hW => ?_) ?_; rotate_left; · (go_simp; try with_reducible rfl)); simp only [Act.put, List.setIfInBounds_toArray, List.set_cons_zero, List.set_cons_succ]); ((refine WalkN.take 1 _ ?_ (by simp only [List.getElem?_toArray, List.getElem?_cons_succ, List.getElem?_cons_zero]; rfl) (by kernel_rfl) (by kernel_rfl) (by rfl) (fun W hW => ?_) ?_; rotate_left; · (go_simp; try with_reducible rfl)); simp only [Act.put, List.setIfInBounds_toArray, List.set_cons_zero, List.set_cons_succ]); ((refine WalkN.take 2 _ ?_ (by simp only [List.getElem?_toArray, List.getElem?_cons_succ, List.getElem?_cons_zero]; rfl) (by kernel_rfl) (by kernel_rfl) (by rfl) (fun W hW => ?_) ?_; rotate_left; · (go_simp; try with_reducible rfl)); simp only [Act.put, List.setIfInBounds_toArray, List.set_cons_zero, List.set_cons_succ]); ((refine WalkN.take 3 _ ?_ (by simp only [List.getElem?_toArray, List.getElem?_cons_succ, List.getElem?_cons_zero]; rfl) (by kernel_rfl) (by kernel_rfl) (by rfl) (fun W hW => ?_) ?_; rotate_left; · (go_simp; try with_reducible rfl)); simp only [Act.put, List.setIfInBounds_toArray, List.set_cons_zero, List.set_cons_succ]); ((refine WalkN.take 4 _ ?_ (by simp only [List.getElem?_toArray, List.getElem?_cons_succ, List.getElem?_cons_zero]; rfl) (by kernel_rfl) (by kernel_rfl) (by rfl) (fun W hW => ?_) ?_; rotate_left; · (go_simp; try with_reducible rfl)); simp only [Act.put, List.setIfInBounds_toArray, List.set_cons_zero, List.set_cons_succ]); ((refine WalkN.take 5 _ ?_ (by simp only [List.getElem?_toArray, List.getElem?_cons_succ, List.getElem?_cons_zero]; rfl) (by kernel_rfl) (by kernel_rfl) (by rfl) (fun W hW => ?_) ?_; rotate_left; · (go_simp; try with_reducible rfl)); simp only [Act.put, List.setIfInBounds_toArray, List.set_cons_zero, List.set_cons_succ]); ((refine WalkN.take 6 _ ?_ (by simp only [List.getElem?_toArray, List.getElem?_cons_succ, List.getElem?_cons_zero]; rfl) (by kernel_rfl) (by kernel_rfl) (by rfl) (fun W hW => ?_) ?_; rotate_left; · (go_simp; try with_reducible rfl)); simp only [Act.put, List.setIfInBounds_toArray, List.set_cons_zero, List.set_cons_succ]); ((refine WalkN.take 7 _ ?_ (by simp only [List.getElem?_toArray, List.getElem?_cons_succ, List.getElem?_cons_zero]; rfl) (by kernel_rfl) (by kernel_rfl) (by rfl) (fun W hW => ?_) ?_; rotate_left; · (go_simp; try with_reducible rfl)); simp only [Act.put, List.setIfInBounds_toArray, List.set_cons_zero, List.set_cons_succ]); ((refine WalkN.take 8 _ ?_ (by simp only [List.getElem?_toArray, List.getElem?_cons_succ, List.getElem?_cons_zero]; rfl) (by kernel_rfl) (by kernel_rfl) (by rfl) (fun W hW => ?_) ?_; rotate_left; · (go_simp; try with_reducible rfl)); simp only [Act.put, List.setIfInBounds_toArray, List.set_cons_zero, List.set_cons_succ])
          refine WalkN.done (by kernel_rfl) ?_
          clear fk0 fk1 fk2 fe0 fe1 fe2 hne
          go_wp2_with fail
          go_roundw
          case rel => exact ⟨i + 1, by omega, by go_num, HNX.out (by first | rfl | trivial), hbd⟩
          case measure => simp [intOf]; omega
        case neg =>
          have HX := Lib.hid hxy
          rw [decide_eq_true hxy] at hne
          have HF := Lib.hid (show decide (l = m) = false from decide_eq_false (HNQ.out hxy))
          clear hxy HNX HNQ
          obtain ⟨xk, ⟨xt, xr⟩⟩ := x
          obtain ⟨yk, ⟨yt, yr⟩⟩ := y
          unfold chV at hne
          dsimp only at k0 k1 k2 e0 e1 e2 hne
          clear hk he HX
          go_wp2_with fail
          obtain ⟨wd, hwd⟩ : ∃ wd, wd = wr.drew := ⟨_, rfl⟩
          have hbd : Ext w wd := by rw [hwd]; exact hbel.trans (Ext.drew wr)
          refine region_walkN (Ext wd) (by rw [← hwd]; exact Ext.refl _) (by kernel_rfl) (by kernel_rfl) (fun _ _ d _ _ h => by cases d <;> exact h) ?_
          rw [← hwd]
          clear hwd hbel
          have fk0 : ∀ W, Ext wd W → W.cell? ⟨b, off + i * 3, none⟩ = some (.int .i64 xk) := fun W h => (hbd.trans h).cell (a := ⟨b, off + i * 3, none⟩) k0
          have fk1 : ∀ W, Ext wd W → W.cell? ⟨b, off + i * 3 + 1, none⟩ = some (.string xt) := fun W h => (hbd.trans h).cell (a := ⟨b, off + i * 3 + 1, none⟩) k1
          have fk2 : ∀ W, Ext wd W → W.cell? ⟨b, off + i * 3 + 2, none⟩ = some (.string xr) := fun W h => (hbd.trans h).cell (a := ⟨b, off + i * 3 + 2, none⟩) k2
          have fe0 : ∀ W, Ext wd W → W.cell? ⟨b2, off2 + i * 3, none⟩ = some (.int .i64 yk) := fun W h => (hbd.trans h).cell (a := ⟨b2, off2 + i * 3, none⟩) e0
          have fe1 : ∀ W, Ext wd W → W.cell? ⟨b2, off2 + i * 3 + 1, none⟩ = some (.string yt) := fun W h => (hbd.trans h).cell (a := ⟨b2, off2 + i * 3 + 1, none⟩) e1
          have fe2 : ∀ W, Ext wd W → W.cell? ⟨b2, off2 + i * 3 + 2, none⟩ = some (.string yr) := fun W h => (hbd.trans h).cell (a := ⟨b2, off2 + i * 3 + 2, none⟩) e2
          clear k0 k1 k2 e0 e1 e2
          ((refine WalkN.take 0 _ ?_ (by simp only [List.getElem?_toArray, List.getElem?_cons_zero]; rfl) (by kernel_rfl) (by kernel_rfl) (by rfl) (fun W hW => ?_) ?_; rotate_left; · (go_simp; try with_reducible rfl)); simp only [Act.put, List.setIfInBounds_toArray, List.set_cons_zero, List.set_cons_succ]); ((refine WalkN.take 1 _ ?_ (by simp only [List.getElem?_toArray, List.getElem?_cons_succ, List.getElem?_cons_zero]; rfl) (by kernel_rfl) (by kernel_rfl) (by rfl) (fun W hW => ?_) ?_; rotate_left; · (go_simp; try with_reducible rfl)); simp only [Act.put, List.setIfInBounds_toArray, List.set_cons_zero, List.set_cons_succ]); ((refine WalkN.take 2 _ ?_ (by simp only [List.getElem?_toArray, List.getElem?_cons_succ, List.getElem?_cons_zero]; rfl) (by kernel_rfl) (by kernel_rfl) (by rfl) (fun W hW => ?_) ?_; rotate_left; · (go_simp; try with_reducible rfl)); simp only [Act.put, List.setIfInBounds_toArray, List.set_cons_zero, List.set_cons_succ]); ((refine WalkN.take 3 _ ?_ (by simp only [List.getElem?_toArray, List.getElem?_cons_succ, List.getElem?_cons_zero]; rfl) (by kernel_rfl) (by kernel_rfl) (by rfl) (fun W hW => ?_) ?_; rotate_left; · (go_simp; try with_reducible rfl)); simp only [Act.put, List.setIfInBounds_toArray, List.set_cons_zero, List.set_cons_succ]); ((refine WalkN.take 4 _ ?_ (by simp only [List.getElem?_toArray, List.getElem?_cons_succ, List.getElem?_cons_zero]; rfl) (by kernel_rfl) (by kernel_rfl) (by rfl) (fun W hW => ?_) ?_; rotate_left; · (go_simp; try with_reducible rfl)); simp only [Act.put, List.setIfInBounds_toArray, List.set_cons_zero, List.set_cons_succ]); ((refine WalkN.take 5 _ ?_ (by simp only [List.getElem?_toArray, List.getElem?_cons_succ, List.getElem?_cons_zero]; rfl) (by kernel_rfl) (by kernel_rfl) (by rfl) (fun W hW => ?_) ?_; rotate_left; · (go_simp; try with_reducible rfl)); simp only [Act.put, List.setIfInBounds_toArray, List.set_cons_zero, List.set_cons_succ]); ((refine WalkN.take 6 _ ?_ (by simp only [List.getElem?_toArray, List.getElem?_cons_succ, List.getElem?_cons_zero]; rfl) (by kernel_rfl) (by kernel_rfl) (by rfl) (fun W hW => ?_) ?_; rotate_left; · (go_simp; try with_reducible rfl)); simp only [Act.put, List.setIfInBounds_toArray, List.set_cons_zero, List.set_cons_succ]); ((refine WalkN.take 7 _ ?_ (by simp only [List.getElem?_toArray, List.getElem?_cons_succ, List.getElem?_cons_zero]; rfl) (by kernel_rfl) (by kernel_rfl) (by rfl) (fun W hW => ?_) ?_; rotate_left; · (go_simp; try with_reducible rfl)); simp only [Act.put, List.setIfInBounds_toArray, List.set_cons_zero, List.set_cons_succ]); ((refine WalkN.take 8 _ ?_ (by simp only [List.getElem?_toArray, List.getElem?_cons_succ, List.getElem?_cons_zero]; rfl) (by kernel_rfl) (by kernel_rfl) (by rfl) (fun W hW => ?_) ?_; rotate_left; · (go_simp; try with_reducible rfl)); simp only [Act.put, List.setIfInBounds_toArray, List.set_cons_zero, List.set_cons_succ])
          refine WalkN.done (by kernel_rfl) ?_
          clear fk0 fk1 fk2 fe0 fe1 fe2 hne
          go_wp2_with fail
          go_ret
          exact ⟨by rw [HF.out]; rfl, hbd⟩
      · obtain rfl : i = l.length := by omega
        have HF := Lib.hid (show decide (l = m) = true from decide_eq_true (take_eq_all HN.out HTE.out))
        go_wp2_with fail
        go_ret
        exact ⟨by rw [HF.out]; rfl, hbel⟩

set_option maxRecDepth 100000 in
set_option maxHeartbeats 1000000 in
theorem sameC_any (v1 v2 : Value) (l m : List Ch) (w : World) (h1 : Sl (· < w.heap.size) w 3 v1 (chcs l)) (h2 : Sl (· < w.heap.size) w 3 v2 (chcs m)) : Calls Try.prog 20 #[v1, v2] w fun e w' => e = .returned (.bool (decide (l = m))) ∧ Ext w w' := by
  obtain ⟨ao, c, rfl, hlc, hcm, hc⟩ := Sl.rows chC_length (by decide) h1
  obtain ⟨ao2, c2, rfl, hlc2, hcm2, hc2⟩ := Sl.rows chC_length (by decide) h2
  have HC := Lib.hid hc
  have HC2 := Lib.hid hc2
  clear hc hc2 h1 h2
  by_cases hn : l.length = m.length
  case neg =>
    have HNE := Lib.hid (show decide (l = m) = false from decide_eq_false fun e => hn (by rw [e]))
    have hne : ((l.length : Int) == (m.length : Int)) = false := beq_eq_false_iff_ne.2 (by omega)
    have hne' : ((l.length : Int) != (m.length : Int)) = true := bne_iff_ne.2 (by omega)
    have hnn : ¬ (l.length : Int) = (m.length : Int) := by omega
    go_enter Try.func20, Try.ntmps20
    go_wp2_with fail
    go_ret
    exact ⟨by rw [HNE.out]; rfl, Ext.refl _⟩
  case pos =>
    have HN := Lib.hid hn
    rw [← hn] at hlc2 ⊢
    clear hn
    go_enter Try.func20, Try.ntmps20
    go_wp2_with fail
    go_loopw [5, 13] (fun _ ii wr => ∃ i : Nat, i ≤ l.length ∧ ii = .int .i64 i ∧ l.take i = m.take i ∧ Ext w wr) (fun _ ii _ => l.length - (intOf ii).toNat)
    case atStart => exact ⟨0, by omega, rfl, rfl, Ext.refl _⟩
    case round =>
      obtain ⟨i, hi, rfl, hte, hbel⟩ := hrel
      have HTE := Lib.hid hte
      clear hte
      by_cases hlt : i < l.length
      · have hlm : i < m.length := by have := HN.out; omega
        obtain ⟨b, off, rfl, hb, hk⟩ := HC.out (by omega)
        obtain ⟨b2, off2, rfl, hb2, he⟩ := HC2.out (by omega)
        have HNX := Lib.hid (take_eq_next hlt hlm HTE.out)
        have HNQ := Lib.hid (fun (h : l[i] ≠ m[i]) (e : l = m) => h (by subst e; rfl))
        have k0 := hk i hlt 0 _ rfl
        have k1 := hk i hlt 1 _ rfl
        have k2 := hk i hlt 2 _ rfl
        have e0 := he i hlm 0 _ rfl
        have e1 := he i hlm 1 _ rfl
        have e2 := he i hlm 2 _ rfl
        generalize l[i] = x at *
        generalize m[i] = y at *
        have hne := fun W => ch_neq x y W
        by_cases hxy : x = y
        case pos =>
          have HX := Lib.hid hxy
          subst hxy
          rw [decide_eq_false (by simp)] at hne
          obtain ⟨xk, ⟨xt, xr⟩⟩ := x
          unfold chV at hne
          dsimp only at k0 k1 k2 e0 e1 e2 hne
          clear hk he
          go_wp2_with fail
          obtain ⟨wd, hwd⟩ : ∃ wd, wd = wr.drew := ⟨_, rfl⟩
          have hbd : Ext w wd := by rw [hwd]; exact hbel.trans (Ext.drew wr)
          refine region_walkN (Ext wd) (by rw [← hwd]; exact Ext.refl _) (by kernel_rfl) (by kernel_rfl) (fun _ _ d _ _ h => by cases d <;> exact h) ?_
          rw [← hwd]
          clear hwd hbel
          have fk0 : ∀ W, Ext wd W → W.cell? ⟨b, off + i * 3, none⟩ = some (.int .i64 xk) := fun W h => (hbd.trans h).cell (a := ⟨b, off + i * 3, none⟩) k0
          have fk1 : ∀ W, Ext wd W → W.cell? ⟨b, off + i * 3 + 1, none⟩ = some (.string xt) := fun W h => (hbd.trans h).cell (a := ⟨b, off + i * 3 + 1, none⟩) k1
          have fk2 : ∀ W, Ext wd W → W.cell? ⟨b, off + i * 3 + 2, none⟩ = some (.string xr) := fun W h => (hbd.trans h).cell (a := ⟨b, off + i * 3 + 2, none⟩) k2
          have fe0 : ∀ W, Ext wd W → W.cell? ⟨b2, off2 + i * 3, none⟩ = some (.int .i64 xk) := fun W h => (hbd.trans h).cell (a := ⟨b2, off2 + i * 3, none⟩) e0
          have fe1 : ∀ W, Ext wd W → W.cell? ⟨b2, off2 + i * 3 + 1, none⟩ = some (.string xt) := fun W h => (hbd.trans h).cell (a := ⟨b2, off2 + i * 3 + 1, none⟩) e1
          have fe2 : ∀ W, Ext wd W → W.cell? ⟨b2, off2 + i * 3 + 2, none⟩ = some (.string xr) := fun W h => (hbd.trans h).cell (a := ⟨b2, off2 + i * 3 + 2, none⟩) e2
          clear k0 k1 k2 e0 e1 e2
          ((refine WalkN.take 0 _ ?_ (by simp only [List.getElem?_toArray, List.getElem?_cons_zero]; rfl) (by kernel_rfl) (by kernel_rfl) (by rfl) (fun W hW => ?_) ?_; rotate_left; · (go_simp; try with_reducible rfl)); simp only [Act.put, List.setIfInBounds_toArray, List.set_cons_zero, List.set_cons_succ]); ((refine WalkN.take 1 _ ?_ (by simp only [List.getElem?_toArray, List.getElem?_cons_succ, List.getElem?_cons_zero]; rfl) (by kernel_rfl) (by kernel_rfl) (by rfl) (fun W hW => ?_) ?_; rotate_left; · (go_simp; try with_reducible rfl)); simp only [Act.put, List.setIfInBounds_toArray, List.set_cons_zero, List.set_cons_succ]); ((refine WalkN.take 2 _ ?_ (by simp only [List.getElem?_toArray, List.getElem?_cons_succ, List.getElem?_cons_zero]; rfl) (by kernel_rfl) (by kernel_rfl) (by rfl) (fun W hW => ?_) ?_; rotate_left; · (go_simp; try with_reducible rfl)); simp only [Act.put, List.setIfInBounds_toArray, List.set_cons_zero, List.set_cons_succ]); ((refine WalkN.take 3 _ ?_ (by simp only [List.getElem?_toArray, List.getElem?_cons_succ, List.getElem?_cons_zero]; rfl) (by kernel_rfl) (by kernel_rfl) (by rfl) (fun W hW => ?_) ?_; rotate_left; · (go_simp; try with_reducible rfl)); simp only [Act.put, List.setIfInBounds_toArray, List.set_cons_zero, List.set_cons_succ]); ((refine WalkN.take 4 _ ?_ (by simp only [List.getElem?_toArray, List.getElem?_cons_succ, List.getElem?_cons_zero]; rfl) (by kernel_rfl) (by kernel_rfl) (by rfl) (fun W hW => ?_) ?_; rotate_left; · (go_simp; try with_reducible rfl)); simp only [Act.put, List.setIfInBounds_toArray, List.set_cons_zero, List.set_cons_succ]); ((refine WalkN.take 5 _ ?_ (by simp only [List.getElem?_toArray, List.getElem?_cons_succ, List.getElem?_cons_zero]; rfl) (by kernel_rfl) (by kernel_rfl) (by rfl) (fun W hW => ?_) ?_; rotate_left; · (go_simp; try with_reducible rfl)); simp only [Act.put, List.setIfInBounds_toArray, List.set_cons_zero, List.set_cons_succ]); ((refine WalkN.take 6 _ ?_ (by simp only [List.getElem?_toArray, List.getElem?_cons_succ, List.getElem?_cons_zero]; rfl) (by kernel_rfl) (by kernel_rfl) (by rfl) (fun W hW => ?_) ?_; rotate_left; · (go_simp; try with_reducible rfl)); simp only [Act.put, List.setIfInBounds_toArray, List.set_cons_zero, List.set_cons_succ]); ((refine WalkN.take 7 _ ?_ (by simp only [List.getElem?_toArray, List.getElem?_cons_succ, List.getElem?_cons_zero]; rfl) (by kernel_rfl) (by kernel_rfl) (by rfl) (fun W hW => ?_) ?_; rotate_left; · (go_simp; try with_reducible rfl)); simp only [Act.put, List.setIfInBounds_toArray, List.set_cons_zero, List.set_cons_succ]); ((refine WalkN.take 8 _ ?_ (by simp only [List.getElem?_toArray, List.getElem?_cons_succ, List.getElem?_cons_zero]; rfl) (by kernel_rfl) (by kernel_rfl) (by rfl) (fun W hW => ?_) ?_; rotate_left; · (go_simp; try with_reducible rfl)); simp only [Act.put, List.setIfInBounds_toArray, List.set_cons_zero, List.set_cons_succ])
          refine WalkN.done (by kernel_rfl) ?_
          clear fk0 fk1 fk2 fe0 fe1 fe2 hne
          go_wp2_with fail
          go_roundw
          case rel => exact ⟨i + 1, by omega, by go_num, HNX.out (by first | rfl | trivial), hbd⟩
          case measure => simp [intOf]; omega
        case neg =>
          have HX := Lib.hid hxy
          rw [decide_eq_true hxy] at hne
          have HF := Lib.hid (show decide (l = m) = false from decide_eq_false (HNQ.out hxy))
          clear hxy HNX HNQ
          obtain ⟨xk, ⟨xt, xr⟩⟩ := x
          obtain ⟨yk, ⟨yt, yr⟩⟩ := y
          unfold chV at hne
          dsimp only at k0 k1 k2 e0 e1 e2 hne
          clear hk he HX
          go_wp2_with fail
          obtain ⟨wd, hwd⟩ : ∃ wd, wd = wr.drew := ⟨_, rfl⟩
          have hbd : Ext w wd := by rw [hwd]; exact hbel.trans (Ext.drew wr)
          refine region_walkN (Ext wd) (by rw [← hwd]; exact Ext.refl _) (by kernel_rfl) (by kernel_rfl) (fun _ _ d _ _ h => by cases d <;> exact h) ?_
          rw [← hwd]
          clear hwd hbel
          have fk0 : ∀ W, Ext wd W → W.cell? ⟨b, off + i * 3, none⟩ = some (.int .i64 xk) := fun W h => (hbd.trans h).cell (a := ⟨b, off + i * 3, none⟩) k0
          have fk1 : ∀ W, Ext wd W → W.cell? ⟨b, off + i * 3 + 1, none⟩ = some (.string xt) := fun W h => (hbd.trans h).cell (a := ⟨b, off + i * 3 + 1, none⟩) k1
          have fk2 : ∀ W, Ext wd W → W.cell? ⟨b, off + i * 3 + 2, none⟩ = some (.string xr) := fun W h => (hbd.trans h).cell (a := ⟨b, off + i * 3 + 2, none⟩) k2
          have fe0 : ∀ W, Ext wd W → W.cell? ⟨b2, off2 + i * 3, none⟩ = some (.int .i64 yk) := fun W h => (hbd.trans h).cell (a := ⟨b2, off2 + i * 3, none⟩) e0
          have fe1 : ∀ W, Ext wd W → W.cell? ⟨b2, off2 + i * 3 + 1, none⟩ = some (.string yt) := fun W h => (hbd.trans h).cell (a := ⟨b2, off2 + i * 3 + 1, none⟩) e1
          have fe2 : ∀ W, Ext wd W → W.cell? ⟨b2, off2 + i * 3 + 2, none⟩ = some (.string yr) := fun W h => (hbd.trans h).cell (a := ⟨b2, off2 + i * 3 + 2, none⟩) e2
          clear k0 k1 k2 e0 e1 e2
          ((refine WalkN.take 0 _ ?_ (by simp only [List.getElem?_toArray, List.getElem?_cons_zero]; rfl) (by kernel_rfl) (by kernel_rfl) (by rfl) (fun W hW => ?_) ?_; rotate_left; · (go_simp; try with_reducible rfl)); simp only [Act.put, List.setIfInBounds_toArray, List.set_cons_zero, List.set_cons_succ]); ((refine WalkN.take 1 _ ?_ (by simp only [List.getElem?_toArray, List.getElem?_cons_succ, List.getElem?_cons_zero]; rfl) (by kernel_rfl) (by kernel_rfl) (by rfl) (fun W hW => ?_) ?_; rotate_left; · (go_simp; try with_reducible rfl)); simp only [Act.put, List.setIfInBounds_toArray, List.set_cons_zero, List.set_cons_succ]); ((refine WalkN.take 2 _ ?_ (by simp only [List.getElem?_toArray, List.getElem?_cons_succ, List.getElem?_cons_zero]; rfl) (by kernel_rfl) (by kernel_rfl) (by rfl) (fun W hW => ?_) ?_; rotate_left; · (go_simp; try with_reducible rfl)); simp only [Act.put, List.setIfInBounds_toArray, List.set_cons_zero, List.set_cons_succ]); ((refine WalkN.take 3 _ ?_ (by simp only [List.getElem?_toArray, List.getElem?_cons_succ, List.getElem?_cons_zero]; rfl) (by kernel_rfl) (by kernel_rfl) (by rfl) (fun W hW => ?_) ?_; rotate_left; · (go_simp; try with_reducible rfl)); simp only [Act.put, List.setIfInBounds_toArray, List.set_cons_zero, List.set_cons_succ]); ((refine WalkN.take 4 _ ?_ (by simp only [List.getElem?_toArray, List.getElem?_cons_succ, List.getElem?_cons_zero]; rfl) (by kernel_rfl) (by kernel_rfl) (by rfl) (fun W hW => ?_) ?_; rotate_left; · (go_simp; try with_reducible rfl)); simp only [Act.put, List.setIfInBounds_toArray, List.set_cons_zero, List.set_cons_succ]); ((refine WalkN.take 5 _ ?_ (by simp only [List.getElem?_toArray, List.getElem?_cons_succ, List.getElem?_cons_zero]; rfl) (by kernel_rfl) (by kernel_rfl) (by rfl) (fun W hW => ?_) ?_; rotate_left; · (go_simp; try with_reducible rfl)); simp only [Act.put, List.setIfInBounds_toArray, List.set_cons_zero, List.set_cons_succ]); ((refine WalkN.take 6 _ ?_ (by simp only [List.getElem?_toArray, List.getElem?_cons_succ, List.getElem?_cons_zero]; rfl) (by kernel_rfl) (by kernel_rfl) (by rfl) (fun W hW => ?_) ?_; rotate_left; · (go_simp; try with_reducible rfl)); simp only [Act.put, List.setIfInBounds_toArray, List.set_cons_zero, List.set_cons_succ]); ((refine WalkN.take 7 _ ?_ (by simp only [List.getElem?_toArray, List.getElem?_cons_succ, List.getElem?_cons_zero]; rfl) (by kernel_rfl) (by kernel_rfl) (by rfl) (fun W hW => ?_) ?_; rotate_left; · (go_simp; try with_reducible rfl)); simp only [Act.put, List.setIfInBounds_toArray, List.set_cons_zero, List.set_cons_succ]); ((refine WalkN.take 8 _ ?_ (by simp only [List.getElem?_toArray, List.getElem?_cons_succ, List.getElem?_cons_zero]; rfl) (by kernel_rfl) (by kernel_rfl) (by rfl) (fun W hW => ?_) ?_; rotate_left; · (go_simp; try with_reducible rfl)); simp only [Act.put, List.setIfInBounds_toArray, List.set_cons_zero, List.set_cons_succ])
          refine WalkN.done (by kernel_rfl) ?_
          clear fk0 fk1 fk2 fe0 fe1 fe2 hne
          go_wp2_with fail
          go_ret
          exact ⟨by rw [HF.out]; rfl, hbd⟩
      · obtain rfl : i = l.length := by omega
        have HF := Lib.hid (show decide (l = m) = true from decide_eq_true (take_eq_all HN.out HTE.out))
        go_wp2_with fail
        go_ret
        exact ⟨by rw [HF.out]; rfl, hbel⟩

end Go.Proofs.Ytipddhcfcehcaaa
