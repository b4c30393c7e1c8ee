/- Rows in order are one row; the walks of SameSubs and SamePoints at one row. No condition: lemmas. -/
import Derived.Test.YtcbgemnmehoeaaaFlatV
namespace Go.Proofs.Ytcbgemnmehoeaaa
open Go Go.RowKit Go.Maps

theorem ltP_asym {a b : P3} (h : ltP a b = true) : ltP b a = false := by
  cases k : ltP b a with
  | false => rfl
  | true => have := ltP_trans h k; rw [ltP_irr] at this; cases this
theorem upP_unique : ∀ {a b : List P3}, UpP a → UpP b → (∀ x, x ∈ a ↔ x ∈ b) → a = b
  | [], [], _, _, _ => rfl
  | [], y :: b, _, _, h => absurd ((h y).2 (by simp)) (by simp)
  | x :: a, [], _, _, h => absurd ((h x).1 (by simp)) (by simp)
  | x :: a, y :: b, ha, hb, h => by
    obtain ⟨ha1, ha2⟩ := List.pairwise_cons.1 ha
    obtain ⟨hb1, hb2⟩ := List.pairwise_cons.1 hb
    have hxy : x = y := by
      rcases List.mem_cons.1 ((h x).1 (by simp)) with e | hx
      · exact e
      · rcases List.mem_cons.1 ((h y).2 (by simp)) with e | hy
        · exact e.symm
        · have h1 := ha1 y hy
          rw [ltP_asym (hb1 x hx)] at h1
          cases h1
    subst hxy
    congr 1
    refine upP_unique ha2 hb2 fun z => ?_
    constructor
    · intro hz
      rcases List.mem_cons.1 ((h z).1 (by simp [hz])) with rfl | k
      · have := ha1 z hz; rw [ltP_irr] at this; cases this
      · exact k
    · intro hz
      rcases List.mem_cons.1 ((h z).2 (by simp [hz])) with rfl | k
      · have := hb1 z hz; rw [ltP_irr] at this; cases this
      · exact k

set_option maxRecDepth 100000 in
set_option maxHeartbeats 2000000 in
theorem sameS_any (v1 v2 : Value) (l : List P3) (w : World) (h1 : Sl (· < w.heap.size) w 3 v1 (pcs l)) (h2 : Sl (· < w.heap.size) w 3 v2 (pcs l)) : Calls Try.prog 17 #[v1, v2] w fun e w' => e = .returned (.bool true) ∧ Below w.heap.size w w' := by
  obtain ⟨ao, c, rfl, hlc, hcm, hc⟩ := Sl.rows pC_length (by decide) (show Sl _ w 3 v1 (List.flatMap pC l) from h1)
  obtain ⟨ao2, c2, rfl, hlc2, hcm2, hc2⟩ := Sl.rows pC_length (by decide) (show Sl _ w 3 v2 (List.flatMap pC l) from h2)
  have HC := Lib.hid hc
  have HC2 := Lib.hid hc2
  clear hc hc2 h1 h2
  go_enter Try.func17, Try.ntmps17
  go_wp2_with fail
  go_loopw [13] (fun ii wr => ∃ i : Nat, i ≤ l.length ∧ ii = .int .i64 i ∧ Below w.heap.size w wr) (fun ii _ => l.length - (intOf ii).toNat)
  case atStart => exact ⟨0, by omega, rfl, Below.refl _ _⟩
  case round =>
    obtain ⟨i, hi, rfl, hbel⟩ := hrel
    by_cases hlt : i < l.length
    · obtain ⟨b, off, rfl, hb, hc⟩ := HC.out (by omega)
      obtain ⟨b2, off2, rfl, hb2, hc2⟩ := HC2.out (by omega)
      have c0 := hc i hlt 0 _ rfl
      have c1 := hc i hlt 1 _ rfl
      have c2 := hc i hlt 2 _ rfl
      have e0 := hc2 i hlt 0 _ rfl
      have e1 := hc2 i hlt 1 _ rfl
      have e2 := hc2 i hlt 2 _ rfl
      clear hc hc2
      generalize l[i] = x at *
      obtain ⟨xt, xi, xr⟩ := x
      rw [Nat.add_zero] at c0 e0
      dsimp only at c0 c1 c2 e0 e1 e2
      go_wp2_with fail
      obtain ⟨wd, hwd⟩ : ∃ wd, wd = wr.drew := ⟨_, rfl⟩
      have hbd := hbel.drew
      rw [← hwd] at hbd
      refine region_walkN (Ext wd) (by rw [← hwd]; exact Ext.refl _) (by kernel_rfl) (by kernel_rfl) (fun _ _ d _ _ h => by cases d <;> exact h) ?_
      rw [← hwd]
      clear hwd hbel
      have g0 : ∀ W, Ext wd W → W.cell? ⟨b, off + i * 3, none⟩ = some (.string xt) := fun W h => ((Below.cell (hbd.trans (h.mono hbd.size)) (p := ⟨b, off + i * 3, none⟩) hb)).trans c0
      have g1 : ∀ W, Ext wd W → W.cell? ⟨b, off + i * 3 + 1, none⟩ = some (.string xi) := fun W h => ((Below.cell (hbd.trans (h.mono hbd.size)) (p := ⟨b, off + i * 3 + 1, none⟩) hb)).trans c1
      have g2 : ∀ W, Ext wd W → W.cell? ⟨b, off + i * 3 + 2, none⟩ = some (.string xr) := fun W h => ((Below.cell (hbd.trans (h.mono hbd.size)) (p := ⟨b, off + i * 3 + 2, none⟩) hb)).trans c2
      have k0 : ∀ W, Ext wd W → W.cell? ⟨b2, off2 + i * 3, none⟩ = some (.string xt) := fun W h => ((Below.cell (hbd.trans (h.mono hbd.size)) (p := ⟨b2, off2 + i * 3, none⟩) hb2)).trans e0
      have k1 : ∀ W, Ext wd W → W.cell? ⟨b2, off2 + i * 3 + 1, none⟩ = some (.string xi) := fun W h => ((Below.cell (hbd.trans (h.mono hbd.size)) (p := ⟨b2, off2 + i * 3 + 1, none⟩) hb2)).trans e1
      have k2 : ∀ W, Ext wd W → W.cell? ⟨b2, off2 + i * 3 + 2, none⟩ = some (.string xr) := fun W h => ((Below.cell (hbd.trans (h.mono hbd.size)) (p := ⟨b2, off2 + i * 3 + 2, none⟩) hb2)).trans e2
      ((refine WalkN.take 0 _ ?_ (by simp only [List.getElem?_toArray, List.getElem?_cons_zero]; rfl) (by kernel_rfl) (by kernel_rfl) (by rfl) (fun W hW => ?_) ?_; rotate_left; · (go_simp; try with_reducible rfl)); simp only [Act.put, List.setIfInBounds_toArray, List.set_cons_zero, List.set_cons_succ]); ((refine WalkN.take 1 _ ?_ (by simp only [List.getElem?_toArray, List.getElem?_cons_succ, List.getElem?_cons_zero]; rfl) (by kernel_rfl) (by kernel_rfl) (by rfl) (fun W hW => ?_) ?_; rotate_left; · (go_simp; try with_reducible rfl)); simp only [Act.put, List.setIfInBounds_toArray, List.set_cons_zero, List.set_cons_succ]); ((refine WalkN.take 2 _ ?_ (by simp only [List.getElem?_toArray, List.getElem?_cons_succ, List.getElem?_cons_zero]; rfl) (by kernel_rfl) (by kernel_rfl) (by rfl) (fun W hW => ?_) ?_; rotate_left; · (go_simp; try with_reducible rfl)); simp only [Act.put, List.setIfInBounds_toArray, List.set_cons_zero, List.set_cons_succ]); ((refine WalkN.take 3 _ ?_ (by simp only [List.getElem?_toArray, List.getElem?_cons_succ, List.getElem?_cons_zero]; rfl) (by kernel_rfl) (by kernel_rfl) (by rfl) (fun W hW => ?_) ?_; rotate_left; · (go_simp; try with_reducible rfl)); simp only [Act.put, List.setIfInBounds_toArray, List.set_cons_zero, List.set_cons_succ]); ((refine WalkN.take 4 _ ?_ (by simp only [List.getElem?_toArray, List.getElem?_cons_succ, List.getElem?_cons_zero]; rfl) (by kernel_rfl) (by kernel_rfl) (by rfl) (fun W hW => ?_) ?_; rotate_left; · (go_simp; try with_reducible rfl)); simp only [Act.put, List.setIfInBounds_toArray, List.set_cons_zero, List.set_cons_succ]); ((refine WalkN.take 5 _ ?_ (by simp only [List.getElem?_toArray, List.getElem?_cons_succ, List.getElem?_cons_zero]; rfl) (by kernel_rfl) (by kernel_rfl) (by rfl) (fun W hW => ?_) ?_; rotate_left; · (go_simp; try with_reducible rfl)); simp only [Act.put, List.setIfInBounds_toArray, List.set_cons_zero, List.set_cons_succ]); ((refine WalkN.take 6 _ ?_ (by simp only [List.getElem?_toArray, List.getElem?_cons_succ, List.getElem?_cons_zero]; rfl) (by kernel_rfl) (by kernel_rfl) (by rfl) (fun W hW => ?_) ?_; rotate_left; · (go_simp; try with_reducible rfl)); simp only [Act.put, List.setIfInBounds_toArray, List.set_cons_zero, List.set_cons_succ]); ((refine WalkN.take 7 _ ?_ (by simp only [List.getElem?_toArray, List.getElem?_cons_succ, List.getElem?_cons_zero]; rfl) (by kernel_rfl) (by kernel_rfl) (by rfl) (fun W hW => ?_) ?_; rotate_left; · (go_simp; try with_reducible rfl)); simp only [Act.put, List.setIfInBounds_toArray, List.set_cons_zero, List.set_cons_succ]); ((refine WalkN.take 8 _ ?_ (by simp only [List.getElem?_toArray, List.getElem?_cons_succ, List.getElem?_cons_zero]; rfl) (by kernel_rfl) (by kernel_rfl) (by rfl) (fun W hW => ?_) ?_; rotate_left; · (go_simp; try with_reducible rfl)); simp only [Act.put, List.setIfInBounds_toArray, List.set_cons_zero, List.set_cons_succ])
      refine WalkN.done (by kernel_rfl) ?_
      clear c0 c1 c2 e0 e1 e2 g0 g1 g2 k0 k1 k2
      go_wp2_with fail
      go_roundw
      case rel => exact ⟨i + 1, by omega, by go_num, hbd⟩
      case measure => simp [intOf]; omega
    · obtain rfl : i = l.length := by omega
      go_wp2_with fail
      go_ret
      exact ⟨rfl, hbel⟩

set_option maxRecDepth 100000 in
set_option maxHeartbeats 2000000 in
theorem sameP_any (v1 v2 : Value) (l : List P3) (w : World) (h1 : Sl (· < w.heap.size) w 3 v1 (pcs l)) (h2 : Sl (· < w.heap.size) w 3 v2 (pcs l)) : Calls Try.prog 19 #[v1, v2] w fun e w' => e = .returned (.bool true) ∧ Below w.heap.size w w' := by
  obtain ⟨ao, c, rfl, hlc, hcm, hc⟩ := Sl.rows pC_length (by decide) (show Sl _ w 3 v1 (List.flatMap pC l) from h1)
  obtain ⟨ao2, c2, rfl, hlc2, hcm2, hc2⟩ := Sl.rows pC_length (by decide) (show Sl _ w 3 v2 (List.flatMap pC l) from h2)
  have HC := Lib.hid hc
  have HC2 := Lib.hid hc2
  clear hc hc2 h1 h2
  go_enter Try.func19, Try.ntmps19
  go_wp2_with fail
  go_loopw [13] (fun ii wr => ∃ i : Nat, i ≤ l.length ∧ ii = .int .i64 i ∧ Below w.heap.size w wr) (fun ii _ => l.length - (intOf ii).toNat)
  case atStart => exact ⟨0, by omega, rfl, Below.refl _ _⟩
  case round =>
    obtain ⟨i, hi, rfl, hbel⟩ := hrel
    by_cases hlt : i < l.length
    · obtain ⟨b, off, rfl, hb, hc⟩ := HC.out (by omega)
      obtain ⟨b2, off2, rfl, hb2, hc2⟩ := HC2.out (by omega)
      have c0 := hc i hlt 0 _ rfl
      have c1 := hc i hlt 1 _ rfl
      have c2 := hc i hlt 2 _ rfl
      have e0 := hc2 i hlt 0 _ rfl
      have e1 := hc2 i hlt 1 _ rfl
      have e2 := hc2 i hlt 2 _ rfl
      clear hc hc2
      generalize l[i] = x at *
      obtain ⟨xt, xi, xr⟩ := x
      rw [Nat.add_zero] at c0 e0
      dsimp only at c0 c1 c2 e0 e1 e2
      go_wp2_with fail
      obtain ⟨wd, hwd⟩ : ∃ wd, wd = wr.drew := ⟨_, rfl⟩
      have hbd := hbel.drew
      rw [← hwd] at hbd
      refine region_walkN (Ext wd) (by rw [← hwd]; exact Ext.refl _) (by kernel_rfl) (by kernel_rfl) (fun _ _ d _ _ h => by cases d <;> exact h) ?_
      rw [← hwd]
      clear hwd hbel
      have g0 : ∀ W, Ext wd W → W.cell? ⟨b, off + i * 3, none⟩ = some (.string xt) := fun W h => ((Below.cell (hbd.trans (h.mono hbd.size)) (p := ⟨b, off + i * 3, none⟩) hb)).trans c0
      have g1 : ∀ W, Ext wd W → W.cell? ⟨b, off + i * 3 + 1, none⟩ = some (.string xi) := fun W h => ((Below.cell (hbd.trans (h.mono hbd.size)) (p := ⟨b, off + i * 3 + 1, none⟩) hb)).trans c1
      have g2 : ∀ W, Ext wd W → W.cell? ⟨b, off + i * 3 + 2, none⟩ = some (.string xr) := fun W h => ((Below.cell (hbd.trans (h.mono hbd.size)) (p := ⟨b, off + i * 3 + 2, none⟩) hb)).trans c2
      have k0 : ∀ W, Ext wd W → W.cell? ⟨b2, off2 + i * 3, none⟩ = some (.string xt) := fun W h => ((Below.cell (hbd.trans (h.mono hbd.size)) (p := ⟨b2, off2 + i * 3, none⟩) hb2)).trans e0
      have k1 : ∀ W, Ext wd W → W.cell? ⟨b2, off2 + i * 3 + 1, none⟩ = some (.string xi) := fun W h => ((Below.cell (hbd.trans (h.mono hbd.size)) (p := ⟨b2, off2 + i * 3 + 1, none⟩) hb2)).trans e1
      have k2 : ∀ W, Ext wd W → W.cell? ⟨b2, off2 + i * 3 + 2, none⟩ = some (.string xr) := fun W h => ((Below.cell (hbd.trans (h.mono hbd.size)) (p := ⟨b2, off2 + i * 3 + 2, none⟩) hb2)).trans e2
      ((refine WalkN.take 0 _ ?_ (by simp only [List.getElem?_toArray, List.getElem?_cons_zero]; rfl) (by kernel_rfl) (by kernel_rfl) (by rfl) (fun W hW => ?_) ?_; rotate_left; · (go_simp; try with_reducible rfl)); simp only [Act.put, List.setIfInBounds_toArray, List.set_cons_zero, List.set_cons_succ]); ((refine WalkN.take 1 _ ?_ (by simp only [List.getElem?_toArray, List.getElem?_cons_succ, List.getElem?_cons_zero]; rfl) (by kernel_rfl) (by kernel_rfl) (by rfl) (fun W hW => ?_) ?_; rotate_left; · (go_simp; try with_reducible rfl)); simp only [Act.put, List.setIfInBounds_toArray, List.set_cons_zero, List.set_cons_succ]); ((refine WalkN.take 2 _ ?_ (by simp only [List.getElem?_toArray, List.getElem?_cons_succ, List.getElem?_cons_zero]; rfl) (by kernel_rfl) (by kernel_rfl) (by rfl) (fun W hW => ?_) ?_; rotate_left; · (go_simp; try with_reducible rfl)); simp only [Act.put, List.setIfInBounds_toArray, List.set_cons_zero, List.set_cons_succ]); ((refine WalkN.take 3 _ ?_ (by simp only [List.getElem?_toArray, List.getElem?_cons_succ, List.getElem?_cons_zero]; rfl) (by kernel_rfl) (by kernel_rfl) (by rfl) (fun W hW => ?_) ?_; rotate_left; · (go_simp; try with_reducible rfl)); simp only [Act.put, List.setIfInBounds_toArray, List.set_cons_zero, List.set_cons_succ]); ((refine WalkN.take 4 _ ?_ (by simp only [List.getElem?_toArray, List.getElem?_cons_succ, List.getElem?_cons_zero]; rfl) (by kernel_rfl) (by kernel_rfl) (by rfl) (fun W hW => ?_) ?_; rotate_left; · (go_simp; try with_reducible rfl)); simp only [Act.put, List.setIfInBounds_toArray, List.set_cons_zero, List.set_cons_succ]); ((refine WalkN.take 5 _ ?_ (by simp only [List.getElem?_toArray, List.getElem?_cons_succ, List.getElem?_cons_zero]; rfl) (by kernel_rfl) (by kernel_rfl) (by rfl) (fun W hW => ?_) ?_; rotate_left; · (go_simp; try with_reducible rfl)); simp only [Act.put, List.setIfInBounds_toArray, List.set_cons_zero, List.set_cons_succ]); ((refine WalkN.take 6 _ ?_ (by simp only [List.getElem?_toArray, List.getElem?_cons_succ, List.getElem?_cons_zero]; rfl) (by kernel_rfl) (by kernel_rfl) (by rfl) (fun W hW => ?_) ?_; rotate_left; · (go_simp; try with_reducible rfl)); simp only [Act.put, List.setIfInBounds_toArray, List.set_cons_zero, List.set_cons_succ]); ((refine WalkN.take 7 _ ?_ (by simp only [List.getElem?_toArray, List.getElem?_cons_succ, List.getElem?_cons_zero]; rfl) (by kernel_rfl) (by kernel_rfl) (by rfl) (fun W hW => ?_) ?_; rotate_left; · (go_simp; try with_reducible rfl)); simp only [Act.put, List.setIfInBounds_toArray, List.set_cons_zero, List.set_cons_succ]); ((refine WalkN.take 8 _ ?_ (by simp only [List.getElem?_toArray, List.getElem?_cons_succ, List.getElem?_cons_zero]; rfl) (by kernel_rfl) (by kernel_rfl) (by rfl) (fun W hW => ?_) ?_; rotate_left; · (go_simp; try with_reducible rfl)); simp only [Act.put, List.setIfInBounds_toArray, List.set_cons_zero, List.set_cons_succ])
      refine WalkN.done (by kernel_rfl) ?_
      clear c0 c1 c2 e0 e1 e2 g0 g1 g2 k0 k1 k2
      go_wp2_with fail
      go_roundw
      case rel => exact ⟨i + 1, by omega, by go_num, hbd⟩
      case measure => simp [intOf]; omega
    · obtain rfl : i = l.length := by omega
      go_wp2_with fail
      go_ret
      exact ⟨rfl, hbel⟩

end Go.Proofs.Ytcbgemnmehoeaaa
