/- The walk of the document's SameRefs at equal rows. The walk of RulesBarren. No condition: lemmas. -/
import Derived.Test.YtfhonficpccegaaZ5
import Derived.Test.YtfhonficpccegaaZ36
import Derived.Test.YtfhonficpccegaaZ33
namespace Go.Proofs.Ytfhonficpccegaa
open Go Go.RowKit

set_option maxRecDepth 100000 in
set_option maxHeartbeats 2000000 in
theorem sameR_any (v1 v2 : Value) (l : List R2) (w : World) (h1 : Sl (· < w.heap.size) w 2 v1 (r2cs l)) (h2 : Sl (· < w.heap.size) w 2 v2 (r2cs l)) : Calls Try.prog 12 #[v1, v2] w fun e w' => e = .returned (.bool true) ∧ Below w.heap.size w w' := by
  obtain ⟨ao, c, rfl, hlc, hcm, hc⟩ := refs_rows h1
  obtain ⟨ao2, c2, rfl, hlc2, hcm2, hc2⟩ := refs_rows h2
  have HC := Lib.hid hc
  have HC2 := Lib.hid hc2
  clear hc hc2 h1 h2
  go_enter Try.func12, Try.ntmps12
  go_wp2_with fail
  go_loopw [13] (fun ii wr => ∃ i : Nat, i ≤ l.length ∧ ii = .int .i64 i ∧ Below w.heap.size w wr) (fun ii _ => l.length - (intOf ii).toNat)
  case atStart => exact ⟨0, by omega, rfl, Below.refl _ _⟩
  case round =>
    obtain ⟨i, hi, rfl, hbel⟩ := hrel
    by_cases hlt : i < l.length
    · obtain ⟨b, off, rfl, hb, c0, c1⟩ := HC.out i hlt
      obtain ⟨b2, off2, rfl, hb2, e0, e1⟩ := HC2.out i hlt
      generalize l[i] = x at *
      obtain ⟨xt, xr⟩ := x
      dsimp only at c0 c1 e0 e1
      go_wp2_with fail
      obtain ⟨wd, hwd⟩ : ∃ wd, wd = wr.drew := ⟨_, rfl⟩
      have hbd := hbel.drew
      rw [← hwd] at hbd
      refine region_walkN (Ext wd) (by rw [← hwd]; exact Ext.refl _) (by kernel_rfl) (by kernel_rfl) (fun _ _ d _ _ h => by cases d <;> exact h) ?_
      rw [← hwd]
      clear hwd hbel
      have g0 : ∀ W, Ext wd W → W.cell? ⟨b, off + i * 2, none⟩ = some (.string xt) := fun W h => ((Below.cell (hbd.trans (h.mono hbd.size)) (p := ⟨b, off + i * 2, none⟩) hb)).trans c0
      have g1 : ∀ W, Ext wd W → W.cell? ⟨b, off + i * 2 + 1, none⟩ = some (.string xr) := fun W h => ((Below.cell (hbd.trans (h.mono hbd.size)) (p := ⟨b, off + i * 2 + 1, none⟩) hb)).trans c1
      have k0 : ∀ W, Ext wd W → W.cell? ⟨b2, off2 + i * 2, none⟩ = some (.string xt) := fun W h => ((Below.cell (hbd.trans (h.mono hbd.size)) (p := ⟨b2, off2 + i * 2, none⟩) hb2)).trans e0
      have k1 : ∀ W, Ext wd W → W.cell? ⟨b2, off2 + i * 2 + 1, none⟩ = some (.string xr) := fun W h => ((Below.cell (hbd.trans (h.mono hbd.size)) (p := ⟨b2, off2 + i * 2 + 1, none⟩) hb2)).trans e1
      ((refine WalkN.take 0 _ ?_ (by simp only [List.getElem?_toArray, List.getElem?_cons_zero]; rfl) (by kernel_rfl) (by kernel_rfl) (by rfl) (fun W hW => ?_) ?_; rotate_left; · (go_simp; try with_reducible rfl)); simp only [Act.put, List.setIfInBounds_toArray, List.set_cons_zero, List.set_cons_succ]); ((refine WalkN.take 1 _ ?_ (by simp only [List.getElem?_toArray, List.getElem?_cons_succ, List.getElem?_cons_zero]; rfl) (by kernel_rfl) (by kernel_rfl) (by rfl) (fun W hW => ?_) ?_; rotate_left; · (go_simp; try with_reducible rfl)); simp only [Act.put, List.setIfInBounds_toArray, List.set_cons_zero, List.set_cons_succ]); ((refine WalkN.take 2 _ ?_ (by simp only [List.getElem?_toArray, List.getElem?_cons_succ, List.getElem?_cons_zero]; rfl) (by kernel_rfl) (by kernel_rfl) (by rfl) (fun W hW => ?_) ?_; rotate_left; · (go_simp; try with_reducible rfl)); simp only [Act.put, List.setIfInBounds_toArray, List.set_cons_zero, List.set_cons_succ]); ((refine WalkN.take 3 _ ?_ (by simp only [List.getElem?_toArray, List.getElem?_cons_succ, List.getElem?_cons_zero]; rfl) (by kernel_rfl) (by kernel_rfl) (by rfl) (fun W hW => ?_) ?_; rotate_left; · (go_simp; try with_reducible rfl)); simp only [Act.put, List.setIfInBounds_toArray, List.set_cons_zero, List.set_cons_succ]); ((refine WalkN.take 4 _ ?_ (by simp only [List.getElem?_toArray, List.getElem?_cons_succ, List.getElem?_cons_zero]; rfl) (by kernel_rfl) (by kernel_rfl) (by rfl) (fun W hW => ?_) ?_; rotate_left; · (go_simp; try with_reducible rfl)); simp only [Act.put, List.setIfInBounds_toArray, List.set_cons_zero, List.set_cons_succ]); ((refine WalkN.take 5 _ ?_ (by simp only [List.getElem?_toArray, List.getElem?_cons_succ, List.getElem?_cons_zero]; rfl) (by kernel_rfl) (by kernel_rfl) (by rfl) (fun W hW => ?_) ?_; rotate_left; · (go_simp; try with_reducible rfl)); simp only [Act.put, List.setIfInBounds_toArray, List.set_cons_zero, List.set_cons_succ]); ((refine WalkN.take 6 _ ?_ (by simp only [List.getElem?_toArray, List.getElem?_cons_succ, List.getElem?_cons_zero]; rfl) (by kernel_rfl) (by kernel_rfl) (by rfl) (fun W hW => ?_) ?_; rotate_left; · (go_simp; try with_reducible rfl)); simp only [Act.put, List.setIfInBounds_toArray, List.set_cons_zero, List.set_cons_succ]); ((refine WalkN.take 7 _ ?_ (by simp only [List.getElem?_toArray, List.getElem?_cons_succ, List.getElem?_cons_zero]; rfl) (by kernel_rfl) (by kernel_rfl) (by rfl) (fun W hW => ?_) ?_; rotate_left; · (go_simp; try with_reducible rfl)); simp only [Act.put, List.setIfInBounds_toArray, List.set_cons_zero, List.set_cons_succ]); ((refine WalkN.take 8 _ ?_ (by simp only [List.getElem?_toArray, List.getElem?_cons_succ, List.getElem?_cons_zero]; rfl) (by kernel_rfl) (by kernel_rfl) (by rfl) (fun W hW => ?_) ?_; rotate_left; · (go_simp; try with_reducible rfl)); simp only [Act.put, List.setIfInBounds_toArray, List.set_cons_zero, List.set_cons_succ])
      refine WalkN.done (by kernel_rfl) ?_
      clear c0 c1 e0 e1 g0 g1 k0 k1
      go_wp2_with fail
      go_roundw
      case rel => exact ⟨i + 1, by omega, by go_num, hbd⟩
      case measure => simp [intOf]; omega
    · obtain rfl : i = l.length := by omega
      go_wp2_with fail
      go_ret
      exact ⟨rfl, hbel⟩

end Go.Proofs.Ytfhonficpccegaa
namespace Go.Proofs.Ytfhonficpccegaa
open Go Go.RowKit Go.Maps

theorem chk_long {ts : List TyS} (h : chk06 ts = 0) : longOk ts = true := by
  unfold chk06 at h
  split at h
  · split at h
    · assumption
    · cases h
  · cases h
theorem long_small {ts : List TyS} (h : longOk ts = true) : ts.length ≤ 16 ∧ ∀ t ∈ ts, t.rels.length ≤ 16 ∧ ∀ r ∈ t.rels, r.2.sz ≤ 32 := by
  unfold longOk at h
  rw [Bool.and_eq_true, decide_eq_true_eq, List.all_eq_true] at h
  refine ⟨h.1, fun t ht => ?_⟩
  have h2 := h.2 t ht
  unfold tyLong at h2
  rw [Bool.and_eq_true, decide_eq_true_eq, List.all_eq_true] at h2
  exact ⟨h2.1, fun r hr => by simpa using h2.2 r hr⟩
theorem long_refs {ts : List TyS} (h : longOk ts = true) : (refsOf ts).length ≤ 256 := by
  obtain ⟨h1, h2⟩ := long_small h
  have := flat_le (fun t : TyS => relsOf t.name t.rels) 16 ts fun t ht => by unfold relsOf; rw [List.length_map]; exact (h2 t ht).1
  unfold refsOf
  omega
theorem barren_eq {ts : List TyS} {S T ss st : List R2} (h1 : LeastP ts S) (c1 : ClosedP ts S) (u1 : UpR ss) (m1 : ∀ x, x ∈ ss ↔ x ∈ (refsOf ts).map (·.1) ∧ ¬ x ∈ S) (h2 : LeastP ts T) (c2 : ClosedP ts T) (u2 : UpR st) (m2 : ∀ x, x ∈ st ↔ x ∈ (refsOf ts).map (·.1) ∧ ¬ x ∈ T) : ss = st :=
  u1.eq u2 fun x => by
    rw [m1, m2]
    have : x ∈ S ↔ x ∈ T := ⟨h1.least T c2 x, h2.least S c1 x⟩
    rw [this]

set_option maxRecDepth 100000 in
set_option maxHeartbeats 2000000 in
theorem barrenLaw_any (ts : List TyS) (tv : Value) (w : World) (h : TysAt (· < w.heap.size) w ts tv) (hsz : schBk ts ≤ 1048576) (hok : ∀ t ∈ ts, t.Ok) : Calls Try.prog 4 #[.agg #[tv]] w fun e w' => e = .returned (.bool true) ∧ Below w.heap.size w w' := by
  have hx1 := Ext.alloc w (.cells #[tv] 24)
  have HS1 := Lib.hid (Blk.made w #[tv] 24)
  have HX := Lib.hid hx1
  have HT := Lib.hid h
  have HOK := Lib.hid hok
  have HSZ := Lib.hid hsz
  obtain ⟨ao, c, rfl, -, -, -⟩ := h.rows
  have HF := Lib.hid (fixed06_any (w.alloc (.cells #[.slice ao ts.length c] 24)))
  clear h hok hsz hx1
  generalize ts.length = tl at *
  go_enter Try.func4, Try.ntmps4
  go_wp2_with fail
  refine HF.out.mono ?_
  rintro e w1 ⟨rfl, hb1⟩
  have HB1 := Lib.hid (show Ext w w1 from HX.out.trans hb1)
  have HS1 := Lib.hid (HS1.out.below hb1)
  have HT1 := Lib.hid (HT.out.up HB1.out)
  have HFE := Lib.hid (few05_any ts _ w1 HT1.out HOK.out)
  have hs1 := HS1.out.cells
  clear hb1 HF HT HX
  cases hfe : fewT ts 200 with
  | false =>
    rw [hfe] at HFE
    go_wp2_with fail
    refine HFE.out.mono ?_
    rintro e w2 ⟨rfl, hb2⟩
    have HB2 := Lib.hid (HB1.out.trans hb2)
    clear hb2
    go_wp2_with fail
    go_ret
    exact ⟨rfl, HB2.out⟩
  | true =>
    rw [hfe] at HFE
    go_wp2_with fail
    refine HFE.out.mono ?_
    rintro e w2 ⟨rfl, hb2⟩
    have HB2 := Lib.hid (HB1.out.trans hb2)
    have HS2 := Lib.hid (HS1.out.below hb2)
    have HT2 := Lib.hid (HT1.out.up hb2)
    have hs2 := HS2.out.cells
    have HCH := Lib.hid (check06_any ts _ _ HT2.out HOK.out (by have := schW_bk ts; have := HSZ.out; omega))
    clear hb2 hs1 hfe HFE HB1 HS1 HT1
    by_cases hck : chk06 ts = 0
    · have HU := Lib.hid (chk_uniq hck)
      have HLG := Lib.hid (chk_long hck)
      rw [hck] at HCH
      clear hck
      go_wp2_with fail
      refine HCH.out.mono ?_
      rintro e w3 ⟨rfl, hb3⟩
      have HB3 := Lib.hid (HB2.out.trans hb3)
      have HS3 := Lib.hid (HS2.out.below hb3)
      have HT3 := Lib.hid (HT2.out.up hb3)
      clear hb3 hs2 HCH HB2 HS2 HT2
      go_wp2_with fail
      have hra : ∀ W, Ext w3 W → W.cell? ⟨w.heap.size, 0, none⟩ = some (.slice ao tl c) := fun W h => by rw [(HS3.out.below h).cells]; rfl
      have hE : Ext w3 w3.drew := Ext.drew w3
      refine region_walk [(0, true), (2, true), (1, false), (3, false), (4, false), (5, true)] (by kernel_rfl) (by kernel_rfl) (by kernel_rfl) rfl (fun _ _ d _ _ h => by cases d <;> exact h) ?_
      iterate 2 ((refine Walk.take _ ?_ (by simp only [List.getElem?_toArray, List.getElem?_cons_succ, List.getElem?_cons_zero]; rfl) (by rfl) (fun W hW => ?_) ?_; rotate_left; · (have hE0 := hE.trans hW; go_simp; try with_reducible rfl)); simp only [Act.put, List.setIfInBounds_toArray, List.set_cons_zero, List.set_cons_succ])
      refine Walk.make _ (by simp only [List.getElem?_toArray, List.getElem?_cons_succ, List.getElem?_cons_zero]; rfl) (by rfl) (fun K hK => ?_); go_simp
      refine (barrenP_any ts _ _ (HT3.out.up hE) HOK.out HU.out (by have := long_refs HLG.out; omega)).mono ?_
      rintro e w4 ⟨v4, ss, S, rfl, hl4, hc4, hu4, hm4, ho4, hb4⟩
      obtain ⟨a4, n4, c4, rfl, -, -, -⟩ := ho4.sl.len
      refine hK.out _ _ hb4 ?_
      have hE := hE.trans hb4
      clear hK
      iterate 0 ((refine Walk.take _ ?_ (by simp only [List.getElem?_toArray, List.getElem?_cons_succ, List.getElem?_cons_zero]; rfl) (by rfl) (fun W hW => ?_) ?_; rotate_left; · (have hE0 := hE.trans hW; go_simp; try with_reducible rfl)); simp only [Act.put, List.setIfInBounds_toArray, List.set_cons_zero, List.set_cons_succ])
      refine Walk.make _ (by simp only [List.getElem?_toArray, List.getElem?_cons_succ, List.getElem?_cons_zero]; rfl) (by rfl) (fun K hK => ?_); go_simp
      refine (barren06_any ts _ _ (HT3.out.up hE) HU.out (by have := long_refs HLG.out; omega) (by have := (long_small HLG.out).1; omega) (fun t ht => ⟨by have := ((long_small HLG.out).2 t ht).1; omega, fun r hr => by have := ((long_small HLG.out).2 t ht).2 r hr; omega⟩)).mono ?_
      rintro e w5 ⟨v5, st, T, rfl, hl5, hc5, hu5, hm5, hs5, hb5⟩
      obtain rfl : ss = st := barren_eq hl4 hc4 hu4 hm4 hl5 hc5 hu5 hm5
      obtain ⟨a5, n5, c5, rfl, -, -, -⟩ := hs5.len
      refine hK.out _ _ hb5 ?_
      have hE := hE.trans hb5
      have hs4 := ((ho4.sl.mono (T := (· < w4.heap.size)) fun b hb => hb.2).same (Same.below hb5)).mono (T := (· < w5.heap.size)) fun b hb => Nat.lt_of_lt_of_le hb hb5.size
      clear hK
      iterate 0 ((refine Walk.take _ ?_ (by simp only [List.getElem?_toArray, List.getElem?_cons_succ, List.getElem?_cons_zero]; rfl) (by rfl) (fun W hW => ?_) ?_; rotate_left; · (have hE0 := hE.trans hW; go_simp; try with_reducible rfl)); simp only [Act.put, List.setIfInBounds_toArray, List.set_cons_zero, List.set_cons_succ])
      refine Walk.make _ (by simp only [List.getElem?_toArray, List.getElem?_cons_succ, List.getElem?_cons_zero]; rfl) (by rfl) (fun K hK => ?_); go_simp
      refine (sameR_any _ _ ss _ hs4 hs5).mono ?_
      rintro e w6 ⟨rfl, hb6⟩
      refine hK.out _ _ hb6 ?_
      have hE := hE.trans hb6
      clear hK
      iterate 1 ((refine Walk.take _ ?_ (by simp only [List.getElem?_toArray, List.getElem?_cons_succ, List.getElem?_cons_zero]; rfl) (by rfl) (fun W hW => ?_) ?_; rotate_left; · (have hE0 := hE.trans hW; go_simp; try with_reducible rfl)); simp only [Act.put, List.setIfInBounds_toArray, List.set_cons_zero, List.set_cons_succ])
      unfold Walk
      have HE := Lib.hid hE
      clear hE hra hl4 hc4 hu4 hm4 ho4 hb4 hl5 hc5 hu5 hm5 hs5 hb5 hs4 hb6
      go_wp2_with fail
      go_ret
      exact ⟨rfl, HB3.out.trans HE.out⟩
    · have hne : (chk06 ts != 0) = true := by rw [bne_iff_ne]; exact hck
      clear hck
      generalize chk06 ts = ck at *
      go_wp2_with fail
      refine HCH.out.mono ?_
      rintro e w3 ⟨rfl, hb3⟩
      have HB3 := Lib.hid (HB2.out.trans hb3)
      clear hb3
      go_wp2_with fail
      go_ret
      exact ⟨rfl, HB3.out⟩

end Go.Proofs.Ytfhonficpccegaa
