/- The walks of RulesCheck and RulesWrite. No condition: lemmas. -/
import Derived.Test.YtfhonficpccegaaZ31
import Derived.Test.YtfhonficpccegaaZ32
import Derived.Test.YtfhonficpccegaaZ7
namespace Go.Proofs.Ytfhonficpccegaa
open Go Go.RowKit Go.Maps

set_option maxRecDepth 100000 in
set_option maxHeartbeats 1000000 in
theorem checkLaw_any (ts : List TyS) (tv : Value) (w : World) (h : TysAt (· < w.heap.size) w ts tv) (hsz : schBk ts ≤ 1048576) (hok : ∀ t ∈ ts, t.Ok) : Calls Try.prog 3 #[.agg #[tv]] w fun e w' => e = .returned (.bool true) ∧ Below w.heap.size w w' := by
  have hx1 := Ext.alloc w (.cells #[tv] 24)
  have HS1 := Lib.hid (Blk.made w #[tv] 24)
  have HX := Lib.hid hx1
  have HT := Lib.hid h
  have HOK := Lib.hid hok
  have HSZ := Lib.hid hsz
  obtain ⟨ao, c, rfl, -, -, -⟩ := h.rows
  have HF := Lib.hid (fixed06_any (w.alloc (.cells #[.slice ao ts.length c] 24)))
  clear h hok hsz hx1
  generalize ts.length = tl at *
  go_enter Try.func3, Try.ntmps3
  go_wp2_with fail
  refine HF.out.mono ?_
  rintro e w1 ⟨rfl, hb1⟩
  have HB1 := Lib.hid (show Ext w w1 from HX.out.trans hb1)
  have HS1 := Lib.hid (HS1.out.below hb1)
  have HT1 := Lib.hid (HT.out.up HB1.out)
  have HFE := Lib.hid (few05_any ts _ w1 HT1.out HOK.out)
  have hs1 := HS1.out.cells
  clear hb1 HF HT HX
  cases hfe : fewT ts 200 with
  | false =>
    rw [hfe] at HFE
    go_wp2_with fail
    refine HFE.out.mono ?_
    rintro e w2 ⟨rfl, hb2⟩
    have HB2 := Lib.hid (HB1.out.trans hb2)
    clear hb2
    go_wp2_with fail
    go_ret
    exact ⟨rfl, HB2.out⟩
  | true =>
    rw [hfe] at HFE
    go_wp2_with fail
    refine HFE.out.mono ?_
    rintro e w2 ⟨rfl, hb2⟩
    have HB2 := Lib.hid (HB1.out.trans hb2)
    have HS2 := Lib.hid (HS1.out.below hb2)
    have HT2 := Lib.hid (HT1.out.up hb2)
    clear hb2 hs1 hfe HFE
    go_wp2_with fail
    have hra : ∀ W, Ext w2 W → W.cell? ⟨w.heap.size, 0, none⟩ = some (.slice ao tl c) := fun W h => by rw [(HS2.out.below h).cells]; rfl
    have hE : Ext w2 w2.drew := Ext.drew w2
    refine region_walk [(0, true), (2, true), (1, false), (3, false), (4, true), (5, true)] (by kernel_rfl) (by kernel_rfl) (by kernel_rfl) rfl (fun _ _ d _ _ h => by cases d <;> exact h) ?_
    iterate 2 ((refine Walk.take _ ?_ (by simp only [List.getElem?_toArray, List.getElem?_cons_succ, List.getElem?_cons_zero]; rfl) (by rfl) (fun W hW => ?_) ?_; rotate_left; · (have hE0 := hE.trans hW; go_simp; try with_reducible rfl)); simp only [Act.put, List.setIfInBounds_toArray, List.set_cons_zero, List.set_cons_succ])
    refine Walk.make _ (by simp only [List.getElem?_toArray, List.getElem?_cons_succ, List.getElem?_cons_zero]; rfl) (by rfl) (fun K hK => ?_); go_simp
    refine (checkP_any ts _ _ (HT2.out.up hE) HOK.out (by have := schB_bk ts; have := HSZ.out; omega) (sz_sch HSZ.out) (by have := (names_bk ts).1; have := HSZ.out; omega) (by have := (names_bk ts).2; have := HSZ.out; omega)).mono ?_
    rintro e w3 ⟨rfl, hb3⟩
    refine hK.out _ _ hb3 ?_
    have hE := hE.trans hb3
    clear hK
    refine Walk.make _ (by simp only [List.getElem?_toArray, List.getElem?_cons_succ, List.getElem?_cons_zero]; rfl) (by rfl) (fun K hK => ?_); go_simp
    refine (check06_any ts _ _ (HT2.out.up hE) HOK.out (by have := schW_bk ts; have := HSZ.out; omega)).mono ?_
    rintro e w4 ⟨rfl, hb4⟩
    refine hK.out _ _ hb4 ?_
    have hE := hE.trans hb4
    clear hK
    iterate 2 ((refine Walk.take _ ?_ (by simp only [List.getElem?_toArray, List.getElem?_cons_succ, List.getElem?_cons_zero]; rfl) (by rfl) (fun W hW => ?_) ?_; rotate_left; · (have hE0 := hE.trans hW; go_simp; try with_reducible rfl)); simp only [Act.put, List.setIfInBounds_toArray, List.set_cons_zero, List.set_cons_succ])
    unfold Walk
    have HE := Lib.hid hE
    clear hE hra
    go_wp2_with fail
    go_ret
    exact ⟨rfl, HB2.out.trans HE.out⟩

theorem chk_uniq {ts : List TyS} (h : chk06 ts = 0) : uniqOk ts = true := by
  unfold chk06 at h
  split at h
  · split at h
    · split at h
      · assumption
      · cases h
    · cases h
  · cases h
/-- A tuple's parts. -/
def prts (t : Tup) : List ByteArray := [t.o.t, t.o.i, t.o.r, t.s.t, t.s.i, t.s.r]

set_option maxRecDepth 100000 in
set_option maxHeartbeats 2000000 in
theorem writeLaw_any (ts : List TyS) (tv : Value) (t : Tup) (w : World) (h : TysAt (· < w.heap.size) w ts tv) (hsz : schBk ts ≤ 1048576) (hok : ∀ t ∈ ts, t.Ok) (ht : t.Ok) : Calls Try.prog 5 #[.agg #[tv], tV t] w fun e w' => e = .returned (.bool true) ∧ Below w.heap.size w w' := by
  obtain ⟨⟨ot, oi, or_⟩, ⟨st, si, sr⟩⟩ := t
  have HTO := Lib.hid ht
  have HT := Lib.hid h
  have HOK := Lib.hid hok
  have HSZ := Lib.hid hsz
  obtain ⟨ao, c, rfl, -, -, -⟩ := h.rows
  generalize ts.length = tl at *
  obtain ⟨wa, hwa⟩ : ∃ x, x = w.alloc (.cells #[.slice ao tl c] 24) := ⟨_, rfl⟩
  obtain ⟨wb, hwb⟩ : ∃ x, x = wa.alloc (.cells #[.string ot, .string oi, .string or_, .string st, .string si, .string sr] 37) := ⟨_, rfl⟩
  have e1 : wa.heap.size = w.heap.size + 1 := by rw [hwa]; simp
  have x01 : Ext w wa := by rw [hwa]; exact Ext.alloc _ _
  have x12 : Ext wa wb := by rw [hwb]; exact Ext.alloc _ _
  have HSA := Lib.hid (show Blk wb w.heap.size #[.slice ao tl c] 24 from Blk.below (by rw [hwa]; exact Blk.made _ _ _) x12)
  have HTA := Lib.hid (show Blk wb (w.heap.size + 1) #[.string ot, .string oi, .string or_, .string st, .string si, .string sr] 37 from by rw [hwb, ← e1]; exact Blk.made _ _ _)
  have HX := Lib.hid (x01.trans x12)
  have HF := Lib.hid (fixed06_any wb)
  subst hwb hwa
  clear h hok hsz ht e1 x01 x12
  unfold tV
  dsimp only
  go_enter Try.func5, Try.ntmps5
  go_wp2_with fail
  refine HF.out.mono ?_
  rintro e w1 ⟨rfl, hb1⟩
  have HB1 := Lib.hid (show Ext w w1 from HX.out.trans hb1)
  have HS1 := Lib.hid (HSA.out.below hb1)
  have HP1 := Lib.hid (HTA.out.below hb1)
  have HT1 := Lib.hid (HT.out.up HB1.out)
  have HFE := Lib.hid (few05_any ts _ w1 HT1.out HOK.out)
  have hs1 := HS1.out.cells
  clear hb1 HF HT HX HSA HTA
  cases hfe : fewT ts 200 with
  | false =>
    rw [hfe] at HFE
    go_wp2_with fail
    refine HFE.out.mono ?_
    rintro e w2 ⟨rfl, hb2⟩
    have HB2 := Lib.hid (HB1.out.trans hb2)
    clear hb2
    go_wp2_with fail
    go_ret
    exact ⟨rfl, HB2.out⟩
  | true =>
    rw [hfe] at HFE
    go_wp2_with fail
    refine HFE.out.mono ?_
    rintro e w2 ⟨rfl, hb2⟩
    have HB2 := Lib.hid (HB1.out.trans hb2)
    have HS2 := Lib.hid (HS1.out.below hb2)
    have HP2 := Lib.hid (HP1.out.below hb2)
    have HT2 := Lib.hid (HT1.out.up hb2)
    have hs2 := HS2.out.cells
    have HCH := Lib.hid (check06_any ts _ _ HT2.out HOK.out (by have := schW_bk ts; have := HSZ.out; omega))
    clear hb2 hs1 hfe HFE HB1 HS1 HP1 HT1
    by_cases hck : chk06 ts = 0
    · have HU := Lib.hid (chk_uniq hck)
      rw [hck] at HCH
      clear hck
      go_wp2_with fail
      refine HCH.out.mono ?_
      rintro e w3 ⟨rfl, hb3⟩
      have HB3 := Lib.hid (HB2.out.trans hb3)
      have HS3 := Lib.hid (HS2.out.below hb3)
      have HP3 := Lib.hid (HP2.out.below hb3)
      have HT3 := Lib.hid (HT2.out.up hb3)
      have hp3 := HP3.out.cells
      have HPA := Lib.hid (parts_any ⟨⟨ot, oi, or_⟩, ⟨st, si, sr⟩⟩ w3)
      unfold tV at HPA
      dsimp only at HPA
      clear hb3 hs2 HCH HB2 HS2 HP2 HT2
      go_wp2_with fail
      refine HPA.out.mono ?_
      rintro e w4 ⟨rfl, hpb, hb4⟩
      have HB4 := Lib.hid (HB3.out.trans hb4)
      have HS4 := Lib.hid (HS3.out.below hb4)
      have HP4 := Lib.hid (HP3.out.below hb4)
      have HT4 := Lib.hid (HT3.out.up hb4)
      have HPR := Lib.hid (show ∀ i (hi : i < 6), w4.cell? ⟨w3.heap.size + 1, i, none⟩ = some (.string ((prts ⟨⟨ot, oi, or_⟩, ⟨st, si, sr⟩⟩)[i]'hi)) from fun i hi => by
        rw [hpb.cells]
        match i, hi with
        | 0, _ => rfl
        | 1, _ => rfl
        | 2, _ => rfl
        | 3, _ => rfl
        | 4, _ => rfl
        | 5, _ => rfl)
      clear hb4 hpb hp3 HPA HB3 HS3 HP3 HT3
      generalize w3.heap.size + 1 = bp at *
      go_wp2_with fail
      go_loopw [20] (fun ii wr => ∃ i : Nat, i ≤ 6 ∧ ii = .int .i64 i ∧ wr = w4) (fun ii _ => 6 - (intOf ii).toNat)
      case atStart => exact ⟨0, by omega, rfl, rfl⟩
      case round =>
        obtain ⟨i, hi, rfl, rfl⟩ := hrel
        by_cases hlt : i < 6
        · have hcl := HPR.out i hlt
          have hlt' : (i : Int) < 6 := by omega
          generalize (prts ⟨⟨ot, oi, or_⟩, ⟨st, si, sr⟩⟩)[i]'hlt = q at *
          by_cases hq : (200 : Int) < (q.size : Int)
          · go_wp2_with fail
            go_ret
            exact ⟨rfl, HB4.out⟩
          · go_wp2_with fail
            go_roundw
            case rel => exact ⟨i + 1, by omega, by go_num, trivial⟩
            case measure => simp [intOf]; omega
        · obtain rfl : i = 6 := by omega
          go_wp2_with fail
          have hra : ∀ W, Ext wr W → W.cell? ⟨w.heap.size, 0, none⟩ = some (.slice ao tl c) := fun W h => by rw [(HS4.out.below h).cells]; rfl
          have hrp : ∀ W, Ext wr W → ∀ i, W.cell? ⟨w.heap.size + 1, i, none⟩ = (#[Value.string ot, .string oi, .string or_, .string st, .string si, .string sr] : Array Value)[i]? := fun W h => (HP4.out.below h).cells
          have hE : Ext wr wr.drew := Ext.drew wr
          refine region_walk [(0, true), (1, true), (3, true), (4, true), (2, false), (5, false), (6, true), (7, true)] (by kernel_rfl) (by kernel_rfl) (by kernel_rfl) rfl (fun _ _ d _ _ h => by cases d <;> exact h) ?_
          iterate 4 ((refine Walk.take _ ?_ (by simp only [List.getElem?_toArray, List.getElem?_cons_succ, List.getElem?_cons_zero]; rfl) (by rfl) (fun W hW => ?_) ?_; rotate_left; · (have hE0 := hE.trans hW; go_simp; try with_reducible rfl)); simp only [Act.put, List.setIfInBounds_toArray, List.set_cons_zero, List.set_cons_succ])
          refine Walk.make _ (by simp only [List.getElem?_toArray, List.getElem?_cons_succ, List.getElem?_cons_zero]; rfl) (by rfl) (fun K hK => ?_); go_simp
          refine (writesP_any ts _ ⟨⟨ot, oi, or_⟩, ⟨st, si, sr⟩⟩ _ (HT4.out.up hE) HOK.out HU.out (by have := (names_bk ts).2; have := HSZ.out; omega) HTO.out).mono ?_
          rintro e w5 ⟨rfl, hb5⟩
          refine hK.out _ _ hb5 ?_
          have hE := hE.trans hb5
          clear hK
          iterate 0 ((refine Walk.take _ ?_ (by simp only [List.getElem?_toArray, List.getElem?_cons_succ, List.getElem?_cons_zero]; rfl) (by rfl) (fun W hW => ?_) ?_; rotate_left; · (have hE0 := hE.trans hW; go_simp; try with_reducible rfl)); simp only [Act.put, List.setIfInBounds_toArray, List.set_cons_zero, List.set_cons_succ])
          refine Walk.make _ (by simp only [List.getElem?_toArray, List.getElem?_cons_succ, List.getElem?_cons_zero]; rfl) (by rfl) (fun K hK => ?_); go_simp
          refine (writes06_any ts _ ⟨⟨ot, oi, or_⟩, ⟨st, si, sr⟩⟩ _ (HT4.out.up hE) HU.out HTO.out).mono ?_
          rintro e w6 ⟨rfl, hb6⟩
          refine hK.out _ _ hb6 ?_
          have hE := hE.trans hb6
          clear hK
          iterate 2 ((refine Walk.take _ ?_ (by simp only [List.getElem?_toArray, List.getElem?_cons_succ, List.getElem?_cons_zero]; rfl) (by rfl) (fun W hW => ?_) ?_; rotate_left; · (have hE0 := hE.trans hW; go_simp; try with_reducible rfl)); simp only [Act.put, List.setIfInBounds_toArray, List.set_cons_zero, List.set_cons_succ])
          unfold Walk
          have HE := Lib.hid hE
          clear hE hra hrp
          go_wp2_with fail
          go_ret
          exact ⟨rfl, HB4.out.trans HE.out⟩
    · have hne : (chk06 ts != 0) = true := by rw [bne_iff_ne]; exact hck
      clear hck
      generalize chk06 ts = ck at *
      go_wp2_with fail
      refine HCH.out.mono ?_
      rintro e w3 ⟨rfl, hb3⟩
      have HB3 := Lib.hid (HB2.out.trans hb3)
      clear hb3
      go_wp2_with fail
      go_ret
      exact ⟨rfl, HB3.out⟩

end Go.Proofs.Ytfhonficpccegaa
