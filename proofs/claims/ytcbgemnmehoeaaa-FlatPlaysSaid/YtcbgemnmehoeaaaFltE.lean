/- The walk of FlatPlays. No condition: lemmas. -/
import Derived.Test.YtcbgemnmehoeaaaFltD
import Derived.Test.YtcbgemnmehoeaaaFlatX
namespace Go.Proofs.Ytcbgemnmehoeaaa
open Go Go.RowKit Go.Maps

theorem aftS_mem (l : List Act31) : ∀ i, ∀ t ∈ (aftS (l.take i)).1, ∃ a ∈ l, a.2 = t := by
  intro i
  induction i with
  | zero => simp [aftS]
  | succ i ih =>
    rcases Nat.lt_or_ge i l.length with h | h
    · rw [aftS_take h]
      dsimp only
      intro t ht
      unfold actT at ht
      split at ht
      · exact ih t (List.mem_of_mem_erase ht)
      · unfold addL at ht
        split at ht
        · rcases List.mem_append.1 ht with ht | ht
          · exact ih t ht
          · obtain rfl := List.mem_singleton.1 ht
            exact ⟨l[i], List.getElem_mem h, rfl⟩
        · exact ih t ht
    · rw [List.take_of_length_le (by omega)]
      rwa [List.take_of_length_le h] at ih
theorem acs_take (l : List Act31) (k : Nat) : (l.flatMap aC).take (k * 7) = (l.take k).flatMap aC := by
  induction k generalizing l with
  | zero => simp
  | succ k ih =>
    cases l with
    | nil => simp
    | cons a l =>
      rw [List.take_succ_cons, List.flatMap_cons, List.flatMap_cons, ← ih l]
      rw [show (k + 1) * 7 = 7 + k * 7 from by omega, List.take_append, List.take_of_length_le (by rw [aC_length]; omega), aC_length, Nat.add_sub_cancel_left]

set_option maxRecDepth 100000 in
set_option maxHeartbeats 1500000 in
theorem playsLaw_any (v : Value) (l : List Act31) (w : World) (h : Sl (· < w.heap.size) w 7 v (l.flatMap aC)) (hok : ∀ a ∈ l, a.2.Ok) : Calls Try.prog 4 #[v] w fun e w' => e = .returned (.bool true) ∧ Below w.heap.size w w' := by
  have HFI := Lib.hid (fixed_any w)
  have HSL := Lib.hid h
  obtain ⟨ao, c, rfl, hlc, hcm, hcell⟩ := acts_rows h
  have HC := Lib.hid hcell
  have HOK := Lib.hid hok
  clear hcell h hok
  go_enter Try.func4, Try.ntmps4
  go_wp2_with fail
  refine HFI.out.mono ?_
  rintro e w1 ⟨rfl, hb1⟩
  have HFW := Lib.hid (few_any _ l w1 (HSL.out.up hb1))
  have HB1 := Lib.hid hb1
  clear hb1 HFI
  go_wp2_with fail
  refine HFW.out.mono ?_
  rintro e w2 ⟨rfl, hb2⟩
  have HB2 := Lib.hid (HB1.out.trans (hb2.mono HB1.out.size))
  clear hb2 HFW HB1
  rcases hfw : fewA l with _ | _
  · clear hfw
    go_wp2_with fail
    go_ret
    exact ⟨rfl, HB2.out⟩
  have HL := Lib.hid (fewA_len hfw)
  clear hfw
  go_wp2_with fail
  refine (new_any w2).mono ?_
  rintro e w3 ⟨B, f0, rfl, hT0, hG0, hb3, hf3⟩
  have HN0 := Lib.hid (show FlatN w.heap.size w w3 B f0 from ⟨hG0, fun x hx => by have := HB2.out.size; have := hf3 x hx; omega, HB2.out.trans (hb3.mono HB2.out.size)⟩)
  have HT0 := Lib.hid hT0
  clear hG0 hb3 hf3 hT0 HB2
  go_wp2_with fail
  go_loopw [23] (fun ii wr => ∃ (i : Nat) (f : FlS), i ≤ l.length ∧ ii = .int .i64 i ∧ FlatN w.heap.size w wr B f ∧ f.T = (aftS (l.take i)).1) (fun ii _ => l.length - (intOf ii).toNat)
  case atStart => exact ⟨0, f0, by omega, rfl, HN0.out, by rw [HT0.out]; rfl⟩
  case round =>
    obtain ⟨i, f, hi, rfl, hN, hT⟩ := hrel
    have HT := Lib.hid hT
    clear hT HN0 HT0
    by_cases hlt : i < l.length
    · obtain ⟨b, off, rfl, hb, c0, c1, c2, c3, c4, c5, c6⟩ := HC.out i hlt
      have d0 := (hN.below.cell (p := ⟨b, off + i * 7, none⟩) hb).trans c0
      have d1 := (hN.below.cell (p := ⟨b, off + i * 7 + 1, none⟩) hb).trans c1
      have d2 := (hN.below.cell (p := ⟨b, off + i * 7 + 2, none⟩) hb).trans c2
      have d3 := (hN.below.cell (p := ⟨b, off + i * 7 + 3, none⟩) hb).trans c3
      have d4 := (hN.below.cell (p := ⟨b, off + i * 7 + 4, none⟩) hb).trans c4
      have d5 := (hN.below.cell (p := ⟨b, off + i * 7 + 5, none⟩) hb).trans c5
      have d6 := (hN.below.cell (p := ⟨b, off + i * 7 + 6, none⟩) hb).trans c6
      have hok := HOK.out _ (List.getElem_mem hlt)
      have HTK := Lib.hid (aftS_take hlt)
      have HSI := Lib.hid (show ∀ W : World, Below w.heap.size w W → Sl (· < W.heap.size) W 7 (.slice (some ⟨b, off, none⟩) (i + 1) c) ((l.take (i + 1)).flatMap aC) from fun W hW => by
        have := (HSL.out.up hW).take (i + 1) (by omega)
        rwa [acs_take] at this)
      clear c0 c1 c2 c3 c4 c5 c6 hb
      generalize l[i] = a at *
      obtain ⟨ad, ⟨⟨ot, oi, or_⟩, ⟨st, si, sr⟩⟩⟩ := a
      dsimp only at *
      have hN1 := hN.up (Nat.le_refl _) ((Below.refl _ _).alloc (Nat.le_refl _) (.cells #[.bool ad, .string ot, .string oi, .string or_, .string st, .string si, .string sr] 34))
      have hB1 := Blk.made wr #[.bool ad, .string ot, .string oi, .string or_, .string st, .string si, .string sr] 34
      have hbk := hB1.cells
      have HNF := Lib.hid (show wr.heap.size < (wr.alloc (.cells #[.bool ad, .string ot, .string oi, .string or_, .string st, .string si, .string sr] 34)).heap.size ∧ wr.heap.size ∉ footB B f from ⟨by simp, hN1.g.at_.notFootBlk hB1 (by decide)⟩)
      have HA := Lib.hid (add_any (wr.alloc (.cells #[.bool ad, .string ot, .string oi, .string or_, .string st, .string si, .string sr] 34)) B f ⟨⟨ot, oi, or_⟩, ⟨st, si, sr⟩⟩ hN1.g hok (by have h1 := aftS_length l i; rw [← HT.out] at h1; have := HL.out; omega))
      have HD := Lib.hid (drop_any (wr.alloc (.cells #[.bool ad, .string ot, .string oi, .string or_, .string st, .string si, .string sr] 34)) B f ⟨⟨ot, oi, or_⟩, ⟨st, si, sr⟩⟩ hN1.g hok)
      unfold tV at HA HD
      dsimp only at HA HD
      have HN1 := Lib.hid hN1
      have HB1 := Lib.hid hB1
      have HTO := Lib.hid (TK.of_ok hok)
      have hll := HL.out
      have hwi : wrap64 ((i : Int) + 1) = ((i + 1 : Nat) : Int) := by unfold wrap64; omega
      obtain ⟨i1, hi1⟩ : ∃ i1, i1 = i + 1 := ⟨_, rfl⟩
      rw [← hi1] at hwi HTK HSI
      have hi1l : i1 ≤ l.length := by omega
      have hi1c : (i1 : Int) ≤ c := by omega
      have hi10 : (0 : Int) ≤ i1 := by omega
      have hi1L : (i1 : Int) ≤ l.length := by omega
      have hwj : IntKind.i64.wrap ((i : Int) + 1) = (i1 : Int) := by rw [IntWalk.i64_in _ (by omega)]; omega
      have HI1 := Lib.hid hi1
      clear hN1 hN hok hB1 hll hi1
      cases ad
      case' true =>
        go_wp2_with fail
        refine HD.out.mono ?_
        rintro e w5 ⟨rfl, f', hG', hT', hk', hf'⟩
        rw [show dropN f.T ⟨⟨ot, oi, or_⟩, ⟨st, si, sr⟩⟩ = (aftS (l.take i1)).2 from by rw [HTK.out, HT.out]; rfl]
        have HT2 := Lib.hid (show f'.T = (aftS (l.take i1)).1 from by rw [hT', HT.out, HTK.out]; rfl)
      case' false =>
        go_wp2_with fail
        refine HA.out.mono ?_
        rintro e w5 ⟨rfl, f', hG', hT', hk', hf'⟩
        rw [show addN f.T ⟨⟨ot, oi, or_⟩, ⟨st, si, sr⟩⟩ = (aftS (l.take i1)).2 from by rw [HTK.out, HT.out]; rfl]
        have HT2 := Lib.hid (show f'.T = (aftS (l.take i1)).1 from by rw [hT', HT.out, HTK.out]; rfl)
      all_goals
        have hN2 := HN1.out.step (Nat.le_refl _) hG' hk' hf'
        have HN2 := Lib.hid hN2
        have HB2 := Lib.hid (hk'.blk HB1.out HNF.out)
        have hbk2 := HB2.out.cells
        have HAF := Lib.hid (after_any (.slice (some ⟨b, off, none⟩) i1 c) (l.take i1) w5 (HSI.out w5 hN2.below) (fun a ha => HOK.out a (List.mem_of_mem_take ha)) (by rw [List.length_take]; have := HL.out; omega))
        have HT40 := Lib.hid (show (aftS (l.take i1)).1.length ≤ 40 from by have h1 := aftS_length l i1; have := HL.out; omega)
        clear HA HD hG' hT' hk' hf' hbk d0 d1 d2 d3 d4 d5 d6 HNF HB1 HTK hN2 HN1 HSI
        generalize hss : aftS (l.take i1) = s at *
        have HSS := Lib.hid hss
        clear hss
        obtain ⟨T, sn⟩ := s
        dsimp only at *
        go_wp2_with fail
        refine HAF.out.mono ?_
        rintro e w6 ⟨v', rfl, ho6, hb6⟩
        obtain ⟨ho, hc, rfl, hhc, hhm, -⟩ := tups_rows ho6.sl
        have hN6 := HN2.out.up (Nat.le_refl _) hb6
        have hB6 := HB2.out.below hb6
        have hbk6 := hB6.cells
        have HN6 := Lib.hid hN6
        have HB6 := Lib.hid hB6
        have HO6 := Lib.hid ho6
        clear HAF ho6 hb6 hN6 hB6 hbk2 HN2 HB2
        go_wp2_with fail
        have hE1 : Ext w6 (w6.alloc (.cells #[.string ot, .string oi, .string or_] 37)) := Ext.alloc _ _
        have hP2 := Blk.made w6 #[.string ot, .string oi, .string or_] 37
        obtain ⟨wd, hwd⟩ : ∃ wd, wd = (w6.alloc (.cells #[.string ot, .string oi, .string or_] 37)).drew := ⟨_, rfl⟩
        have hEd : Ext w6 wd := by rw [hwd]; exact hE1.trans (Ext.drew _)
        have hPd : Blk wd w6.heap.size #[.string ot, .string oi, .string or_] 37 := by rw [hwd]; exact hP2.drew
        refine region_walkN (Ext wd) (by rw [← hwd]; exact Ext.refl _) (by kernel_rfl) (by kernel_rfl) (fun _ _ d _ _ h => by cases d <;> exact h) ?_
        rw [← hwd]
        clear hwd hE1 hP2 hbk6
        have HNd := Lib.hid (HN6.out.up (Nat.le_refl _) hEd)
        have HOd := Lib.hid (HO6.out.below hEd)
        have h2 : ∀ W, Ext wd W → ∀ i, W.cell? ⟨w6.heap.size, i, none⟩ = (#[.string ot, .string oi, .string or_] : Array Value)[i]? := fun W h => (hPd.below h).cells
        have HLN := Lib.hid (len_any wd B f' HNd.out.g.at_)
        rw [HT2.out] at HLN
        ((refine WalkN.take 0 _ ?_ (by simp only [List.getElem?_toArray, List.getElem?_cons_zero]; rfl) (by kernel_rfl) (by kernel_rfl) (by rfl) (fun W hW => ?_) ?_; rotate_left; · (go_simp; try with_reducible rfl)); simp only [Act.put, List.setIfInBounds_toArray, List.set_cons_zero, List.set_cons_succ]); ((refine WalkN.take 1 _ ?_ (by simp only [List.getElem?_toArray, List.getElem?_cons_succ, List.getElem?_cons_zero]; rfl) (by kernel_rfl) (by kernel_rfl) (by rfl) (fun W hW => ?_) ?_; rotate_left; · (go_simp; try with_reducible rfl)); simp only [Act.put, List.setIfInBounds_toArray, List.set_cons_zero, List.set_cons_succ]); ((refine WalkN.take 2 _ ?_ (by simp only [List.getElem?_toArray, List.getElem?_cons_succ, List.getElem?_cons_zero]; rfl) (by kernel_rfl) (by kernel_rfl) (by rfl) (fun W hW => ?_) ?_; rotate_left; · (go_simp; try with_reducible rfl)); simp only [Act.put, List.setIfInBounds_toArray, List.set_cons_zero, List.set_cons_succ]); ((refine WalkN.take 3 _ ?_ (by simp only [List.getElem?_toArray, List.getElem?_cons_succ, List.getElem?_cons_zero]; rfl) (by kernel_rfl) (by kernel_rfl) (by rfl) (fun W hW => ?_) ?_; rotate_left; · (go_simp; try with_reducible rfl)); simp only [Act.put, List.setIfInBounds_toArray, List.set_cons_zero, List.set_cons_succ]); ((refine WalkN.take 4 _ ?_ (by simp only [List.getElem?_toArray, List.getElem?_cons_succ, List.getElem?_cons_zero]; rfl) (by kernel_rfl) (by kernel_rfl) (by rfl) (fun W hW => ?_) ?_; rotate_left; · (go_simp; try with_reducible rfl)); simp only [Act.put, List.setIfInBounds_toArray, List.set_cons_zero, List.set_cons_succ]); ((refine WalkN.take 6 _ ?_ (by simp only [List.getElem?_toArray, List.getElem?_cons_succ, List.getElem?_cons_zero]; rfl) (by kernel_rfl) (by kernel_rfl) (by rfl) (fun W hW => ?_) ?_; rotate_left; · (go_simp; try with_reducible rfl)); simp only [Act.put, List.setIfInBounds_toArray, List.set_cons_zero, List.set_cons_succ]); ((refine WalkN.take 7 _ ?_ (by simp only [List.getElem?_toArray, List.getElem?_cons_succ, List.getElem?_cons_zero]; rfl) (by kernel_rfl) (by kernel_rfl) (by rfl) (fun W hW => ?_) ?_; rotate_left; · (go_simp; try with_reducible rfl)); simp only [Act.put, List.setIfInBounds_toArray, List.set_cons_zero, List.set_cons_succ])
        refine WalkN.one 5 (by kernel_rfl) ?_
        refine ⟨_, (by simp only [List.getElem?_toArray, List.getElem?_cons_succ, List.getElem?_cons_zero]; rfl), by rfl, fun K hK => ?_⟩
        go_simp
        refine HLN.out.mono ?_
        rintro e w7 ⟨rfl, h7⟩
        have h8 := h7.symm
        subst h8
        clear h7
        refine hK.out _ _ (Ext.refl _) ?_
        clear hK HLN
        have HM := Lib.hid (members_any wd B f' ⟨ot, oi, or_⟩ HNd.out.g HTO.out.o)
        unfold pV at HM
        dsimp only at HM
        ((refine WalkN.take 8 _ ?_ (by simp only [List.getElem?_toArray, List.getElem?_cons_succ, List.getElem?_cons_zero]; rfl) (by kernel_rfl) (by kernel_rfl) (by rfl) (fun W hW => ?_) ?_; rotate_left; · (go_simp; try with_reducible rfl)); simp only [Act.put, List.setIfInBounds_toArray, List.set_cons_zero, List.set_cons_succ]); ((refine WalkN.take 9 _ ?_ (by simp only [List.getElem?_toArray, List.getElem?_cons_succ, List.getElem?_cons_zero]; rfl) (by kernel_rfl) (by kernel_rfl) (by rfl) (fun W hW => ?_) ?_; rotate_left; · (go_simp; try with_reducible rfl)); simp only [Act.put, List.setIfInBounds_toArray, List.set_cons_zero, List.set_cons_succ]); ((refine WalkN.take 10 _ ?_ (by simp only [List.getElem?_toArray, List.getElem?_cons_succ, List.getElem?_cons_zero]; rfl) (by kernel_rfl) (by kernel_rfl) (by rfl) (fun W hW => ?_) ?_; rotate_left; · (go_simp; try with_reducible rfl)); simp only [Act.put, List.setIfInBounds_toArray, List.set_cons_zero, List.set_cons_succ]); ((refine WalkN.take 11 _ ?_ (by simp only [List.getElem?_toArray, List.getElem?_cons_succ, List.getElem?_cons_zero]; rfl) (by kernel_rfl) (by kernel_rfl) (by rfl) (fun W hW => ?_) ?_; rotate_left; · (go_simp; try with_reducible rfl)); simp only [Act.put, List.setIfInBounds_toArray, List.set_cons_zero, List.set_cons_succ]); ((refine WalkN.take 12 _ ?_ (by simp only [List.getElem?_toArray, List.getElem?_cons_succ, List.getElem?_cons_zero]; rfl) (by kernel_rfl) (by kernel_rfl) (by rfl) (fun W hW => ?_) ?_; rotate_left; · (go_simp; try with_reducible rfl)); simp only [Act.put, List.setIfInBounds_toArray, List.set_cons_zero, List.set_cons_succ]); ((refine WalkN.take 14 _ ?_ (by simp only [List.getElem?_toArray, List.getElem?_cons_succ, List.getElem?_cons_zero]; rfl) (by kernel_rfl) (by kernel_rfl) (by rfl) (fun W hW => ?_) ?_; rotate_left; · (go_simp; try with_reducible rfl)); simp only [Act.put, List.setIfInBounds_toArray, List.set_cons_zero, List.set_cons_succ]); ((refine WalkN.take 15 _ ?_ (by simp only [List.getElem?_toArray, List.getElem?_cons_succ, List.getElem?_cons_zero]; rfl) (by kernel_rfl) (by kernel_rfl) (by rfl) (fun W hW => ?_) ?_; rotate_left; · (go_simp; try with_reducible rfl)); simp only [Act.put, List.setIfInBounds_toArray, List.set_cons_zero, List.set_cons_succ])
        refine WalkN.one 13 (by kernel_rfl) ?_
        refine ⟨_, (by simp only [List.getElem?_toArray, List.getElem?_cons_succ, List.getElem?_cons_zero]; rfl), by rfl, fun K hK => ?_⟩
        go_simp
        refine HM.out.mono ?_
        rintro e w8 ⟨va, sa, rfl, hpa, hua, hoa, hba⟩
        refine hK.out _ _ hba ?_
        clear hK HM
        have HR := Lib.hid (refMembers_any (.slice ho T.length hc) T ⟨ot, oi, or_⟩ w8 (HOd.out.below hba).slU (by have := HT40.out; omega))
        unfold pV at HR
        dsimp only at HR
        refine WalkN.one 16 (by kernel_rfl) ?_
        refine ⟨_, (by simp only [List.getElem?_toArray, List.getElem?_cons_succ, List.getElem?_cons_zero]; rfl), by rfl, fun K hK => ?_⟩
        go_simp
        refine HR.out.mono ?_
        rintro e w9 ⟨vb, sb, rfl, hub, hmb, hob, hbb⟩
        have hE9 : Ext wd w9 := Below.trans hba (hbb.mono (Ext.size hba))
        refine hK.out _ _ hE9 ?_
        clear hK HR
        obtain rfl : sa = sb := upP_unique hua hub fun x => by rw [hpa.mem_iff, hmb x, HNd.out.g.good.mem, HT2.out]
        have HS := Lib.hid (sameS_any va vb sa w9 (hoa.below hbb).slU hob.slU)
        refine WalkN.one 17 (by kernel_rfl) ?_
        refine ⟨_, (by simp only [List.getElem?_toArray, List.getElem?_cons_succ, List.getElem?_cons_zero]; rfl), by rfl, fun K hK => ?_⟩
        go_simp
        refine HS.out.mono ?_
        rintro e w10 ⟨rfl, hb10⟩
        have hE10 : Ext wd w10 := Below.trans hE9 (hb10.mono (Ext.size hE9))
        refine hK.out _ _ hE10 ?_
        clear hK HS
        ((refine WalkN.take 18 _ ?_ (by simp only [List.getElem?_toArray, List.getElem?_cons_succ, List.getElem?_cons_zero]; rfl) (by kernel_rfl) (by kernel_rfl) (by rfl) (fun W hW => ?_) ?_; rotate_left; · (go_simp; try with_reducible rfl)); simp only [Act.put, List.setIfInBounds_toArray, List.set_cons_zero, List.set_cons_succ]); ((refine WalkN.take 19 _ ?_ (by simp only [List.getElem?_toArray, List.getElem?_cons_succ, List.getElem?_cons_zero]; rfl) (by kernel_rfl) (by kernel_rfl) (by rfl) (fun W hW => ?_) ?_; rotate_left; · (go_simp; try with_reducible rfl)); simp only [Act.put, List.setIfInBounds_toArray, List.set_cons_zero, List.set_cons_succ])
        refine WalkN.done (by kernel_rfl) ?_
        have HN10 := Lib.hid (HNd.out.up (Nat.le_refl _) hE10)
        clear h2 hba hbb hb10 hE9 hE10 hoa hob hpa hua hub hmb hPd hEd
        go_wp2_with fail
        go_roundw
        case rel => exact ⟨i1, f', hi1l, by rw [HI1.out], HN10.out, by rw [HSS.out]; exact HT2.out⟩
        case measure => have := HI1.out; simp [intOf]; omega
    · obtain rfl : i = l.length := by omega
      rw [List.take_length] at HT
      have HAF := Lib.hid (after_any (.slice ao l.length c) l wr (HSL.out.up hN.below) HOK.out HL.out)
      have HT40 := Lib.hid (show (aftS l).1.length ≤ 40 from by have h1 := aftS_length l l.length; rw [List.take_length] at h1; have := HL.out; omega)
      have HTM := Lib.hid (show ∀ t ∈ (aftS l).1, t.Ok from fun t ht => by
        obtain ⟨a, ha, rfl⟩ := aftS_mem l l.length t (by rw [List.take_length]; exact ht)
        exact HOK.out a ha)
      have HN0 := Lib.hid hN
      clear hN hlt hi
      generalize aftS l = s at *
      obtain ⟨T, sn⟩ := s
      dsimp only at *
      go_wp2_with fail
      refine HAF.out.mono ?_
      rintro e w6 ⟨v', rfl, ho6, hb6⟩
      obtain ⟨ho, hc, rfl, hhc, hhm, hhcell⟩ := tups_rows ho6.sl
      have HO6 := Lib.hid ho6
      have HHC := Lib.hid hhcell
      have HN6 := Lib.hid (HN0.out.up (Nat.le_refl _) hb6)
      clear HAF ho6 hb6 HN0 hhcell
      go_wp2_with fail
      go_loopw [81] (fun kk wr => ∃ k : Nat, k ≤ T.length ∧ kk = .int .i64 k ∧ FlatN w.heap.size w wr B f ∧ Ext w6 wr) (fun kk _ => T.length - (intOf kk).toNat)
      case atStart => exact ⟨0, by omega, rfl, HN6.out, Ext.refl _⟩
      case round =>
        obtain ⟨k, hk, rfl, hN, hxt⟩ := hrel
        clear HN6
        by_cases hkl : k < T.length
        · obtain ⟨gb, go, rfl, hgb, c0, c1, c2, c3, c4, c5⟩ := HHC.out k hkl
          have k0 := Ext.cell hxt c0
          have k1 := Ext.cell hxt c1
          have k2 := Ext.cell hxt c2
          have k3 := Ext.cell hxt c3
          have k4 := Ext.cell hxt c4
          have k5 := Ext.cell hxt c5
          have hok := HTM.out _ (List.getElem_mem hkl)
          have HIN := Lib.hid (List.getElem_mem hkl)
          clear c0 c1 c2 c3 c4 c5 hgb
          generalize T[k] = x at *
          obtain ⟨⟨ot, oi, or_⟩, ⟨st, si, sr⟩⟩ := x
          dsimp only at k0 k1 k2 k3 k4 k5
          have hEt : Ext wr (wr.alloc (.cells #[.string ot, .string oi, .string or_, .string st, .string si, .string sr] 32)) := Ext.alloc _ _
          have hBt := Blk.made wr #[.string ot, .string oi, .string or_, .string st, .string si, .string sr] 32
          have hbt := hBt.cells
          have HN := Lib.hid hN
          have HTO := Lib.hid (TK.of_ok hok)
          have HOW := Lib.hid (HO6.out.below hxt)
          have HXT := Lib.hid hxt
          clear hN hok hxt
          go_wp2_with fail
          have hE2 : Ext wr ((wr.alloc (.cells #[.string ot, .string oi, .string or_, .string st, .string si, .string sr] 32)).alloc (.cells #[.string ot, .string oi, .string or_] 37)) := hEt.trans (Ext.alloc _ _)
          have hP2 := Blk.made' (w := wr.alloc (.cells #[.string ot, .string oi, .string or_, .string st, .string si, .string sr] 32)) (B := wr.heap.size + 1) (by simp) #[.string ot, .string oi, .string or_] 37
          have hA2 := hBt.alloc (.cells #[.string ot, .string oi, .string or_] 37)
          obtain ⟨wd, hwd⟩ : ∃ wd, wd = ((wr.alloc (.cells #[.string ot, .string oi, .string or_, .string st, .string si, .string sr] 32)).alloc (.cells #[.string ot, .string oi, .string or_] 37)).drew := ⟨_, rfl⟩
          have hEd : Ext wr wd := by rw [hwd]; exact hE2.trans (Ext.drew _)
          have hPd : Blk wd (wr.heap.size + 1) #[.string ot, .string oi, .string or_] 37 := by rw [hwd]; exact hP2.drew
          have hAd : Blk wd wr.heap.size #[.string ot, .string oi, .string or_, .string st, .string si, .string sr] 32 := by rw [hwd]; exact hA2.drew
          refine region_walkN (Ext wd) (by rw [← hwd]; exact Ext.refl _) (by kernel_rfl) (by kernel_rfl) (fun _ _ d _ _ h => by cases d <;> exact h) ?_
          rw [← hwd]
          clear hwd hE2 hP2 hA2 hEt hBt hbt k0 k1 k2 k3 k4 k5
          have HNd := Lib.hid (HN.out.up (Nat.le_refl _) hEd)
          have HOd := Lib.hid (HOW.out.below hEd)
          have HXd := Lib.hid (HXT.out.trans hEd)
          have h1 : ∀ W, Ext wd W → ∀ i, W.cell? ⟨wr.heap.size, i, none⟩ = (#[.string ot, .string oi, .string or_, .string st, .string si, .string sr] : Array Value)[i]? := fun W h => (hAd.below h).cells
          have h2 : ∀ W, Ext wd W → ∀ i, W.cell? ⟨wr.heap.size + 1, i, none⟩ = (#[.string ot, .string oi, .string or_] : Array Value)[i]? := fun W h => (hPd.below h).cells
          have hH := has_any wd B f ⟨ot, oi, or_⟩ ⟨st, si, sr⟩ HNd.out.g.at_ HTO.out.o HTO.out.s
          rw [show decide ((⟨st, si, sr⟩ : P3) ∈ inn f.M ⟨ot, oi, or_⟩) = true from by
            rw [decide_eq_true_eq, HNd.out.g.good.mem, HT.out]
            exact Der.base (t := ⟨⟨ot, oi, or_⟩, ⟨st, si, sr⟩⟩) HIN.out] at hH
          have HH := Lib.hid hH
          unfold pV at HH
          dsimp only at HH
          clear hH
          ((refine WalkN.take 0 _ ?_ (by simp only [List.getElem?_toArray, List.getElem?_cons_zero]; rfl) (by kernel_rfl) (by kernel_rfl) (by rfl) (fun W hW => ?_) ?_; rotate_left; · (go_simp; try with_reducible rfl)); simp only [Act.put, List.setIfInBounds_toArray, List.set_cons_zero, List.set_cons_succ]); ((refine WalkN.take 1 _ ?_ (by simp only [List.getElem?_toArray, List.getElem?_cons_succ, List.getElem?_cons_zero]; rfl) (by kernel_rfl) (by kernel_rfl) (by rfl) (fun W hW => ?_) ?_; rotate_left; · (go_simp; try with_reducible rfl)); simp only [Act.put, List.setIfInBounds_toArray, List.set_cons_zero, List.set_cons_succ]); ((refine WalkN.take 2 _ ?_ (by simp only [List.getElem?_toArray, List.getElem?_cons_succ, List.getElem?_cons_zero]; rfl) (by kernel_rfl) (by kernel_rfl) (by rfl) (fun W hW => ?_) ?_; rotate_left; · (go_simp; try with_reducible rfl)); simp only [Act.put, List.setIfInBounds_toArray, List.set_cons_zero, List.set_cons_succ]); ((refine WalkN.take 3 _ ?_ (by simp only [List.getElem?_toArray, List.getElem?_cons_succ, List.getElem?_cons_zero]; rfl) (by kernel_rfl) (by kernel_rfl) (by rfl) (fun W hW => ?_) ?_; rotate_left; · (go_simp; try with_reducible rfl)); simp only [Act.put, List.setIfInBounds_toArray, List.set_cons_zero, List.set_cons_succ])
          refine WalkN.one 4 (by kernel_rfl) ?_
          refine ⟨_, (by simp only [List.getElem?_toArray, List.getElem?_cons_succ, List.getElem?_cons_zero]; rfl), by rfl, fun K hK => ?_⟩
          go_simp
          refine HH.out.mono ?_
          rintro e w7 ⟨rfl, hb7⟩
          refine hK.out _ _ hb7 ?_
          clear hK HH
          have HM := Lib.hid (points_any w7 B f ⟨st, si, sr⟩ (HNd.out.up (Nat.le_refl _) hb7).g.at_ HTO.out.s ((HNd.out.up (Nat.le_refl _) hb7).g.points_few _))
          unfold pV at HM
          dsimp only at HM
          ((refine WalkN.take 5 _ ?_ (by simp only [List.getElem?_toArray, List.getElem?_cons_succ, List.getElem?_cons_zero]; rfl) (by kernel_rfl) (by kernel_rfl) (by rfl) (fun W hW => ?_) ?_; rotate_left; · (go_simp; try with_reducible rfl)); simp only [Act.put, List.setIfInBounds_toArray, List.set_cons_zero, List.set_cons_succ]); ((refine WalkN.take 6 _ ?_ (by simp only [List.getElem?_toArray, List.getElem?_cons_succ, List.getElem?_cons_zero]; rfl) (by kernel_rfl) (by kernel_rfl) (by rfl) (fun W hW => ?_) ?_; rotate_left; · (go_simp; try with_reducible rfl)); simp only [Act.put, List.setIfInBounds_toArray, List.set_cons_zero, List.set_cons_succ]); ((refine WalkN.take 7 _ ?_ (by simp only [List.getElem?_toArray, List.getElem?_cons_succ, List.getElem?_cons_zero]; rfl) (by kernel_rfl) (by kernel_rfl) (by rfl) (fun W hW => ?_) ?_; rotate_left; · (go_simp; try with_reducible rfl)); simp only [Act.put, List.setIfInBounds_toArray, List.set_cons_zero, List.set_cons_succ]); ((refine WalkN.take 8 _ ?_ (by simp only [List.getElem?_toArray, List.getElem?_cons_succ, List.getElem?_cons_zero]; rfl) (by kernel_rfl) (by kernel_rfl) (by rfl) (fun W hW => ?_) ?_; rotate_left; · (go_simp; try with_reducible rfl)); simp only [Act.put, List.setIfInBounds_toArray, List.set_cons_zero, List.set_cons_succ]); ((refine WalkN.take 9 _ ?_ (by simp only [List.getElem?_toArray, List.getElem?_cons_succ, List.getElem?_cons_zero]; rfl) (by kernel_rfl) (by kernel_rfl) (by rfl) (fun W hW => ?_) ?_; rotate_left; · (go_simp; try with_reducible rfl)); simp only [Act.put, List.setIfInBounds_toArray, List.set_cons_zero, List.set_cons_succ]); ((refine WalkN.take 11 _ ?_ (by simp only [List.getElem?_toArray, List.getElem?_cons_succ, List.getElem?_cons_zero]; rfl) (by kernel_rfl) (by kernel_rfl) (by rfl) (fun W hW => ?_) ?_; rotate_left; · (go_simp; try with_reducible rfl)); simp only [Act.put, List.setIfInBounds_toArray, List.set_cons_zero, List.set_cons_succ]); ((refine WalkN.take 12 _ ?_ (by simp only [List.getElem?_toArray, List.getElem?_cons_succ, List.getElem?_cons_zero]; rfl) (by kernel_rfl) (by kernel_rfl) (by rfl) (fun W hW => ?_) ?_; rotate_left; · (go_simp; try with_reducible rfl)); simp only [Act.put, List.setIfInBounds_toArray, List.set_cons_zero, List.set_cons_succ]); ((refine WalkN.take 13 _ ?_ (by simp only [List.getElem?_toArray, List.getElem?_cons_succ, List.getElem?_cons_zero]; rfl) (by kernel_rfl) (by kernel_rfl) (by rfl) (fun W hW => ?_) ?_; rotate_left; · (go_simp; try with_reducible rfl)); simp only [Act.put, List.setIfInBounds_toArray, List.set_cons_zero, List.set_cons_succ])
          refine WalkN.one 10 (by kernel_rfl) ?_
          refine ⟨_, (by simp only [List.getElem?_toArray, List.getElem?_cons_succ, List.getElem?_cons_zero]; rfl), by rfl, fun K hK => ?_⟩
          go_simp
          refine HM.out.mono ?_
          rintro e w8 ⟨va, sa, rfl, hpa, hua, hoa, hba⟩
          have hE8 : Ext wd w8 := Below.trans hb7 (hba.mono (Ext.size hb7))
          refine hK.out _ _ hE8 ?_
          clear hK HM
          have HR := Lib.hid (refPts_any (.slice (some ⟨gb, go, none⟩) T.length hc) T ⟨st, si, sr⟩ w8 (HOd.out.below hE8).slU (by have := HT40.out; omega))
          unfold pV at HR
          dsimp only at HR
          refine WalkN.one 14 (by kernel_rfl) ?_
          refine ⟨_, (by simp only [List.getElem?_toArray, List.getElem?_cons_succ, List.getElem?_cons_zero]; rfl), by rfl, fun K hK => ?_⟩
          go_simp
          refine HR.out.mono ?_
          rintro e w9 ⟨vb, sb, rfl, hub, hmb, hob, hbb⟩
          have hE9 : Ext wd w9 := Below.trans hE8 (hbb.mono (Ext.size hE8))
          refine hK.out _ _ hE9 ?_
          clear hK HR
          obtain rfl : sa = sb := upP_unique hua hub fun x => by rw [hpa x, hmb x, HNd.out.g.good.mem, HT.out]
          have HS := Lib.hid (sameP_any va vb sa w9 (hoa.below hbb).slU hob.slU)
          refine WalkN.one 15 (by kernel_rfl) ?_
          refine ⟨_, (by simp only [List.getElem?_toArray, List.getElem?_cons_succ, List.getElem?_cons_zero]; rfl), by rfl, fun K hK => ?_⟩
          go_simp
          refine HS.out.mono ?_
          rintro e w10 ⟨rfl, hb10⟩
          have hE10 : Ext wd w10 := Below.trans hE9 (hb10.mono (Ext.size hE9))
          refine hK.out _ _ hE10 ?_
          clear hK HS
          have HM := Lib.hid (members_any w10 B f ⟨ot, oi, or_⟩ (HNd.out.up (Nat.le_refl _) hE10).g HTO.out.o)
          unfold pV at HM
          dsimp only at HM
          ((refine WalkN.take 16 _ ?_ (by simp only [List.getElem?_toArray, List.getElem?_cons_succ, List.getElem?_cons_zero]; rfl) (by kernel_rfl) (by kernel_rfl) (by rfl) (fun W hW => ?_) ?_; rotate_left; · (go_simp; try with_reducible rfl)); simp only [Act.put, List.setIfInBounds_toArray, List.set_cons_zero, List.set_cons_succ]); ((refine WalkN.take 17 _ ?_ (by simp only [List.getElem?_toArray, List.getElem?_cons_succ, List.getElem?_cons_zero]; rfl) (by kernel_rfl) (by kernel_rfl) (by rfl) (fun W hW => ?_) ?_; rotate_left; · (go_simp; try with_reducible rfl)); simp only [Act.put, List.setIfInBounds_toArray, List.set_cons_zero, List.set_cons_succ]); ((refine WalkN.take 18 _ ?_ (by simp only [List.getElem?_toArray, List.getElem?_cons_succ, List.getElem?_cons_zero]; rfl) (by kernel_rfl) (by kernel_rfl) (by rfl) (fun W hW => ?_) ?_; rotate_left; · (go_simp; try with_reducible rfl)); simp only [Act.put, List.setIfInBounds_toArray, List.set_cons_zero, List.set_cons_succ]); ((refine WalkN.take 19 _ ?_ (by simp only [List.getElem?_toArray, List.getElem?_cons_succ, List.getElem?_cons_zero]; rfl) (by kernel_rfl) (by kernel_rfl) (by rfl) (fun W hW => ?_) ?_; rotate_left; · (go_simp; try with_reducible rfl)); simp only [Act.put, List.setIfInBounds_toArray, List.set_cons_zero, List.set_cons_succ]); ((refine WalkN.take 20 _ ?_ (by simp only [List.getElem?_toArray, List.getElem?_cons_succ, List.getElem?_cons_zero]; rfl) (by kernel_rfl) (by kernel_rfl) (by rfl) (fun W hW => ?_) ?_; rotate_left; · (go_simp; try with_reducible rfl)); simp only [Act.put, List.setIfInBounds_toArray, List.set_cons_zero, List.set_cons_succ]); ((refine WalkN.take 22 _ ?_ (by simp only [List.getElem?_toArray, List.getElem?_cons_succ, List.getElem?_cons_zero]; rfl) (by kernel_rfl) (by kernel_rfl) (by rfl) (fun W hW => ?_) ?_; rotate_left; · (go_simp; try with_reducible rfl)); simp only [Act.put, List.setIfInBounds_toArray, List.set_cons_zero, List.set_cons_succ]); ((refine WalkN.take 23 _ ?_ (by simp only [List.getElem?_toArray, List.getElem?_cons_succ, List.getElem?_cons_zero]; rfl) (by kernel_rfl) (by kernel_rfl) (by rfl) (fun W hW => ?_) ?_; rotate_left; · (go_simp; try with_reducible rfl)); simp only [Act.put, List.setIfInBounds_toArray, List.set_cons_zero, List.set_cons_succ])
          refine WalkN.one 21 (by kernel_rfl) ?_
          refine ⟨_, (by simp only [List.getElem?_toArray, List.getElem?_cons_succ, List.getElem?_cons_zero]; rfl), by rfl, fun K hK => ?_⟩
          go_simp
          refine HM.out.mono ?_
          rintro e w11 ⟨vc, sc, rfl, hpc, huc, hoc, hbc⟩
          have hE11 : Ext wd w11 := Below.trans hE10 (hbc.mono (Ext.size hE10))
          refine hK.out _ _ hE11 ?_
          clear hK HM
          have HR := Lib.hid (refMembers_any (.slice (some ⟨gb, go, none⟩) T.length hc) T ⟨ot, oi, or_⟩ w11 (HOd.out.below hE11).slU (by have := HT40.out; omega))
          unfold pV at HR
          dsimp only at HR
          refine WalkN.one 24 (by kernel_rfl) ?_
          refine ⟨_, (by simp only [List.getElem?_toArray, List.getElem?_cons_succ, List.getElem?_cons_zero]; rfl), by rfl, fun K hK => ?_⟩
          go_simp
          refine HR.out.mono ?_
          rintro e w12 ⟨ve, se, rfl, hue, hme, hoe, hbe⟩
          have hE12 : Ext wd w12 := Below.trans hE11 (hbe.mono (Ext.size hE11))
          refine hK.out _ _ hE12 ?_
          clear hK HR
          obtain rfl : sc = se := upP_unique huc hue fun x => by rw [hpc.mem_iff, hme x, HNd.out.g.good.mem, HT.out]
          have HS := Lib.hid (sameS_any vc ve sc w12 (hoc.below hbe).slU hoe.slU)
          refine WalkN.one 25 (by kernel_rfl) ?_
          refine ⟨_, (by simp only [List.getElem?_toArray, List.getElem?_cons_succ, List.getElem?_cons_zero]; rfl), by rfl, fun K hK => ?_⟩
          go_simp
          refine HS.out.mono ?_
          rintro e w13 ⟨rfl, hb13⟩
          have hE13 : Ext wd w13 := Below.trans hE12 (hb13.mono (Ext.size hE12))
          refine hK.out _ _ hE13 ?_
          clear hK HS
          ((refine WalkN.take 26 _ ?_ (by simp only [List.getElem?_toArray, List.getElem?_cons_succ, List.getElem?_cons_zero]; rfl) (by kernel_rfl) (by kernel_rfl) (by rfl) (fun W hW => ?_) ?_; rotate_left; · (go_simp; try with_reducible rfl)); simp only [Act.put, List.setIfInBounds_toArray, List.set_cons_zero, List.set_cons_succ]); ((refine WalkN.take 27 _ ?_ (by simp only [List.getElem?_toArray, List.getElem?_cons_succ, List.getElem?_cons_zero]; rfl) (by kernel_rfl) (by kernel_rfl) (by rfl) (fun W hW => ?_) ?_; rotate_left; · (go_simp; try with_reducible rfl)); simp only [Act.put, List.setIfInBounds_toArray, List.set_cons_zero, List.set_cons_succ])
          refine WalkN.done (by kernel_rfl) ?_
          have HN13 := Lib.hid (HNd.out.up (Nat.le_refl _) hE13)
          have HX13 := Lib.hid (HXd.out.trans hE13)
          clear h1 h2 hb7 hE8 hE9 hE10 hE11 hE12 hE13 hba hbb hb10 hbc hbe hb13 hoa hob hoc hoe hpa hpc hua hub huc hue hmb hme hPd hAd hEd
          go_wp2_with fail
          go_roundw
          case rel => exact ⟨k + 1, by omega, by go_num, HN13.out, HX13.out⟩
          case measure => simp [intOf]; omega
        · obtain rfl : k = T.length := by omega
          have HBE := Lib.hid hN.below
          clear hN hxt
          go_wp2_with fail
          go_ret
          exact ⟨rfl, HBE.out⟩

end Go.Proofs.Ytcbgemnmehoeaaa
