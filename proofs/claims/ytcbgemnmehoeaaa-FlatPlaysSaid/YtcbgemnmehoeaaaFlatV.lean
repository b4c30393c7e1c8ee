/- The walk of FlatSteps. No condition: lemmas. -/
import Derived.Test.YtcbgemnmehoeaaaFlatU
namespace Go.Proofs.Ytcbgemnmehoeaaa
open Go Go.RowKit Go.Maps

/-- The tuples behind all that are added. -/
def addsL (l : List Act31) : List Tup := l.foldl (fun T a => addL T a.2) []
theorem addsL_take {l : List Act31} {i : Nat} (hi : i < l.length) : addsL (l.take (i + 1)) = addL (addsL (l.take i)) l[i].2 := by
  unfold addsL
  rw [List.take_succ_eq_append_getElem hi, List.foldl_append]
  rfl
theorem addL_sub (T : List Tup) (t : Tup) : ∀ x ∈ T, x ∈ addL T t := by
  intro x hx
  unfold addL
  split
  · simp [hx]
  · exact hx
theorem addL_self {T : List Tup} {t : Tup} (h : chkT t = true) : t ∈ addL T t := by
  unfold addL
  by_cases hin : t ∈ T
  · simp [h, hin]
  · simp [h, hin]
theorem addL_length (T : List Tup) (t : Tup) : (addL T t).length ≤ T.length + 1 := by
  unfold addL
  split <;> simp
theorem addsL_length (l : List Act31) : ∀ i, (addsL (l.take i)).length ≤ i := by
  intro i
  induction i with
  | zero => simp [addsL]
  | succ i ih =>
    rcases Nat.lt_or_ge i l.length with h | h
    · rw [addsL_take h]
      have := addL_length (addsL (l.take i)) l[i].2
      omega
    · rw [List.take_of_length_le (by omega)]
      rw [List.take_of_length_le h] at ih
      omega
theorem addsL_mem (l : List Act31) : ∀ i j (hj : j < l.length), j < i → chkT l[j].2 = true → l[j].2 ∈ addsL (l.take i) := by
  intro i
  induction i with
  | zero => intro j _ h; omega
  | succ i ih =>
    intro j hj hji hc
    rcases Nat.lt_or_ge i l.length with h | h
    · rw [addsL_take h]
      by_cases e : j = i
      · subst e; exact addL_self hc
      · exact addL_sub _ _ _ (ih j hj (by omega) hc)
    · rw [List.take_of_length_le (by omega)]
      have := ih j hj (by omega) hc
      rwa [List.take_of_length_le h] at this

set_option maxRecDepth 100000 in
set_option maxHeartbeats 4000000 in
theorem steps_any (v : Value) (l : List Act31) (w : World) (h : Sl (· < w.heap.size) w 7 v (l.flatMap aC)) (hok : ∀ a ∈ l, a.2.Ok) : Calls Try.prog 3 #[v] w fun e w' => e = .returned (.bool true) ∧ Below w.heap.size w w' := by
  have HFI := Lib.hid (fixed_any w)
  have HSL := Lib.hid h
  obtain ⟨ao, c, rfl, hlc, hcm, hcell⟩ := acts_rows h
  have HC := Lib.hid hcell
  have HOK := Lib.hid hok
  clear hcell h hok
  go_enter Try.func3, Try.ntmps3
  go_wp2_with fail
  refine HFI.out.mono ?_
  rintro e w1 ⟨rfl, hb1⟩
  have HFW := Lib.hid (few_any _ l w1 (HSL.out.up hb1))
  have HB1 := Lib.hid hb1
  clear hb1 HFI
  go_wp2_with fail
  refine HFW.out.mono ?_
  rintro e w2 ⟨rfl, hb2⟩
  have HB2 := Lib.hid (HB1.out.trans (hb2.mono HB1.out.size))
  clear hb2 HFW HB1
  rcases hfw : fewA l with _ | _
  · clear hfw
    go_wp2_with fail
    go_ret
    exact ⟨rfl, HB2.out⟩
  have HL := Lib.hid (fewA_len hfw)
  clear hfw
  go_wp2_with fail
  refine (new_any w2).mono ?_
  rintro e w3 ⟨B, f0, rfl, hT0, hG0, hb3, hf3⟩
  have HN0 := Lib.hid (show FlatN w.heap.size w w3 B f0 from ⟨hG0, fun x hx => by have := HB2.out.size; have := hf3 x hx; omega, HB2.out.trans (hb3.mono HB2.out.size)⟩)
  have HT0 := Lib.hid hT0
  clear hG0 hb3 hf3 hT0 HB2
  go_wp2_with fail
  go_loopw [19] (fun ii wr => ∃ (i : Nat) (f : FlS), i ≤ l.length ∧ ii = .int .i64 i ∧ FlatN w.heap.size w wr B f ∧ f.T = addsL (l.take i)) (fun ii _ => l.length - (intOf ii).toNat)
  case atStart => exact ⟨0, f0, by omega, rfl, HN0.out, by rw [HT0.out]; rfl⟩
  case round =>
    obtain ⟨i, f, hi, rfl, hN, hT⟩ := hrel
    have HT := Lib.hid hT
    clear hT HN0 HT0
    by_cases hlt : i < l.length
    · obtain ⟨b, off, rfl, hb, c0, c1, c2, c3, c4, c5, c6⟩ := HC.out i hlt
      have d0 := (hN.below.cell (p := ⟨b, off + i * 7, none⟩) hb).trans c0
      have d1 := (hN.below.cell (p := ⟨b, off + i * 7 + 1, none⟩) hb).trans c1
      have d2 := (hN.below.cell (p := ⟨b, off + i * 7 + 2, none⟩) hb).trans c2
      have d3 := (hN.below.cell (p := ⟨b, off + i * 7 + 3, none⟩) hb).trans c3
      have d4 := (hN.below.cell (p := ⟨b, off + i * 7 + 4, none⟩) hb).trans c4
      have d5 := (hN.below.cell (p := ⟨b, off + i * 7 + 5, none⟩) hb).trans c5
      have d6 := (hN.below.cell (p := ⟨b, off + i * 7 + 6, none⟩) hb).trans c6
      have hok := HOK.out _ (List.getElem_mem hlt)
      have HTK := Lib.hid (addsL_take hlt)
      clear c0 c1 c2 c3 c4 c5 c6 hb
      generalize l[i] = a at *
      obtain ⟨ad, ⟨⟨ot, oi, or_⟩, ⟨st, si, sr⟩⟩⟩ := a
      dsimp only at *
      have hN1 := hN.up (Nat.le_refl _) ((Below.refl _ _).alloc (Nat.le_refl _) (.cells #[.bool ad, .string ot, .string oi, .string or_, .string st, .string si, .string sr] 34))
      have hbk := (Blk.made wr #[.bool ad, .string ot, .string oi, .string or_, .string st, .string si, .string sr] 34).cells
      have HA := Lib.hid (add_any (wr.alloc (.cells #[.bool ad, .string ot, .string oi, .string or_, .string st, .string si, .string sr] 34)) B f ⟨⟨ot, oi, or_⟩, ⟨st, si, sr⟩⟩ hN1.g hok (by have h1 := addsL_length l i; rw [← HT.out] at h1; have := HL.out; omega))
      unfold tV at HA
      dsimp only at HA
      have HN1 := Lib.hid hN1
      clear hN1 hN
      go_wp2_with fail
      refine HA.out.mono ?_
      rintro e w5 ⟨rfl, f', hG', hT', hk', hf'⟩
      have HN2 := Lib.hid (HN1.out.step (Nat.le_refl _) hG' hk' hf')
      have HT2 := Lib.hid (show f'.T = addsL (l.take (i + 1)) from by rw [hT', HT.out, HTK.out])
      clear HA hG' hT' hk' hf' hbk d0 d1 d2 d3 d4 d5 d6
      go_wp2_with fail
      go_roundw
      case rel => exact ⟨i + 1, f', by omega, by go_num, HN2.out, HT2.out⟩
      case measure => simp [intOf]; omega
    · obtain rfl : i = l.length := by omega
      rw [List.take_length] at HT
      have HAD := Lib.hid (show ∀ j (hj : j < l.length), chkT l[j].2 = true → l[j].2 ∈ f.T from fun j hj hc => by
        have := addsL_mem l l.length j hj hj hc
        rw [List.take_length] at this
        rw [HT.out]; exact this)
      have HNL := Lib.hid hN
      clear hlt hi hN HT
      go_wp2_with fail
      go_loopw [30] (fun ii wr => ∃ i : Nat, i ≤ l.length ∧ ii = .int .i64 i ∧ FlatN w.heap.size w wr B f) (fun ii _ => l.length - (intOf ii).toNat)
      case atStart => exact ⟨0, by omega, rfl, HNL.out⟩
      case round =>
        obtain ⟨i, hi, rfl, hN⟩ := hrel
        clear HNL
        by_cases hlt : i < l.length
        · obtain ⟨b, off, rfl, hb, c0, c1, c2, c3, c4, c5, c6⟩ := HC.out i hlt
          have d0 := (hN.below.cell (p := ⟨b, off + i * 7, none⟩) hb).trans c0
          have d1 := (hN.below.cell (p := ⟨b, off + i * 7 + 1, none⟩) hb).trans c1
          have d2 := (hN.below.cell (p := ⟨b, off + i * 7 + 2, none⟩) hb).trans c2
          have d3 := (hN.below.cell (p := ⟨b, off + i * 7 + 3, none⟩) hb).trans c3
          have d4 := (hN.below.cell (p := ⟨b, off + i * 7 + 4, none⟩) hb).trans c4
          have d5 := (hN.below.cell (p := ⟨b, off + i * 7 + 5, none⟩) hb).trans c5
          have d6 := (hN.below.cell (p := ⟨b, off + i * 7 + 6, none⟩) hb).trans c6
          have hok := HOK.out _ (List.getElem_mem hlt)
          have HIN := Lib.hid (HAD.out i hlt)
          clear c0 c1 c2 c3 c4 c5 c6 hb
          generalize l[i] = a at *
          obtain ⟨ad, ⟨⟨ot, oi, or_⟩, ⟨st, si, sr⟩⟩⟩ := a
          dsimp only at *
          have hN1 := hN.up (Nat.le_refl _) ((Below.refl _ _).alloc (Nat.le_refl _) (.cells #[.bool ad, .string ot, .string oi, .string or_, .string st, .string si, .string sr] 34))
          have hB1 := Blk.made wr #[.bool ad, .string ot, .string oi, .string or_, .string st, .string si, .string sr] 34
          have hbk := hB1.cells
          have HCK := Lib.hid (refCheck_any ⟨⟨ot, oi, or_⟩, ⟨st, si, sr⟩⟩ hok (wr.alloc (.cells #[.bool ad, .string ot, .string oi, .string or_, .string st, .string si, .string sr] 34)))
          unfold tV at HCK
          dsimp only at HCK
          have HN1 := Lib.hid hN1
          have HBA := Lib.hid hB1
          have HTO := Lib.hid (TK.of_ok hok)
          clear hN1 hN hB1 hok
          go_wp2_with fail
          refine HCK.out.mono ?_
          rintro e w5 ⟨rfl, hb5⟩
          have hN5 := HN1.out.up (Nat.le_refl _) hb5
          have hB5 := HBA.out.below hb5
          have cB5 := hB5.cells
          clear HCK hbk d0 d1 d2 d3 d4 d5 d6 HN1 HBA hb5
          rcases hck : chkT ⟨⟨ot, oi, or_⟩, ⟨st, si, sr⟩⟩ with _ | _
          · rw [show chkN ⟨⟨ot, oi, or_⟩, ⟨st, si, sr⟩⟩ = 2 from by simp [chkN, hck]]
            have HN5 := Lib.hid hN5
            clear hck hN5 hB5 HIN
            go_wp2_with fail
            go_roundw
            case rel => exact ⟨i + 1, by omega, by go_num, HN5.out⟩
            case measure => simp [intOf]; omega
          rw [show chkN ⟨⟨ot, oi, or_⟩, ⟨st, si, sr⟩⟩ = 0 from by simp [chkN, hck]]
          have HIN2 := Lib.hid (HIN.out hck)
          clear hck HIN
          have hN6 := hN5.up (Nat.le_refl _) ((Below.refl _ _).alloc (Nat.le_refl _) (.cells #[.string ot, .string oi, .string or_] 37))
          have hB6 := hB5.alloc (.cells #[.string ot, .string oi, .string or_] 37)
          have hP6 := Blk.made w5 #[.string ot, .string oi, .string or_] 37
          have hH := has_any (w5.alloc (.cells #[.string ot, .string oi, .string or_] 37)) B f ⟨ot, oi, or_⟩ ⟨st, si, sr⟩ hN6.g.at_ HTO.out.o HTO.out.s
          rw [show decide ((⟨st, si, sr⟩ : P3) ∈ inn f.M ⟨ot, oi, or_⟩) = true from by
            rw [decide_eq_true_eq, hN6.g.good.mem]
            exact Der.base (t := ⟨⟨ot, oi, or_⟩, ⟨st, si, sr⟩⟩) HIN2.out] at hH
          have HH := Lib.hid hH
          unfold pV at HH
          dsimp only at HH
          have HN6 := Lib.hid hN6
          have HB6 := Lib.hid hB6
          have HP6 := Lib.hid hP6
          have cB6 := hB6.cells
          have cP6 := hP6.cells
          clear hN6 hB6 hP6 hH hN5 hB5
          go_wp2_with fail
          refine HH.out.mono ?_
          rintro e w7 ⟨rfl, hb7⟩
          have hN7 := HN6.out.up (Nat.le_refl _) hb7
          have hB7 := HB6.out.below hb7
          have HP7 := Lib.hid (HP6.out.below hb7)
          have cB7 := hB7.cells
          have HM := Lib.hid (members_any w7 B f ⟨st, si, sr⟩ hN7.g HTO.out.q)
          unfold pV at HM
          dsimp only at HM
          have HN7 := Lib.hid hN7
          have HB7 := Lib.hid hB7
          clear HH HN6 HB6 HP6 cB6 cP6 hb7 hN7 hB7 cB5
          go_wp2_with fail
          refine HM.out.mono ?_
          rintro e w8 ⟨v', ss, rfl, hp8, hu8, ho8, hb8⟩
          obtain ⟨ao, c, rfl, hlc8, hcm8, -⟩ := Sl.rows pC_length (by decide) (show Sl _ w8 3 v' (List.flatMap pC ss) from ho8.sl)
          have HO8 := Lib.hid ho8
          have HP8 := Lib.hid (HP7.out.below hb8)
          have HB8 := Lib.hid (HB7.out.below hb8)
          have HN8 := Lib.hid (HN7.out.up (Nat.le_refl _) hb8)
          have HPM := Lib.hid hp8
          have HKS := Lib.hid (show ∀ x ∈ ss, KeyS x from fun x hx => HN7.out.g.at_.M.keyedS _ x (hp8.mem_iff.1 hx))
          clear HM hp8 hu8 ho8 hb8 cB7 HN7 HB7 HP7
          go_wp2_with fail
          go_loopw [64] (fun ii wz => ∃ k : Nat, k ≤ ss.length ∧ ii = .int .i64 k ∧ Below w8.heap.size w8 wz) (fun ii _ => ss.length - (intOf ii).toNat)
          case atStart => exact ⟨0, by omega, rfl, Below.refl _ _⟩
          case round =>
            obtain ⟨k, hk, rfl, hbz⟩ := hrel
            by_cases hkl : k < ss.length
            · obtain ⟨gb, rfl, e0, e1, e2⟩ := own_cells (HO8.out.below hbz) hkl
              have hxk := HKS.out _ (List.getElem_mem hkl)
              have hxm := HPM.out.mem_iff.1 (List.getElem_mem hkl)
              generalize ss[k] = x at *
              obtain ⟨xt, xi, xr⟩ := x
              dsimp only at e0 e1 e2
              have hN9 := (HN8.out.up (Nat.le_refl _) hbz).up (Nat.le_refl _) ((Below.refl _ _).alloc (Nat.le_refl _) (.cells #[.string xt, .string xi, .string xr] 30))
              have hb9 := hbz.alloc hbz.size (.cells #[.string xt, .string xi, .string xr] 30)
              have cB9 := ((HB8.out.below hbz).alloc (.cells #[.string xt, .string xi, .string xr] 30)).cells
              have cP9 := ((HP8.out.below hbz).alloc (.cells #[.string xt, .string xi, .string xr] 30)).cells
              by_cases h0 : sr.size = 0
              · obtain rfl := ba_size_eq h0
                have HB9 := Lib.hid hb9
                clear h0 hN9 hb9 hxk hxm
                go_wp2_with fail
                go_roundw
                case rel => exact ⟨k + 1, by omega, by go_num, HB9.out⟩
                case measure => simp [intOf]; omega
              · have hne := ba_size_ne h0
                have hH := has_any (wr.alloc (.cells #[.string xt, .string xi, .string xr] 30)) B f ⟨ot, oi, or_⟩ ⟨xt, xi, xr⟩ hN9.g.at_ HTO.out.o hxk
                rw [show decide ((⟨xt, xi, xr⟩ : P3) ∈ inn f.M ⟨ot, oi, or_⟩) = true from by
                  rw [decide_eq_true_eq, hN9.g.good.mem]
                  exact Der.step (t := ⟨⟨ot, oi, or_⟩, ⟨st, si, sr⟩⟩) HIN2.out h0 ((hN9.g.good.mem _ _).1 hxm)] at hH
                have HH := Lib.hid hH
                unfold pV at HH
                dsimp only at HH
                have HB9 := Lib.hid hb9
                clear h0 hN9 hb9 hxk hxm hH
                go_wp2_with fail
                refine HH.out.mono ?_
                rintro e w10 ⟨rfl, hb10⟩
                have HB10 := Lib.hid (HB9.out.trans (hb10.mono HB9.out.size))
                clear HH hb10 cB9 cP9 e0 e1 e2
                go_wp2_with fail
                go_roundw
                case rel => exact ⟨k + 1, by omega, by go_num, HB10.out⟩
                case measure => simp [intOf]; omega
            · have HNZ := Lib.hid (HN8.out.up (Nat.le_refl _) hbz)
              obtain rfl : k = ss.length := by omega
              go_wp2_with fail
              go_roundw
              case rel => exact ⟨i + 1, by omega, by go_num, HNZ.out⟩
              case measure => simp [intOf]; omega
        · obtain rfl : i = l.length := by omega
          go_wp2_with fail
          go_ret
          exact ⟨rfl, hN.below⟩

end Go.Proofs.Ytcbgemnmehoeaaa
