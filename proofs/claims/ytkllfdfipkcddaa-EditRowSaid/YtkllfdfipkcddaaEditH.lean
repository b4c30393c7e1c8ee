/- The walk of sentryref16.Check. No condition: lemmas. -/
import Derived.Test.YtkllfdfipkcddaaEditF
namespace Go.Proofs.Ytkllfdfipkcddaa
open Go Go.RowKit

theorem chkN_dup {x : Ver} {j i : Nat} (hj : j < i) (hi : i < x.tabs.length) (h : (x.tabs[j]'(by omega)).num = x.tabs[i].num) : chkN x = 9 := by
  refine chkN_nums fun hn => ?_
  have := List.pairwise_iff_getElem.1 hn j i (by rw [List.length_map]; omega) (by rw [List.length_map]; omega) hj
  simp at this
  exact this h
theorem nodup_all {l : List Tab} (h : ∀ i (hi : i < l.length), i < l.length → ∀ j (hj : j < l.length), j < i → l[j].num ≠ l[i].num) : (l.map (·.num)).Nodup := by
  refine List.pairwise_iff_getElem.2 fun j i hj hi hji => ?_
  rw [List.length_map] at hj hi
  simp only [List.getElem_map]
  exact h i hi hi j hj hji

set_option maxRecDepth 100000 in
set_option maxHeartbeats 3200000 in
theorem refCheck_any (tv : Value) (x : Ver) (w : World) (ht : Sl (· < w.heap.size) w 5 tv (tcs x.tabs)) :
    Calls Try.prog 22 #[vV tv x] w (Ret (.int .i64 (chkN x)) w) := by
  cases hbad : headBad x with
  | true =>
    rw [chkN_head hbad]
    have hc := headBad_cases hbad
    obtain ⟨l, fl, hd', lg, nx⟩ := x
    unfold vV
    dsimp only at *
    have hb0 : Below w.heap.size w (w.alloc (.cells #[tv, .int .u64 fl, .int .u64 hd', .int .i64 lg, .int .i64 nx] 25)) := (Below.refl _ _).alloc (Nat.le_refl _) _
    clear hbad ht
    rcases hc with h | ⟨h1, h2⟩ | ⟨h1, h2, h3⟩ | ⟨h1, h2, h3, h4⟩ | ⟨h1, h2, h3, h4, h5⟩
    all_goals
      go_enter Try.func22, Try.ntmps22
      go_wp2
      go_ret
      exact ⟨rfl, hb0⟩
  | false =>
    have CT := fun i hi h => Lib.hid (chkN_tab (x := x) (i := i) hi h)
    have CP := fun i hi h => Lib.hid (chkN_pair (x := x) (i := i) hi h)
    have CD := fun j i hji hi h => Lib.hid (chkN_dup (x := x) (j := j) (i := i) hji hi h)
    have CO := fun h1 h2 h3 => Lib.hid (chkN_ok (x := x) hbad h1 h2 h3)
    obtain ⟨e1, e2, e3, e4, e5⟩ := headBad_ok hbad
    obtain ⟨l, fl, hd', lg, nx⟩ := x
    unfold vV
    dsimp only at *
    generalize chkN ⟨l, fl, hd', lg, nx⟩ = cn at *
    obtain ⟨ao, c, rfl, hac, hcm, hacell⟩ := ht.tabs
    have HAC := Lib.hid hacell
    have e5' : (fl : Int) ≤ hd' := by omega
    have b1 : decide (nx < 1) = false := by simpa using e1
    have b2 : decide (4611686018427387904 ≤ nx) = false := by simpa using e2
    have b3 : decide (lg < 0) = false := by simpa using e3
    have b4 : decide (nx < lg) = false := by simpa using e4
    have b5 : decide (hd' < fl) = false := by simpa using e5
    have hb1 : Below w.heap.size w (w.alloc (.cells #[.slice ao l.length c, .int .u64 fl, .int .u64 hd', .int .i64 lg, .int .i64 nx] 25)) := (Below.refl _ _).alloc (Nat.le_refl _) _
    have HBX := Lib.hid (Blk.made w #[.slice ao l.length c, .int .u64 fl, .int .u64 hd', .int .i64 lg, .int .i64 nx] 25)
    clear hbad ht hacell
    go_enter Try.func22, Try.ntmps22
    go_wp2
    clear b1 b2 b3 b4 b5
    generalize w.alloc (.cells #[.slice ao l.length c, .int .u64 fl, .int .u64 hd', .int .i64 lg, .int .i64 nx] 25) = w1 at *
    go_loopw [38] (fun ii wr => ∃ i : Nat, i ≤ l.length ∧ ii = .int .i64 i ∧ (∀ j (hj : j < l.length), j < i → tabBad nx l[j] = false) ∧ (∀ j (hj : j + 1 < l.length), j + 1 < i → pairBad l[j] l[j + 1] = false) ∧
      (∀ j (hj : j < l.length), j < i → ∀ k (hk : k < l.length), k < j → l[k].num ≠ l[j].num) ∧ Below w1.heap.size w1 wr) (fun ii _ => l.length - (intOf ii).toNat)
    case atStart => exact ⟨0, by omega, rfl, fun _ _ h => absurd h (by omega), fun _ _ h => absurd h (by omega), fun _ _ h => absurd h (by omega), Below.refl _ _⟩
    case round =>
      obtain ⟨i, hi, rfl, htabs, hpairs, hnums, hbel⟩ := hrel
      have HTB := Lib.hid htabs
      have HPB := Lib.hid hpairs
      have HNB := Lib.hid hnums
      have hbw : Below w.heap.size w wr := below_step hb1 hbel
      clear htabs hpairs hnums
      by_cases hlt : i < l.length
      · obtain ⟨b, off, rfl, hb, hc⟩ := HAC.out (by omega)
        obtain ⟨c0, c1, c2, c3, c4⟩ := hc i hlt
        have c0 := (hbw.cell (p := ⟨b, off + i * 5, none⟩) hb).trans c0
        have c1 := (hbw.cell (p := ⟨b, off + i * 5 + 1, none⟩) hb).trans c1
        have c2 := (hbw.cell (p := ⟨b, off + i * 5 + 2, none⟩) hb).trans c2
        have c3 := (hbw.cell (p := ⟨b, off + i * 5 + 3, none⟩) hb).trans c3
        have c4 := (hbw.cell (p := ⟨b, off + i * 5 + 4, none⟩) hb).trans c4
        have HT1 := fun (h : tabBad nx l[i] = false) => Lib.hid (upto_succ (p := fun j hj => tabBad nx l[j] = false) HTB.out hlt h)
        have HNN := fun (h : ∀ k (hk : k < l.length), k < i → l[k].num ≠ l[i].num) => Lib.hid (upto_succ (p := fun j hj => ∀ k (hk : k < l.length), k < j → l[k].num ≠ l[j].num) HNB.out hlt h)
        have hCT := fun h => CT i hlt h
        have hCD := fun j hji h => CD j i hji hlt h
        have hBr := HBX.out.below hbel
        have hcBr := hBr.cells
        have HHC := Lib.hid hc
        obtain ⟨t, htt⟩ : ∃ t, t = l[i] := ⟨_, rfl⟩
        rw [← htt] at c0 c1 c2 c3 c4 HT1 hCT HNN hCD
        have HTT := Lib.hid htt
        clear htt hc
        obtain ⟨tn, tl, ts, tf, tla⟩ := t
        dsimp only at *
        have hcBA := (hBr.alloc (.cells #[.int .i64 tn, .int .i64 tl, .int .i64 ts, .string tf, .string tla] 38)).cells
        have hbA := hbw.alloc hbw.size (.cells #[.int .i64 tn, .int .i64 tl, .int .i64 ts, .string tf, .string tla] 38)
        cases hbad : tabBad nx ⟨tn, tl, ts, tf, tla⟩ with
        | true =>
          have HCT := hCT hbad
          have hcs := tabBad_cases hbad
          dsimp only at hcs
          clear hbad hCT HT1 HNN hCD
          rcases hcs with h1 | ⟨h1, h2⟩ | ⟨h1, h2, h3⟩ | ⟨h1, h2, h3, h4⟩ | ⟨h1, h2, h3, h4, h5⟩ | ⟨h1, h2, h3, h4, h5, h6⟩ | ⟨h1, h2, h3, h4, h5, h6, h7⟩
          iterate 6
            · go_wp2
              go_ret
              exact ⟨by rw [HCT.out]; rfl, hbA⟩
          · unfold gtS at h7
            go_wp2
            go_ret
            exact ⟨by rw [HCT.out]; rfl, hbA⟩
        | false =>
          have HT := HT1 hbad
          have hcs := tabBad_ok hbad
          dsimp only at hcs
          obtain ⟨h1, h2, h3, h4, h5, h6, h7⟩ := hcs
          unfold gtS at h7
          have b1 : decide (tn < 1) = false := by simpa using h1
          have b2 : decide (nx ≤ tn) = false := by simpa using h2
          have b3 : decide (tl < 0) = false := by simpa using h3
          have b4 : decide (4 ≤ tl) = false := by simpa using h4
          have b5 : decide (ts < 1) = false := by simpa using h5
          have b6 : decide (4611686018427387904 ≤ ts) = false := by simpa using h6
          have hXA := Blk.made wr #[.int .i64 tn, .int .i64 tl, .int .i64 ts, .string tf, .string tla] 38
          have hBA := hBr.alloc (.cells #[.int .i64 tn, .int .i64 tl, .int .i64 ts, .string tf, .string tla] 38)
          have hbA1 := hbel.alloc hbel.size (.cells #[.int .i64 tn, .int .i64 tl, .int .i64 ts, .string tf, .string tla] 38)
          have hic : (i : Int) ≤ c := by omega
          have hi0 : (0 : Int) ≤ i := by omega
          clear hbad hCT HT1
          go_wp2
          clear b1 b2 b3 b4 b5 b6
          generalize wr.alloc (.cells #[.int .i64 tn, .int .i64 tl, .int .i64 ts, .string tf, .string tla] 38) = wA at *
          have HLW := fun (wz : World) (hz : Below wA.heap.size wA wz) => Lib.hid (hbA.trans (hz.mono hbA.size))
          go_loopw [85] (fun jj wz => ∃ j : Nat, j ≤ i ∧ jj = .int .i64 j ∧ (∀ k (hk : k < l.length), k < j → l[k].num ≠ tn) ∧ Below wA.heap.size wA wz) (fun jj _ => i - (intOf jj).toNat)
          case atStart => exact ⟨0, by omega, rfl, fun _ _ h => absurd h (by omega), Below.refl _ _⟩
          case round =>
            obtain ⟨j, hj, rfl, hno, hbz⟩ := hrel
            have HNO := Lib.hid hno
            have hbwz := (HLW wr hbz).out
            have hcX := (hXA.below hbz).cells
            have hcB := (hBA.below hbz).cells
            clear hno
            by_cases hji : j < i
            · have hjl : j < l.length := by omega
              obtain ⟨d0, d1, d2, d3, d4⟩ := HHC.out j hjl
              have d0 := (hbwz.cell (p := ⟨b, off + j * 5, none⟩) hb).trans d0
              have d1 := (hbwz.cell (p := ⟨b, off + j * 5 + 1, none⟩) hb).trans d1
              have d2 := (hbwz.cell (p := ⟨b, off + j * 5 + 2, none⟩) hb).trans d2
              have d3 := (hbwz.cell (p := ⟨b, off + j * 5 + 3, none⟩) hb).trans d3
              have d4 := (hbwz.cell (p := ⟨b, off + j * 5 + 4, none⟩) hb).trans d4
              have HN2 := fun (h : l[j].num ≠ tn) => Lib.hid (upto_succ (p := fun k hk => l[k].num ≠ tn) HNO.out hjl h)
              have hCD2 := fun h => hCD j hji h
              generalize l[j] = u at *
              obtain ⟨un, ul, us, uf, ula⟩ := u
              dsimp only at *
              have hcX2 := ((hXA.below hbz).alloc (.cells #[.int .i64 un, .int .i64 ul, .int .i64 us, .string uf, .string ula] 38)).cells
              have hbz2 := hbz.alloc hbz.size (.cells #[.int .i64 un, .int .i64 ul, .int .i64 us, .string uf, .string ula] 38)
              by_cases he : un = tn
              · have HD := hCD2 he
                subst he
                clear HN2
                go_wp2
                go_ret
                exact ⟨by rw [HD.out]; rfl, (HLW _ hbz2).out⟩
              · have HN3 := HN2 he
                have he2 : (un == tn) = false := by simpa using he
                clear HN2 he hCD2
                go_wp2
                go_roundw
                case rel => exact ⟨j + 1, by omega, by go_num, HN3.out, hbz2⟩
                case measure => simp [intOf]; omega
            · obtain rfl : j = i := by omega
              have HNU := HNN (fun k hk h => HNO.out k hk h)
              clear HNN hCD
              have hb1z := hbA1.trans (hbz.mono hbA1.size)
              cases j with
              | zero =>
                go_wp2
                go_roundw
                case rel => exact ⟨1, by omega, by go_num, HT.out, fun _ _ h => absurd h (by omega), HNU.out, hb1z⟩
                case measure => simp [intOf]; omega
              | succ n =>
                obtain ⟨d0, d1, d2, d3, d4⟩ := HHC.out n (by omega)
                have d0 := (hbwz.cell (p := ⟨b, off + n * 5, none⟩) hb).trans d0
                have d1 := (hbwz.cell (p := ⟨b, off + n * 5 + 1, none⟩) hb).trans d1
                have d2 := (hbwz.cell (p := ⟨b, off + n * 5 + 2, none⟩) hb).trans d2
                have d3 := (hbwz.cell (p := ⟨b, off + n * 5 + 3, none⟩) hb).trans d3
                have d4 := (hbwz.cell (p := ⟨b, off + n * 5 + 4, none⟩) hb).trans d4
                have HT2 := fun (h : pairBad l[n] l[n + 1] = false) => Lib.hid (upto_pair HPB.out h)
                have hCP := fun h => CP n hlt h
                have HTT2 := HTT.out
                rw [← HTT2] at HT2 hCP
                obtain ⟨u, hu⟩ : ∃ u, u = l[n] := ⟨_, rfl⟩
                rw [← hu] at HT2 hCP d0 d1 d2 d3 d4
                clear hu HTT2
                obtain ⟨un, ul, us, uf, ula⟩ := u
                dsimp only at d0 d1 d2 d3 d4
                have hless := less_any ⟨un, ul, us, uf, ula⟩ ⟨tn, tl, ts, tf, tla⟩
                have hX2b := (hXA.below hbz).alloc (.cells #[.int .i64 un, .int .i64 ul, .int .i64 us, .string uf, .string ula] 38)
                have hU2b := Blk.made wr #[.int .i64 un, .int .i64 ul, .int .i64 us, .string uf, .string ula] 38
                have hcX2 := hX2b.cells
                have hb2z := hb1z.alloc hb1z.size (.cells #[.int .i64 un, .int .i64 ul, .int .i64 us, .string uf, .string ula] 38)
                have hb3z := hbwz.alloc hbwz.size (.cells #[.int .i64 un, .int .i64 ul, .int .i64 us, .string uf, .string ula] 38)
                cases hpb : pairBad ⟨un, ul, us, uf, ula⟩ ⟨tn, tl, ts, tf, tla⟩ with
                | true =>
                  have HCP := hCP hpb
                  have hcs := pairBad_cases hpb
                  clear hpb hCP HT2
                  rcases hcs with g1 | ⟨g1, g2, g3, g4⟩
                  · rw [g1] at hless
                    unfold tV at hless
                    dsimp only at hless
                    clear g1
                    go_wp2_with fail
                    refine (hless _).mono ?_
                    rintro e w4 ⟨rfl, hb4⟩
                    go_wp2
                    go_ret
                    exact ⟨by rw [HCP.out]; rfl, hb3z.trans (hb4.mono hb3z.size)⟩
                  · dsimp only at g2 g3 g4
                    subst g2
                    unfold ltS at g4
                    rw [g1] at hless
                    unfold tV at hless
                    dsimp only at hless
                    clear g1
                    go_wp2_with fail
                    refine (hless _).mono ?_
                    rintro e w4 ⟨rfl, hb4⟩
                    have hX4 := (hX2b.below hb4).cells
                    have hY4 := (hU2b.below hb4).cells
                    go_wp2
                    go_ret
                    exact ⟨by rw [HCP.out]; rfl, hb3z.trans (hb4.mono hb3z.size)⟩
                | false =>
                  have HT3 := HT2 hpb
                  obtain ⟨g1, hcs⟩ := pairBad_ok hpb
                  rw [g1] at hless
                  unfold tV at hless
                  clear hpb hCP g1 HT2
                  dsimp only at hcs hless
                  rcases hcs with g2 | ⟨g2, g3⟩ | ⟨g2, g3, g4⟩
                  · have g2' : (ul == tl) = false := by simpa using g2
                    clear g2
                    go_wp2_with fail
                    refine (hless _).mono ?_
                    rintro e w4 ⟨rfl, hb4⟩
                    have hX4 := (hX2b.below hb4).cells
                    have hY4 := (hU2b.below hb4).cells
                    go_wp2
                    go_roundw
                    case rel => exact ⟨n + 2, by omega, by go_num, HT.out, HT3.out, HNU.out, hb2z.trans (hb4.mono hb2z.size)⟩
                    case measure => simp [intOf]; omega
                  all_goals
                    subst g2
                    try unfold ltS at g4
                    go_wp2_with fail
                    refine (hless _).mono ?_
                    rintro e w4 ⟨rfl, hb4⟩
                    have hX4 := (hX2b.below hb4).cells
                    have hY4 := (hU2b.below hb4).cells
                    go_wp2
                    go_roundw
                    case rel => exact ⟨n + 2, by omega, by go_num, HT.out, HT3.out, HNU.out, hb2z.trans (hb4.mono hb2z.size)⟩
                    case measure => simp [intOf]; omega
      · obtain rfl : i = l.length := by omega
        have hcB := (HBX.out.below hbel).cells
        have HC := CO (fun j hj => HTB.out j hj hj) (fun j hj => HPB.out j hj hj) (nodup_all HNB.out)
        go_wp2
        go_ret
        exact ⟨by rw [HC.out]; rfl, hbw⟩

end Go.Proofs.Ytkllfdfipkcddaa
