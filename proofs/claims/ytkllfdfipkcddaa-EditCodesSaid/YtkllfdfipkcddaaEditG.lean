/- The walk of edit.Check. No condition: lemmas. -/
import Derived.Test.YtkllfdfipkcddaaEditF
namespace Go.Proofs.Ytkllfdfipkcddaa
open Go Go.RowKit

set_option maxRecDepth 100000 in
set_option maxHeartbeats 3200000 in
theorem checkBad_any (tv : Value) (x : Ver) (w : World) (hok : x.Ok) (hbad : headBad x = true) :
    Calls Try.prog 18 #[vV tv x] w (Ret (.int .i64 (chkN x)) w) := by
  rw [chkN_head hbad]
  have hc := headBad_cases hbad
  obtain ⟨l, fl, hd', lg, nx⟩ := x
  obtain ⟨-, -, k3⟩ := hok
  unfold vV
  dsimp only at *
  have hb0 : Below w.heap.size w (w.alloc (.cells #[tv, .int .u64 fl, .int .u64 hd', .int .i64 lg, .int .i64 nx] 25)) := (Below.refl _ _).alloc (Nat.le_refl _) _
  clear hbad
  rcases hc with h | ⟨h1, h2⟩ | ⟨h1, h2, h3⟩ | ⟨h1, h2, h3, h4⟩ | ⟨h1, h2, h3, h4, h5⟩
  · go_enter Try.func18, Try.ntmps18
    go_wp2
    go_ret
    exact ⟨rfl, hb0⟩
  · have HB := Lib.hid (show oddB nx = true from by simp [oddB, h2])
    go_enter Try.func18, Try.ntmps18
    go_wp2_with fail
    refine (odd_is nx _ k3 HB.out).mono ?_
    rintro e w' ⟨rfl, rfl⟩
    go_wp2
    go_ret
    exact ⟨rfl, hb0⟩
  all_goals
    have HB := Lib.hid (show oddB nx = false from by simp [oddB]; omega)
    go_enter Try.func18, Try.ntmps18
    go_wp2_with fail
    refine (odd_is nx _ k3 HB.out).mono ?_
    rintro e w' ⟨rfl, rfl⟩
    go_wp2
    go_ret
    exact ⟨rfl, hb0⟩

set_option maxRecDepth 100000 in
set_option maxHeartbeats 3200000 in
theorem check_any (tv : Value) (x : Ver) (w : World) (ht : Sl (· < w.heap.size) w 5 tv (tcs x.tabs)) (hok : x.Ok) :
    Calls Try.prog 18 #[vV tv x] w (Ret (.int .i64 (chkN x)) w) := by
  cases hbad : headBad x with
  | true => exact checkBad_any tv x w hok hbad
  | false =>
    have CT := fun i hi h => Lib.hid (chkN_tab (x := x) (i := i) hi h)
    have CP := fun i hi h => Lib.hid (chkN_pair (x := x) (i := i) hi h)
    have CN := fun h => Lib.hid (chkN_nums (x := x) h)
    have CO := fun h1 h2 h3 => Lib.hid (chkN_ok (x := x) hbad h1 h2 h3)
    obtain ⟨e1, e2, e3, e4, e5⟩ := headBad_ok hbad
    obtain ⟨l, fl, hd', lg, nx⟩ := x
    obtain ⟨k1, k2, k3⟩ := hok
    unfold vV
    dsimp only at *
    generalize chkN ⟨l, fl, hd', lg, nx⟩ = cn at *
    have HB := Lib.hid (show oddB nx = false from by simp [oddB]; omega)
    have hmm := @run_makeMap Try.prog
    obtain ⟨ao, c, rfl, hac, hcm, hacell⟩ := ht.tabs
    have HAC := Lib.hid hacell
    have e4' : lg ≤ nx := e4
    have e5' : (fl : Int) ≤ hd' := by omega
    have b1 : decide (nx < 1) = false := by simpa using e1
    have b3 : decide (lg < 0) = false := by simpa using e3
    have b4 : decide (nx < lg) = false := by simpa using e4
    have b5 : decide (hd' < fl) = false := by simpa using e5
    clear hbad ht hacell
    go_enter Try.func18, Try.ntmps18
    go_wp2_with fail
    refine (odd_is nx _ k3 HB.out).mono ?_
    rintro e w' ⟨rfl, rfl⟩
    go_wp2_with fail
    have hb2 : Below w.heap.size w ((w.alloc (.cells #[.slice ao l.length c, .int .u64 fl, .int .u64 hd', .int .i64 lg, .int .i64 nx] 25)).alloc (.map #[] 0)) := ((Below.refl _ _).alloc (Nat.le_refl _) _).alloc (by simp) _
    have hBox := (Blk.made w #[.slice ao l.length c, .int .u64 fl, .int .u64 hd', .int .i64 lg, .int .i64 nx] 25).alloc (.map #[] 0)
    have hMp : Mp Try.prog 3 kI kB ((w.alloc (.cells #[.slice ao l.length c, .int .u64 fl, .int .u64 hd', .int .i64 lg, .int .i64 nx] 25)).alloc (.map #[] 0)) (w.heap.size + 1) (numsM (l.take 0)) := by
      have := Mp.made (P := Try.prog) (k := 3) (kv := kI) (ev := kB) (w.alloc (.cells #[.slice ao l.length c, .int .u64 fl, .int .u64 hd', .int .i64 lg, .int .i64 nx] 25))
      simpa [numsM] using this
    have hsz2 : ((w.alloc (.cells #[.slice ao l.length c, .int .u64 fl, .int .u64 hd', .int .i64 lg, .int .i64 nx] 25)).alloc (.map #[] 0)).heap.size = w.heap.size + 2 := by simp
    have HBX := Lib.hid hBox
    have HS2 := Lib.hid hsz2
    generalize (w.alloc (.cells #[.slice ao l.length c, .int .u64 fl, .int .u64 hd', .int .i64 lg, .int .i64 nx] 25)).alloc (.map #[] 0) = w2 at *
    clear hBox hsz2 hmm b1 b3 b4 b5
    go_loopw [38] (fun ii wr => ∃ i : Nat, i ≤ l.length ∧ ii = .int .i64 i ∧ Mp Try.prog 3 kI kB wr (w.heap.size + 1) (numsM (l.take i)) ∧ (∀ j (hj : j < l.length), j < i → tabBad nx l[j] = false) ∧ (∀ j (hj : j + 1 < l.length), j + 1 < i → pairBad l[j] l[j + 1] = false) ∧
      Kept (fun b => b < w.heap.size + 2 ∧ b ≠ w.heap.size + 1) w2 wr) (fun ii _ => l.length - (intOf ii).toNat)
    case atStart => exact ⟨0, by omega, rfl, hMp, fun _ _ h => absurd h (by omega), fun _ _ h => absurd h (by omega), Kept.refl _ _⟩
    case round =>
      obtain ⟨i, hi, rfl, hMr, htabs, hpairs, hk⟩ := hrel
      have HTB := Lib.hid htabs
      have HPB := Lib.hid hpairs
      have hszr : w.heap.size + 2 ≤ wr.heap.size := by have := hk.size; rw [HS2.out] at this; exact this
      have hbw : Below w.heap.size w wr := hb2.trans (hk.below fun b hb => ⟨by omega, by omega⟩)
      clear htabs hpairs hMp
      by_cases hlt : i < l.length
      · obtain ⟨b, off, rfl, hb, hc⟩ := HAC.out (by omega)
        have hcells : ∀ j (hj : j < l.length), wr.cell? ⟨b, off + j * 5, none⟩ = some (.int .i64 l[j].num) ∧ wr.cell? ⟨b, off + j * 5 + 1, none⟩ = some (.int .i64 l[j].lvl) ∧ wr.cell? ⟨b, off + j * 5 + 2, none⟩ = some (.int .i64 l[j].size) ∧ wr.cell? ⟨b, off + j * 5 + 3, none⟩ = some (.string l[j].first) ∧ wr.cell? ⟨b, off + j * 5 + 4, none⟩ = some (.string l[j].last) := fun j hj => by
          obtain ⟨c0, c1, c2, c3, c4⟩ := hc j hj
          exact ⟨(hbw.cell (p := ⟨b, off + j * 5, none⟩) hb).trans c0, (hbw.cell (p := ⟨b, off + j * 5 + 1, none⟩) hb).trans c1, (hbw.cell (p := ⟨b, off + j * 5 + 2, none⟩) hb).trans c2, (hbw.cell (p := ⟨b, off + j * 5 + 3, none⟩) hb).trans c3, (hbw.cell (p := ⟨b, off + j * 5 + 4, none⟩) hb).trans c4⟩
        have HCS := Lib.hid hcells
        obtain ⟨c0, c1, c2, c3, c4⟩ := hcells i hlt
        have HN := Lib.hid (numsM_take hlt)
        have HT1 := fun (h : tabBad nx l[i] = false) => Lib.hid (upto_succ (p := fun j hj => tabBad nx l[j] = false) HTB.out hlt h)
        have hCT := fun h => CT i hlt h
        have hTok := k1 _ (List.getElem_mem hlt)
        have HI := Lib.hid (rfl : l[i] = l[i])
        have hBr := hk.blk HBX.out ⟨by omega, by omega⟩
        have hcBr := hBr.cells
        clear hc hcells
        obtain ⟨t, htt⟩ : ∃ t, t = l[i] := ⟨_, rfl⟩
        rw [← htt] at c0 c1 c2 c3 c4 HN HT1 hCT hTok
        have HTT := Lib.hid htt
        clear htt HI
        obtain ⟨tn, tl, ts, tf, tla⟩ := t
        obtain ⟨hnum, -, hsz, -, -⟩ := hTok
        dsimp only at *
        have hMA : Mp Try.prog 3 kI kB (wr.alloc (.cells #[.int .i64 tn, .int .i64 tl, .int .i64 ts, .string tf, .string tla] 38)) (w.heap.size + 1) (numsM (l.take i)) := hMr.below ((Below.refl _ _).alloc (Nat.le_refl _) _)
        have hXA := Blk.made wr #[.int .i64 tn, .int .i64 tl, .int .i64 ts, .string tf, .string tla] 38
        have hBA := hBr.alloc (.cells #[.int .i64 tn, .int .i64 tl, .int .i64 ts, .string tf, .string tla] 38)
        have hkA : Kept (fun b => b < w.heap.size + 2 ∧ b ≠ w.heap.size + 1) w2 (wr.alloc (.cells #[.int .i64 tn, .int .i64 tl, .int .i64 ts, .string tf, .string tla] 38)) := hk.alloc (fun b h => by omega) _
        have HK3 := fun (w3 : World) (hT3 : Turned (wr.alloc (.cells #[.int .i64 tn, .int .i64 tl, .int .i64 ts, .string tf, .string tla] 38)) w3 (w.heap.size + 1)) => Lib.hid (hkA.trans (hT3.kept.mono fun b (h : b < w.heap.size + 2 ∧ b ≠ w.heap.size + 1) => h.2))
        cases hbad : tabBad nx ⟨tn, tl, ts, tf, tla⟩ with
        | true =>
          have HCT := hCT hbad
          have hcs := tabBad_cases hbad
          dsimp only at hcs
          clear hbad hCT HT1
          have HBW := fun (w3 : World) (hT3 : Turned (wr.alloc (.cells #[.int .i64 tn, .int .i64 tl, .int .i64 ts, .string tf, .string tla] 38)) w3 (w.heap.size + 1)) => Lib.hid (hb2.trans ((HK3 w3 hT3).out.below fun b hb => ⟨by omega, by omega⟩))
          rcases hcs with h1 | ⟨h1, h2⟩ | ⟨h1, h2, h3⟩ | ⟨h1, h2, h3, h4⟩ | ⟨h1, h2, h3, h4, h5⟩ | ⟨h1, h2, h3, h4, h5, h6⟩ | ⟨h1, h2, h3, h4, h5, h6, h7⟩
          iterate 5
            · go_wp2_with (at_mapUpdate; go_must (refine wpList_mp_store _ rfl _ _ _ 70 rfl intKey kI_inj Try.underlying70 rfl hMA rfl (kI_ok hnum) (u := true) rfl ?_); intro w3 hM3 hT3; have hX3b := hT3.kept.blk hXA (by omega); have hB3b := hT3.kept.blk hBA (by omega); have hX3 := hX3b.cells; have hB3 := hB3b.cells)
              go_ret
              exact ⟨by rw [HCT.out]; rfl, (HBW _ hT3).out⟩
          · have HO := Lib.hid (show oddB ts = true from by simp [oddB, h6])
            go_wp2_with (at_mapUpdate; go_must (refine wpList_mp_store _ rfl _ _ _ 70 rfl intKey kI_inj Try.underlying70 rfl hMA rfl (kI_ok hnum) (u := true) rfl ?_); intro w3 hM3 hT3; have hX3b := hT3.kept.blk hXA (by omega); have hB3b := hT3.kept.blk hBA (by omega); have hX3 := hX3b.cells; have hB3 := hB3b.cells)
            refine (odd_is ts _ hsz HO.out).mono ?_
            rintro e w' ⟨rfl, rfl⟩
            go_wp2
            go_ret
            exact ⟨by rw [HCT.out]; rfl, (HBW _ hT3).out⟩
          · have HO := Lib.hid (show oddB ts = false from by simp [oddB]; omega)
            unfold gtS at h7
            go_wp2_with (at_mapUpdate; go_must (refine wpList_mp_store _ rfl _ _ _ 70 rfl intKey kI_inj Try.underlying70 rfl hMA rfl (kI_ok hnum) (u := true) rfl ?_); intro w3 hM3 hT3; have hX3b := hT3.kept.blk hXA (by omega); have hB3b := hT3.kept.blk hBA (by omega); have hX3 := hX3b.cells; have hB3 := hB3b.cells)
            refine (odd_is ts _ hsz HO.out).mono ?_
            rintro e w' ⟨rfl, rfl⟩
            go_wp2
            go_ret
            exact ⟨by rw [HCT.out]; rfl, (HBW _ hT3).out⟩
        | false =>
          have HT := HT1 hbad
          have hcs := tabBad_ok hbad
          dsimp only at hcs
          obtain ⟨h1, h2, h3, h4, h5, h6, h7⟩ := hcs
          unfold gtS at h7
          have HO := Lib.hid (show oddB ts = false from by simp [oddB]; omega)
          have HBW := fun (w3 : World) (hT3 : Turned (wr.alloc (.cells #[.int .i64 tn, .int .i64 tl, .int .i64 ts, .string tf, .string tla] 38)) w3 (w.heap.size + 1)) => Lib.hid (hb2.trans ((HK3 w3 hT3).out.below fun b hb => ⟨by omega, by omega⟩))
          clear hbad hCT HT1
          cases i with
          | zero =>
            simp only [Nat.zero_mul, Nat.add_zero] at c0 c1 c2 c3 c4
            go_wp2_with (at_mapUpdate; go_must (refine wpList_mp_store _ rfl _ _ _ 70 rfl intKey kI_inj Try.underlying70 rfl hMA rfl (kI_ok hnum) (u := true) rfl ?_); intro w3 hM3 hT3; have hX3b := hT3.kept.blk hXA (by omega); have hB3b := hT3.kept.blk hBA (by omega); have hX3 := hX3b.cells; have hB3 := hB3b.cells)
            refine (odd_is ts _ hsz HO.out).mono ?_
            rintro e w' ⟨rfl, rfl⟩
            go_wp2
            go_roundw
            case rel => exact ⟨1, by omega, by go_num, by rw [HN.out]; exact hM3, HT.out, fun _ _ h => absurd h (by omega), (HK3 w3 hT3).out⟩
            case measure => simp [intOf]; omega
          | succ n =>
            have HT2 := fun (h : pairBad l[n] l[n + 1] = false) => Lib.hid (upto_pair HPB.out h)
            have hCP := fun h => CP n hlt h
            have HD : ∀ (w3 : World), Turned (wr.alloc (.cells #[.int .i64 tn, .int .i64 tl, .int .i64 ts, .string tf, .string tla] 38)) w3 (w.heap.size + 1) → w3.cell? ⟨b, off + n * 5, none⟩ = some (.int .i64 l[n].num) ∧ w3.cell? ⟨b, off + n * 5 + 1, none⟩ = some (.int .i64 l[n].lvl) ∧ w3.cell? ⟨b, off + n * 5 + 2, none⟩ = some (.int .i64 l[n].size) ∧ w3.cell? ⟨b, off + n * 5 + 3, none⟩ = some (.string l[n].first) ∧ w3.cell? ⟨b, off + n * 5 + 4, none⟩ = some (.string l[n].last) := fun w3 hT3 => by
              obtain ⟨c0, c1, c2, c3, c4⟩ := HCS.out n (by omega)
              have hne : b ≠ w.heap.size + 1 := by omega
              have hlk : ∀ o u, wr.cell? ⟨b, o, none⟩ = some u → w3.cell? ⟨b, o, none⟩ = some u := fun o u h => (World.cell?_of_block (a := ⟨b, o, none⟩) (hT3.kept.block b hne)).trans ((Below.cell ((Below.refl wr.heap.size wr).alloc (Nat.le_refl _) _) (p := ⟨b, o, none⟩) (by show b < _; omega)).trans h)
              exact ⟨hlk _ _ c0, hlk _ _ c1, hlk _ _ c2, hlk _ _ c3, hlk _ _ c4⟩
            have HTT2 := HTT.out
            rw [← HTT2] at HT2 hCP
            obtain ⟨u, hu⟩ : ∃ u, u = l[n] := ⟨_, rfl⟩
            rw [← hu] at HT2 hCP HD
            clear hu HTT2
            obtain ⟨un, ul, us, uf, ula⟩ := u
            dsimp only at HD
            have hord := order_any ⟨un, ul, us, uf, ula⟩ ⟨tn, tl, ts, tf, tla⟩
            have HFIN := fun (w3 w4 : World) (hT3 : Turned (wr.alloc (.cells #[.int .i64 tn, .int .i64 tl, .int .i64 ts, .string tf, .string tla] 38)) w3 (w.heap.size + 1)) (hG4 : Gr (w3.alloc (.cells #[.int .i64 un, .int .i64 ul, .int .i64 us, .string uf, .string ula] 38)) w4) =>
              Lib.hid (show Kept (fun b => b < w.heap.size + 2 ∧ b ≠ w.heap.size + 1) w2 w4 from by
                have hs3 : w.heap.size + 2 ≤ w3.heap.size := by have := hT3.size; simp at this; omega
                exact ((HK3 w3 hT3).out.alloc (fun b h => by omega) _).trans (Below.kept hG4.below (fun b h => by simp; omega)))
            have HMP := fun (w3 w4 : World) (hT3 : Turned (wr.alloc (.cells #[.int .i64 tn, .int .i64 tl, .int .i64 ts, .string tf, .string tla] 38)) w3 (w.heap.size + 1)) (hG4 : Gr (w3.alloc (.cells #[.int .i64 un, .int .i64 ul, .int .i64 us, .string uf, .string ula] 38)) w4) (hM3 : Mp Try.prog 3 kI kB w3 (w.heap.size + 1) (putA (numsM (l.take (n + 1))) tn true)) =>
              Lib.hid (show Mp Try.prog 3 kI kB w4 (w.heap.size + 1) (numsM (l.take (n + 1 + 1))) from by
                rw [HN.out]
                exact (hM3.below ((Below.refl _ _).alloc (Nat.le_refl _) _)).below hG4.below)
            cases hpb : pairBad ⟨un, ul, us, uf, ula⟩ ⟨tn, tl, ts, tf, tla⟩ with
            | true =>
              have HCP := hCP hpb
              have hcs := pairBad_cases hpb
              clear hpb hCP HT2
              rcases hcs with g1 | ⟨g1, g2, g3, g4⟩
              · have hr := ord_ge g1
                generalize ordT ⟨un, ul, us, uf, ula⟩ ⟨tn, tl, ts, tf, tla⟩ = r at *
                unfold tV at hord
                dsimp only at hord
                clear g1
                go_wp2_with (at_mapUpdate; go_must (refine wpList_mp_store _ rfl _ _ _ 70 rfl intKey kI_inj Try.underlying70 rfl hMA rfl (kI_ok hnum) (u := true) rfl ?_); intro w3 hM3 hT3; have hX3b := hT3.kept.blk hXA (by omega); have hB3b := hT3.kept.blk hBA (by omega); have hX3 := hX3b.cells; have hB3 := hB3b.cells; have hd := HD w3 hT3; have hX3c := (hX3b.alloc (.cells #[.int .i64 un, .int .i64 ul, .int .i64 us, .string uf, .string ula] 38)).cells; have hB3c := (hB3b.alloc (.cells #[.int .i64 un, .int .i64 ul, .int .i64 us, .string uf, .string ula] 38)).cells; obtain ⟨d0, d1, d2, d3, d4⟩ := hd)
                refine (odd_is ts _ hsz HO.out).mono ?_
                rintro e w' ⟨rfl, rfl⟩
                go_wp2_with fail
                refine (hord _).mono ?_
                rintro e w4 ⟨rfl, hG4⟩
                go_wp2
                go_ret
                exact ⟨by rw [HCP.out]; rfl, hb2.trans ((HFIN w3 w4 hT3 hG4).out.below fun b hb => ⟨by omega, by omega⟩)⟩
              · have hr := ord_lt g1
                dsimp only at g2 g3 g4
                subst g2
                unfold ltS at g4
                generalize ordT ⟨un, ul, us, uf, ula⟩ ⟨tn, ul, ts, tf, tla⟩ = r at *
                unfold tV at hord
                dsimp only at hord
                clear g1
                go_wp2_with (at_mapUpdate; go_must (refine wpList_mp_store _ rfl _ _ _ 70 rfl intKey kI_inj Try.underlying70 rfl hMA rfl (kI_ok hnum) (u := true) rfl ?_); intro w3 hM3 hT3; have hX3b := hT3.kept.blk hXA (by omega); have hB3b := hT3.kept.blk hBA (by omega); have hX3 := hX3b.cells; have hB3 := hB3b.cells; have hd := HD w3 hT3; have hX3c := (hX3b.alloc (.cells #[.int .i64 un, .int .i64 ul, .int .i64 us, .string uf, .string ula] 38)).cells; have hB3c := (hB3b.alloc (.cells #[.int .i64 un, .int .i64 ul, .int .i64 us, .string uf, .string ula] 38)).cells; obtain ⟨d0, d1, d2, d3, d4⟩ := hd)
                refine (odd_is ts _ hsz HO.out).mono ?_
                rintro e w' ⟨rfl, rfl⟩
                go_wp2_with fail
                refine (hord _).mono ?_
                rintro e w4 ⟨rfl, hG4⟩
                have hX4 := ((hX3b.alloc (.cells #[.int .i64 un, .int .i64 ul, .int .i64 us, .string uf, .string ula] 38)).below hG4.below).cells
                have hY4 := ((Blk.made w3 #[.int .i64 un, .int .i64 ul, .int .i64 us, .string uf, .string ula] 38).below hG4.below).cells
                go_wp2
                go_ret
                exact ⟨by rw [HCP.out]; rfl, hb2.trans ((HFIN w3 w4 hT3 hG4).out.below fun b hb => ⟨by omega, by omega⟩)⟩
            | false =>
              have HT3 := HT2 hpb
              obtain ⟨g1, hcs⟩ := pairBad_ok hpb
              have hr := ord_lt g1
              clear hpb hCP g1 HT2
              dsimp only at hcs
              generalize ordT ⟨un, ul, us, uf, ula⟩ ⟨tn, tl, ts, tf, tla⟩ = r at *
              unfold tV at hord
              dsimp only at hord
              rcases hcs with g2 | ⟨g2, g3⟩ | ⟨g2, g3, g4⟩
              · have g2' : (ul == tl) = false := by simpa using g2
                clear g2
                go_wp2_with (at_mapUpdate; go_must (refine wpList_mp_store _ rfl _ _ _ 70 rfl intKey kI_inj Try.underlying70 rfl hMA rfl (kI_ok hnum) (u := true) rfl ?_); intro w3 hM3 hT3; have hX3b := hT3.kept.blk hXA (by omega); have hB3b := hT3.kept.blk hBA (by omega); have hX3 := hX3b.cells; have hB3 := hB3b.cells; have hd := HD w3 hT3; have hX3c := (hX3b.alloc (.cells #[.int .i64 un, .int .i64 ul, .int .i64 us, .string uf, .string ula] 38)).cells; have hB3c := (hB3b.alloc (.cells #[.int .i64 un, .int .i64 ul, .int .i64 us, .string uf, .string ula] 38)).cells; obtain ⟨d0, d1, d2, d3, d4⟩ := hd)
                refine (odd_is ts _ hsz HO.out).mono ?_
                rintro e w' ⟨rfl, rfl⟩
                go_wp2_with fail
                refine (hord _).mono ?_
                rintro e w4 ⟨rfl, hG4⟩
                have hX4 := ((hX3b.alloc (.cells #[.int .i64 un, .int .i64 ul, .int .i64 us, .string uf, .string ula] 38)).below hG4.below).cells
                have hY4 := ((Blk.made w3 #[.int .i64 un, .int .i64 ul, .int .i64 us, .string uf, .string ula] 38).below hG4.below).cells
                go_wp2
                go_roundw
                case rel => exact ⟨n + 2, by omega, by go_num, (HMP w3 w4 hT3 hG4 hM3).out, HT.out, HT3.out, (HFIN w3 w4 hT3 hG4).out⟩
                case measure => simp [intOf]; omega
              all_goals
                subst g2
                try unfold ltS at g4
                go_wp2_with (at_mapUpdate; go_must (refine wpList_mp_store _ rfl _ _ _ 70 rfl intKey kI_inj Try.underlying70 rfl hMA rfl (kI_ok hnum) (u := true) rfl ?_); intro w3 hM3 hT3; have hX3b := hT3.kept.blk hXA (by omega); have hB3b := hT3.kept.blk hBA (by omega); have hX3 := hX3b.cells; have hB3 := hB3b.cells; have hd := HD w3 hT3; have hX3c := (hX3b.alloc (.cells #[.int .i64 un, .int .i64 ul, .int .i64 us, .string uf, .string ula] 38)).cells; have hB3c := (hB3b.alloc (.cells #[.int .i64 un, .int .i64 ul, .int .i64 us, .string uf, .string ula] 38)).cells; obtain ⟨d0, d1, d2, d3, d4⟩ := hd)
                refine (odd_is ts _ hsz HO.out).mono ?_
                rintro e w' ⟨rfl, rfl⟩
                go_wp2_with fail
                refine (hord _).mono ?_
                rintro e w4 ⟨rfl, hG4⟩
                have hX4 := ((hX3b.alloc (.cells #[.int .i64 un, .int .i64 ul, .int .i64 us, .string uf, .string ula] 38)).below hG4.below).cells
                have hY4 := ((Blk.made w3 #[.int .i64 un, .int .i64 ul, .int .i64 us, .string uf, .string ula] 38).below hG4.below).cells
                go_wp2
                go_roundw
                case rel => exact ⟨n + 2, by omega, by go_num, (HMP w3 w4 hT3 hG4 hM3).out, HT.out, HT3.out, (HFIN w3 w4 hT3 hG4).out⟩
                case measure => simp [intOf]; omega
      · obtain rfl : i = l.length := by omega
        rw [List.take_length] at hMr
        have hBr := hk.blk HBX.out ⟨by omega, by omega⟩
        have hcBr := hBr.cells
        by_cases hnd : (l.map (·.num)).Nodup
        · have HC := CO (fun j hj => HTB.out j hj hj) (fun j hj => HPB.out j hj hj) hnd
          have hln : ((numsM l).length : Int) = l.length := by rw [numsM_nodup hnd]
          have HLN := Lib.hid hln
          clear hnd hln
          go_wp2_with (at_len; refine wpList_mp_len _ rfl _ 70 rfl Try.underlying70 rfl hMr ?_; rw [HLN.out])
          go_ret
          exact ⟨by rw [HC.out]; rfl, hbw⟩
        · have HC := CN hnd
          have hln : ((numsM l).length : Int) < l.length := by have := numsM_dup hnd; omega
          clear hnd
          go_wp2_with (at_len; refine wpList_mp_len _ rfl _ 70 rfl Try.underlying70 rfl hMr ?_)
          go_ret
          exact ⟨by rw [HC.out]; rfl, hbw⟩

end Go.Proofs.Ytkllfdfipkcddaa
