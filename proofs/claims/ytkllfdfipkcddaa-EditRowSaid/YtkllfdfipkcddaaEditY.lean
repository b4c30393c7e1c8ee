/- The walk of sentrylaw16.EditRow. No condition: lemmas. -/
import Derived.Test.YtkllfdfipkcddaaEditW
import Derived.Test.YtkllfdfipkcddaaEditPS
import Derived.Test.YtkllfdfipkcddaaRowkC
import Derived.Test.YtkllfdfipkcddaaEditX
namespace Go.Proofs.Ytkllfdfipkcddaa
open Go Go.RowKit

set_option maxRecDepth 100000 in
set_option maxHeartbeats 12800000 in
theorem rowlaw_any (tv av dv bv ev : Value) (v : Ver) (x y : Edi) (w : World) (ht : Sl (· < w.heap.size) w 5 tv (tcs v.tabs)) (ha : Sl (· < w.heap.size) w 5 av (tcs x.add)) (hd : Sl (· < w.heap.size) w 1 dv (ic x.drop))
    (hb : Sl (· < w.heap.size) w 5 bv (tcs y.add)) (he : Sl (· < w.heap.size) w 1 ev (ic y.drop)) (hv : v.Ok) (hx : x.Ok) (hy : y.Ok) :
    Calls Try.prog 4 #[vV tv v, eV av dv x, eV bv ev y] w (Ret (.bool true) w) := by
  have hb0 : Below w.heap.size w (((w.alloc (.cells (vC tv v) 25)).alloc (.cells (eC av dv x) 28)).alloc (.cells (eC bv ev y) 28)) := (((Below.refl _ _).alloc (Nat.le_refl _) _).alloc (by simp) _).alloc (by simp <;> omega) _
  have hA := ((Blk.made w (vC tv v) 25).alloc (.cells (eC av dv x) 28)).alloc (.cells (eC bv ev y) 28)
  have hX := (Blk.made' (w := w.alloc (.cells (vC tv v) 25)) (B := w.heap.size + 1) (by simp) (eC av dv x) 28).alloc (.cells (eC bv ev y) 28)
  have hY := Blk.made' (w := (w.alloc (.cells (vC tv v) 25)).alloc (.cells (eC av dv x) 28)) (B := w.heap.size + 2) (by simp) (eC bv ev y) 28
  have HFX := Lib.hid (fixed16_any (((w.alloc (.cells (vC tv v) 25)).alloc (.cells (eC av dv x) 28)).alloc (.cells (eC bv ev y) 28)))
  have ht0 := ht.up hb0
  have ha0 := ha.up hb0
  have hd0 := hd.up hb0
  have hbb0 := hb.up hb0
  have he0 := he.up hb0
  have HF := Lib.hid (fun W h => few16_any tv v W h hv.tabs)
  have HG := Lib.hid (fun W h1 h2 => few_any av dv x.add x.drop (.int .u64 x.floor) (.int .u64 x.head) (.int .i64 x.log) (.int .i64 x.next) W h1 h2 hx.add)
  have HH := Lib.hid (fun W h1 h2 => few_any bv ev y.add y.drop (.int .u64 y.floor) (.int .u64 y.head) (.int .i64 y.log) (.int .i64 y.next) W h1 h2 hy.add)
  have HL := Lib.hid (fun h => few_lens (add := v.tabs) (drop := []) h)
  have HL2 := Lib.hid (fun h => few_lens (add := x.add) (drop := x.drop) h)
  have HL3 := Lib.hid (fun h => few_lens (add := y.add) (drop := y.drop) h)
  have HP1 := Lib.hid (fun tv W h1 h2 h3 h4 h5 => apply_any tv av dv v x W h1 h2 h3 hv hx h4 h5)
  have HP2 := Lib.hid (fun tv W a h1 h2 h3 ha h4 h5 => apply_any tv bv ev a y W h1 h2 h3 ha hy h4 h5)
  have HP3 := Lib.hid (fun av dv W h1 h2 h3 h4 h5 => apply_any tv av dv v (bothE x y) W h1 h2 h3 hv (both_Ok hx hy) h4 h5)
  have HOK := Lib.hid (fun a n h => applyR_Ok (v := v) (a := a) (x := x) (n := n) h hv hx)
  have HBOTH := Lib.hid (fun a b h1 h2 h3 => apply_both (v := v) (a := a) (b := b) (x := x) (y := y) h1 h2 h3)
  generalize hr1 : applyR v x = r1 at *
  obtain ⟨a, ea⟩ := r1
  generalize hr2 : applyR a y = r2 at *
  obtain ⟨b, eb⟩ := r2
  have HOKA := Lib.hid (HOK.out a ea rfl)
  have HR2 := Lib.hid hr2
  have HFIN := Lib.hid (fun (h : ea = 0) (h2 : eb = 0) h3 => HBOTH.out a b (by rw [h]) (by rw [← h2]; exact hr2) h3)
  generalize applyR v (bothE x y) = rb at *
  clear HBOTH HOK hr1 hr2
  generalize fewL v.tabs [] = f1 at *
  generalize fewL x.add x.drop = f2 at *
  generalize fewL y.add y.drop = f3 at *
  obtain ⟨l, fl, hd', lg, nx⟩ := v
  obtain ⟨add, drop, efl, ehd, elg, enx⟩ := x
  obtain ⟨badd, bdrop, bfl, bhd, blg, bnx⟩ := y
  unfold vV eV at *
  unfold vC eC at *
  dsimp only at *
  clear ht ha hd hb he hv hx hy
  obtain ⟨ao, c, rfl, _, _, _⟩ := ht0.tabs
  obtain ⟨aao, acp, rfl, hac, ham, _⟩ := ha0.tabs
  obtain ⟨dao, dcp, rfl, _, _, _⟩ := hd0.ints
  obtain ⟨bao, bcp, rfl, _, _, _⟩ := hbb0.tabs
  obtain ⟨eao, ecp, rfl, hec, hem, _⟩ := he0.ints
  cases f1 with
  | false =>
    go_enter Try.func4, Try.ntmps4
    go_wp2_with fail
    refine HFX.out.mono ?_
    rintro e w1 ⟨rfl, hb1⟩
    have hAc := (hA.below hb1).cells
    have hB1 := hb0.trans (hb1.mono hb0.size)
    go_wp2_with fail
    refine (HF.out _ (ht0.up hb1)).mono ?_
    rintro e w2 ⟨rfl, hb2⟩
    go_wp2_with fail
    go_ret
    exact ⟨rfl, hB1.trans (hb2.mono hB1.size)⟩
  | true =>
    go_enter Try.func4, Try.ntmps4
    go_wp2_with fail
    refine HFX.out.mono ?_
    rintro e w1 ⟨rfl, hb1⟩
    have hAc := (hA.below hb1).cells
    have hB1 := hb0.trans (hb1.mono hb0.size)
    go_wp2_with fail
    refine (HF.out _ (ht0.up hb1)).mono ?_
    rintro e w2 ⟨rfl, hb2⟩
    have hXc := ((hX.below hb1).below hb2).cells
    have hB2 := hB1.trans (hb2.mono hB1.size)
    cases f2 with
    | false =>
      go_wp2_with fail
      refine (HG.out _ ((ha0.up hb1).up hb2) ((hd0.up hb1).up hb2)).mono ?_
      rintro e w3 ⟨rfl, hb3⟩
      go_wp2_with fail
      go_ret
      exact ⟨rfl, hB2.trans (hb3.mono hB2.size)⟩
    | true =>
      go_wp2_with fail
      refine (HG.out _ ((ha0.up hb1).up hb2) ((hd0.up hb1).up hb2)).mono ?_
      rintro e w3 ⟨rfl, hb3⟩
      have hYc := (((hY.below hb1).below hb2).below hb3).cells
      have hB3 := hB2.trans (hb3.mono hB2.size)
      cases f3 with
      | false =>
        go_wp2_with fail
        refine (HH.out _ (((hbb0.up hb1).up hb2).up hb3) (((he0.up hb1).up hb2).up hb3)).mono ?_
        rintro e w4 ⟨rfl, hb4⟩
        go_wp2_with fail
        go_ret
        exact ⟨rfl, hB3.trans (hb4.mono hB3.size)⟩
      | true =>
        go_wp2_with fail
        refine (HH.out _ (((hbb0.up hb1).up hb2).up hb3) (((he0.up hb1).up hb2).up hb3)).mono ?_
        rintro e w4 ⟨rfl, hb4⟩
        have hB4 := hB3.trans (hb4.mono hB3.size)
        have hA4 := (((hA.below hb1).below hb2).below hb3).below hb4
        have hX4 := (((hX.below hb1).below hb2).below hb3).below hb4
        have hY4 := (((hY.below hb1).below hb2).below hb3).below hb4
        have hT4 := (((ht0.up hb1).up hb2).up hb3).up hb4
        have ha4 := (((ha0.up hb1).up hb2).up hb3).up hb4
        have hd4 := (((hd0.up hb1).up hb2).up hb3).up hb4
        have hbb4 := (((hbb0.up hb1).up hb2).up hb3).up hb4
        have he4 := (((he0.up hb1).up hb2).up hb3).up hb4
        have hn1 := (HL.out (by trivial)).1
        have hn2 := HL2.out (by trivial)
        have hn3 := HL3.out (by trivial)
        clear hAc hXc hYc hb1 hb2 hb3 hb4 hB1 hB2 hB3 hA hX hY ht0 ha0 hd0 hbb0 he0 hb0 HFX HF HG HH HL HL2 HL3
        obtain ⟨_, _, hcv, _, _, hacell⟩ := ha4.tabs
        cases hcv
        obtain ⟨_, _, hcv, _, _, hecell⟩ := he4.ints
        cases hcv
        have HAC := Lib.hid hacell
        have HEC := Lib.hid hecell
        have hYc := hY4.cells
        have hxlt := hX4.lt
        have hylt := hY4.lt
        clear hacell hecell
        go_wp2_with fail
        clear hYc
        go_loopw [36] (fun ii wr => ∃ i : Nat, i ≤ bdrop.length ∧ ii = .int .i64 i ∧ (∀ j (hj : j < bdrop.length), j < i → hasN add bdrop[j] = false) ∧ Below w4.heap.size w4 wr) (fun ii _ => bdrop.length - (intOf ii).toNat)
        case atStart => exact ⟨0, by omega, rfl, fun _ _ h => absurd h (by omega), Below.refl _ _⟩
        case round =>
          obtain ⟨i, hi, rfl, hall, hbel⟩ := hrel
          have HALL := Lib.hid hall
          clear hall
          by_cases hlt : i < bdrop.length
          · obtain ⟨b1, off, rfl, hbb1, hc⟩ := HEC.out (by omega)
            have c0 := (hbel.cell (p := ⟨b1, off + i, none⟩) hbb1).trans (hc i hlt)
            have HN := fun (h : hasN add bdrop[i] = false) => Lib.hid (upto_succ (p := fun j hj => hasN add bdrop[j] = false) HALL.out hlt h)
            have hXc := (hX4.below hbel).cells
            clear hc
            generalize bdrop[i] = n at *
            obtain ⟨wo, hwo⟩ : ∃ wo : World, wo = wr := ⟨_, rfl⟩
            subst hwo
            go_wp2_with fail
            clear hXc c0
            go_loopw [43] (fun jj wz => ∃ j : Nat, j ≤ add.length ∧ jj = .int .i64 j ∧ (∀ k (hk : k < add.length), k < j → add[k].num ≠ n) ∧ Below wo.heap.size wo wz) (fun jj _ => add.length - (intOf jj).toNat)
            case atStart => exact ⟨0, by omega, rfl, fun _ _ h => absurd h (by omega), Below.refl _ _⟩
            case round =>
              obtain ⟨j, hj, rfl, hno, hbz⟩ := hrel
              have HNO := Lib.hid hno
              clear hno
              have hbw := hbel.trans (hbz.mono hbel.size)
              by_cases hjl : j < add.length
              · obtain ⟨b2, off2, rfl, hb2', hc2⟩ := HAC.out (by omega)
                obtain ⟨d0, d1, d2, d3, d4⟩ := hc2 j hjl
                have d0 := (hbw.cell (p := ⟨b2, off2 + j * 5, none⟩) hb2').trans d0
                have d1 := (hbw.cell (p := ⟨b2, off2 + j * 5 + 1, none⟩) hb2').trans d1
                have d2 := (hbw.cell (p := ⟨b2, off2 + j * 5 + 2, none⟩) hb2').trans d2
                have d3 := (hbw.cell (p := ⟨b2, off2 + j * 5 + 3, none⟩) hb2').trans d3
                have d4 := (hbw.cell (p := ⟨b2, off2 + j * 5 + 4, none⟩) hb2').trans d4
                have HN2 := fun (h : add[j].num ≠ n) => Lib.hid (upto_succ (p := fun k hk => add[k].num ≠ n) HNO.out hjl h)
                clear hc2
                generalize add[j] = u at *
                obtain ⟨un, ul, us, uf, ula⟩ := u
                dsimp only at *
                have hcT := (Blk.made wr #[.int .i64 un, .int .i64 ul, .int .i64 us, .string uf, .string ula] 38).cells
                have hbz2 := hbz.alloc hbz.size (.cells #[.int .i64 un, .int .i64 ul, .int .i64 us, .string uf, .string ula] 38)
                by_cases hen : un = n
                · subst hen
                  have hfin := hbel.trans (hbz2.mono hbel.size)
                  clear HN2
                  go_wp2
                  go_ret
                  exact ⟨rfl, hB4.trans (hfin.mono hB4.size)⟩
                · have HH := HN2 hen
                  have he2 : (un == n) = false := by simpa using hen
                  clear HN2 hen
                  go_wp2
                  go_roundw
                  case rel => exact ⟨j + 1, by omega, by go_num, HH.out, hbz2⟩
                  case measure => simp [intOf]; omega
              · obtain rfl : j = add.length := by omega
                have hno2 : hasN add n = false := by
                  rw [Bool.eq_false_iff]
                  intro h
                  obtain ⟨p, hp, e⟩ := hasN_at h
                  exact HNO.out p hp hp e
                have HH := HN hno2
                clear HN
                go_wp2
                go_roundw
                case rel => exact ⟨i + 1, by omega, by go_num, HH.out, hbw⟩
                case measure => simp [intOf]; omega
          · obtain rfl : i = bdrop.length := by omega
            have hno : ∀ n ∈ bdrop, hasN add n = false := fun n hn => by
              obtain ⟨j, hj, rfl⟩ := List.getElem_of_mem hn
              exact HALL.out j hj hj
            have HNO := Lib.hid hno
            clear hno
            have hA5 := hA4.below hbel
            have hX5 := hX4.below hbel
            have hY5 := hY4.below hbel
            have hT5 := hT4.up hbel
            have ha5 := ha4.up hbel
            have hd5 := hd4.up hbel
            have hbb5 := hbb4.up hbel
            have he5 := he4.up hbel
            have hB5 := hB4.trans (hbel.mono hB4.size)
            have hAc := hA5.cells
            have hXc := hX5.cells
            obtain ⟨al, af, ah, alg, anx⟩ := a
            obtain ⟨bl, bf, bh, blg', bnx'⟩ := b
            dsimp only at *
            clear HALL hA4 hX4 hY4 hT4 ha4 hd4 hbb4 he4 hB4 HAC HEC
            go_wp2_with fail
            refine (HP1.out _ wr hT5 ha5 hd5 (by omega) (by omega)).mono ?_
            rintro e w6 ⟨uv, rfl, hS6, hb6⟩
            obtain ⟨uo, uc, rfl, _, _, _⟩ := hS6.tabs
            unfold vV
            dsimp only at *
            have hE7 : Below w6.heap.size w6 (w6.alloc (.cells #[.slice uo al.length uc, .int .u64 af, .int .u64 ah, .int .i64 alg, .int .i64 anx] 25)) := (Below.refl _ _).alloc (Nat.le_refl _) _
            have hU7 := Blk.made w6 #[.slice uo al.length uc, .int .u64 af, .int .u64 ah, .int .i64 alg, .int .i64 anx] 25
            have hA7 := (hA5.below hb6).below hE7
            have hX7 := (hX5.below hb6).below hE7
            have hY7 := (hY5.below hb6).below hE7
            have hT7 := (hT5.up hb6).up hE7
            have ha7 := (ha5.up hb6).up hE7
            have hd7 := (hd5.up hb6).up hE7
            have hbb7 := (hbb5.up hb6).up hE7
            have he7 := (he5.up hb6).up hE7
            have hS7 := hS6.up hE7
            have hB7 := (hB5.trans (hb6.mono hB5.size)).trans (hE7.mono (Nat.le_trans hB5.size hb6.size))
            have hUc := hU7.cells
            have hYc := hY7.cells
            have hult := hU7.lt
            have hul : w.heap.size + 2 < w6.heap.size := by have := hY5.lt; have := hb6.size; omega
            clear hAc hXc hA5 hX5 hY5 hT5 ha5 hd5 hbb5 he5 hB5 hb6 hS6 hE7 hbel
            go_wp2_with fail
            generalize w6.alloc (.cells #[.slice uo al.length uc, .int .u64 af, .int .u64 ah, .int .i64 alg, .int .i64 anx] 25) = w7 at *
            have hAO := HOKA.out
            have hP2 := HP2.out (.slice uo al.length uc) w7 ⟨al, af, ah, alg, anx⟩ hS7 hbb7 he7 hAO.1 (by have := hAO.2; show al.length ≤ 1000; omega) (by omega)
            rw [HR2.out] at hP2
            have HP2 := Lib.hid hP2
            clear hP2 HOKA
            refine HP2.out.mono ?_
            rintro e w8 ⟨bv', rfl, hS8, hb8⟩
            obtain ⟨xo, xc, rfl, _, _, _⟩ := hS8.tabs
            unfold vV
            dsimp only at *
            have hE9 : Below w8.heap.size w8 (w8.alloc (.cells #[.slice xo bl.length xc, .int .u64 bf, .int .u64 bh, .int .i64 blg', .int .i64 bnx'] 25)) := (Below.refl _ _).alloc (Nat.le_refl _) _
            have hV9 := Blk.made w8 #[.slice xo bl.length xc, .int .u64 bf, .int .u64 bh, .int .i64 blg', .int .i64 bnx'] 25
            have hA9 := (hA7.below hb8).below hE9
            have hX9 := (hX7.below hb8).below hE9
            have hY9 := (hY7.below hb8).below hE9
            have hT9 := (hT7.up hb8).up hE9
            have ha9 := (ha7.up hb8).up hE9
            have hd9 := (hd7.up hb8).up hE9
            have hbb9 := (hbb7.up hb8).up hE9
            have he9 := (he7.up hb8).up hE9
            have hS9 := hS8.up hE9
            have hB9 := (hB7.trans (hb8.mono hB7.size)).trans (hE9.mono (Nat.le_trans hB7.size hb8.size))
            clear hUc hYc hA7 hX7 hY7 hT7 ha7 hd7 hbb7 he7 hB7 hS7 hU7 hb8 hS8 hE9 HP2 HR2
            by_cases hea : ea = 0
            · by_cases heb : eb = 0
              · have hfin := HFIN.out hea heb HNO.out
                subst hea heb
                have hP3 := fun av dv W h1 h2 h3 => HP3.out av dv W h1 h2 h3 (by omega) (by unfold bothE; simp; omega)
                rw [hfin] at hP3
                unfold bothE at hP3
                dsimp only at hP3
                obtain ⟨mf, hmf⟩ : ∃ mf : Nat, max (efl : Int) (bfl : Int) = mf := ⟨max efl bfl, by omega⟩
                obtain ⟨mh, hmh⟩ : ∃ mh : Nat, max (ehd : Int) (bhd : Int) = mh := ⟨max ehd bhd, by omega⟩
                have hmf' : max efl bfl = mf := by omega
                have hmh' : max ehd bhd = mh := by omega
                rw [hmf', hmh'] at hP3
                have HP3' := Lib.hid hP3
                clear hP3 HP3 HFIN HNO hmf' hmh' hfin
                go_wp2_with fail
                generalize w8.alloc (.cells #[.slice xo bl.length xc, .int .u64 bf, .int .u64 bh, .int .i64 blg', .int .i64 bnx'] 25) = w9 at *
                obtain ⟨wd, hwd⟩ : ∃ wd, wd = w9.drew := ⟨_, rfl⟩
                have hAd : Blk wd w.heap.size #[.slice ao l.length c, .int .u64 fl, .int .u64 hd', .int .i64 lg, .int .i64 nx] 25 := by rw [hwd]; exact hA9.drew
                have hVd : Blk wd w8.heap.size #[.slice xo bl.length xc, .int .u64 bf, .int .u64 bh, .int .i64 blg', .int .i64 bnx'] 25 := by rw [hwd]; exact hV9.drew
                have hXW : ∀ W, Ext w9.drew W → ∀ i, W.cell? ⟨w.heap.size + 1, i, none⟩ = (#[.slice aao add.length acp, .slice dao drop.length dcp, .int .u64 efl, .int .u64 ehd, .int .i64 elg, .int .i64 enx] : Array Value)[i]? := fun W h => (hX9.drew.below h).cells
                have hYW : ∀ W, Ext w9.drew W → ∀ i, W.cell? ⟨w.heap.size + 2, i, none⟩ = (#[.slice bao badd.length bcp, .slice eao bdrop.length ecp, .int .u64 bfl, .int .u64 bhd, .int .i64 blg, .int .i64 bnx] : Array Value)[i]? := fun W h => (hY9.drew.below h).cells
                have HS1 : Sl (· < wd.heap.size) wd 5 (.slice aao add.length acp) (tcs add) := by rw [hwd]; exact ha9
                have HS2 : Sl (· < wd.heap.size) wd 5 (.slice bao badd.length bcp) (tcs badd) := by rw [hwd]; exact hbb9
                have HS3 : Sl (· < wd.heap.size) wd 1 (.slice dao drop.length dcp) (ic drop) := by rw [hwd]; exact hd9
                have HS4 : Sl (· < wd.heap.size) wd 1 (.slice eao bdrop.length ecp) (ic bdrop) := by rw [hwd]; exact he9
                have HSV : Sl (· < wd.heap.size) wd 5 (.slice xo bl.length xc) (tcs bl) := by rw [hwd]; exact hS9
                have HTV : Sl (· < wd.heap.size) wd 5 (.slice ao l.length c) (tcs l) := by rw [hwd]; exact hT9
                have hBd : Below w.heap.size w wd := by rw [hwd]; exact hB9.drew
                have HS1 := Lib.hid HS1
                have HS2 := Lib.hid HS2
                have HS3 := Lib.hid HS3
                have HS4 := Lib.hid HS4
                have HSV := Lib.hid HSV
                have HTV := Lib.hid HTV
                refine region_walkN (Ext w9.drew) (Ext.refl _) (by kernel_rfl) (by kernel_rfl) (fun _ _ d _ _ h => by cases d <;> exact h) ?_
                rw [← hwd] at hXW hYW ⊢
                clear hwd hA9 hX9 hY9 hV9 hT9 ha9 hd9 hbb9 he9 hS9 hB9
                ((refine WalkN.take 1 _ ?_ (by simp only [List.getElem?_toArray, List.getElem?_cons_succ, List.getElem?_cons_zero]; rfl) (by kernel_rfl) (by kernel_rfl) (by rfl) (fun W hW => ?_) ?_; rotate_left; · (go_simp; try with_reducible rfl)); simp only [Act.put, List.setIfInBounds_toArray, List.set_cons_zero, List.set_cons_succ]); ((refine WalkN.take 2 _ ?_ (by simp only [List.getElem?_toArray, List.getElem?_cons_succ, List.getElem?_cons_zero]; rfl) (by kernel_rfl) (by kernel_rfl) (by rfl) (fun W hW => ?_) ?_; rotate_left; · (go_simp; try with_reducible rfl)); simp only [Act.put, List.setIfInBounds_toArray, List.set_cons_zero, List.set_cons_succ]); ((refine WalkN.take 4 _ ?_ (by simp only [List.getElem?_toArray, List.getElem?_cons_succ, List.getElem?_cons_zero]; rfl) (by kernel_rfl) (by kernel_rfl) (by rfl) (fun W hW => ?_) ?_; rotate_left; · (go_simp; try with_reducible rfl)); simp only [Act.put, List.setIfInBounds_toArray, List.set_cons_zero, List.set_cons_succ]); ((refine WalkN.take 5 _ ?_ (by simp only [List.getElem?_toArray, List.getElem?_cons_succ, List.getElem?_cons_zero]; rfl) (by kernel_rfl) (by kernel_rfl) (by rfl) (fun W hW => ?_) ?_; rotate_left; · (go_simp; try with_reducible rfl)); simp only [Act.put, List.setIfInBounds_toArray, List.set_cons_zero, List.set_cons_succ]); ((refine WalkN.take 8 _ ?_ (by simp only [List.getElem?_toArray, List.getElem?_cons_succ, List.getElem?_cons_zero]; rfl) (by kernel_rfl) (by kernel_rfl) (by rfl) (fun W hW => ?_) ?_; rotate_left; · (go_simp; try with_reducible rfl)); simp only [Act.put, List.setIfInBounds_toArray, List.set_cons_zero, List.set_cons_succ]); ((refine WalkN.take 9 _ ?_ (by simp only [List.getElem?_toArray, List.getElem?_cons_succ, List.getElem?_cons_zero]; rfl) (by kernel_rfl) (by kernel_rfl) (by rfl) (fun W hW => ?_) ?_; rotate_left; · (go_simp; try with_reducible rfl)); simp only [Act.put, List.setIfInBounds_toArray, List.set_cons_zero, List.set_cons_succ]); ((refine WalkN.take 11 _ ?_ (by simp only [List.getElem?_toArray, List.getElem?_cons_succ, List.getElem?_cons_zero]; rfl) (by kernel_rfl) (by kernel_rfl) (by rfl) (fun W hW => ?_) ?_; rotate_left; · (go_simp; try with_reducible rfl)); simp only [Act.put, List.setIfInBounds_toArray, List.set_cons_zero, List.set_cons_succ]); ((refine WalkN.take 12 _ ?_ (by simp only [List.getElem?_toArray, List.getElem?_cons_succ, List.getElem?_cons_zero]; rfl) (by kernel_rfl) (by kernel_rfl) (by rfl) (fun W hW => ?_) ?_; rotate_left; · (go_simp; try with_reducible rfl)); simp only [Act.put, List.setIfInBounds_toArray, List.set_cons_zero, List.set_cons_succ]); ((refine WalkN.take 14 _ ?_ (by simp only [List.getElem?_toArray, List.getElem?_cons_succ, List.getElem?_cons_zero]; rfl) (by kernel_rfl) (by kernel_rfl) (by rfl) (fun W hW => ?_) ?_; rotate_left; · (go_simp; try with_reducible rfl)); simp only [Act.put, List.setIfInBounds_toArray, List.set_cons_zero, List.set_cons_succ]); ((refine WalkN.take 15 _ ?_ (by simp only [List.getElem?_toArray, List.getElem?_cons_succ, List.getElem?_cons_zero]; rfl) (by kernel_rfl) (by kernel_rfl) (by rfl) (fun W hW => ?_) ?_; rotate_left; · (go_simp; try with_reducible rfl)); simp only [Act.put, List.setIfInBounds_toArray, List.set_cons_zero, List.set_cons_succ]); ((refine WalkN.take 16 _ ?_ (by simp only [List.getElem?_toArray, List.getElem?_cons_succ, List.getElem?_cons_zero]; rfl) (by kernel_rfl) (by kernel_rfl) (by rfl) (fun W hW => ?_) ?_; rotate_left; · (go_simp; try with_reducible rfl)); simp only [Act.put, List.setIfInBounds_toArray, List.set_cons_zero, List.set_cons_succ]); ((refine WalkN.take 17 _ ?_ (by simp only [List.getElem?_toArray, List.getElem?_cons_succ, List.getElem?_cons_zero]; rfl) (by kernel_rfl) (by kernel_rfl) (by rfl) (fun W hW => ?_) ?_; rotate_left; · (go_simp; try with_reducible rfl)); simp only [Act.put, List.setIfInBounds_toArray, List.set_cons_zero, List.set_cons_succ]); ((refine WalkN.take 18 _ ?_ (by simp only [List.getElem?_toArray, List.getElem?_cons_succ, List.getElem?_cons_zero]; rfl) (by kernel_rfl) (by kernel_rfl) (by rfl) (fun W hW => ?_) ?_; rotate_left; · (go_simp; try with_reducible rfl)); simp only [Act.put, List.setIfInBounds_toArray, List.set_cons_zero, List.set_cons_succ]); ((refine WalkN.take 19 _ ?_ (by simp only [List.getElem?_toArray, List.getElem?_cons_succ, List.getElem?_cons_zero]; rfl) (by kernel_rfl) (by kernel_rfl) (by rfl) (fun W hW => ?_) ?_; rotate_left; · (go_simp; try with_reducible rfl)); simp only [Act.put, List.setIfInBounds_toArray, List.set_cons_zero, List.set_cons_succ]); ((refine WalkN.take 20 _ ?_ (by simp only [List.getElem?_toArray, List.getElem?_cons_succ, List.getElem?_cons_zero]; rfl) (by kernel_rfl) (by kernel_rfl) (by rfl) (fun W hW => ?_) ?_; rotate_left; · (go_simp; try with_reducible rfl)); simp only [Act.put, List.setIfInBounds_toArray, List.set_cons_zero, List.set_cons_succ]); ((refine WalkN.take 21 _ ?_ (by simp only [List.getElem?_toArray, List.getElem?_cons_succ, List.getElem?_cons_zero]; rfl) (by kernel_rfl) (by kernel_rfl) (by rfl) (fun W hW => ?_) ?_; rotate_left; · (go_simp; try with_reducible rfl)); simp only [Act.put, List.setIfInBounds_toArray, List.set_cons_zero, List.set_cons_succ]); ((refine WalkN.take 22 _ ?_ (by simp only [List.getElem?_toArray, List.getElem?_cons_succ, List.getElem?_cons_zero]; rfl) (by kernel_rfl) (by kernel_rfl) (by rfl) (fun W hW => ?_) ?_; rotate_left; · (go_simp; try with_reducible rfl)); simp only [Act.put, List.setIfInBounds_toArray, List.set_cons_zero, List.set_cons_succ]); ((refine WalkN.take 23 _ ?_ (by simp only [List.getElem?_toArray, List.getElem?_cons_succ, List.getElem?_cons_zero]; rfl) (by kernel_rfl) (by kernel_rfl) (by rfl) (fun W hW => ?_) ?_; rotate_left; · (go_simp; try with_reducible rfl)); simp only [Act.put, List.setIfInBounds_toArray, List.set_cons_zero, List.set_cons_succ]); ((refine WalkN.take 24 _ ?_ (by simp only [List.getElem?_toArray, List.getElem?_cons_succ, List.getElem?_cons_zero]; rfl) (by kernel_rfl) (by kernel_rfl) (by rfl) (fun W hW => ?_) ?_; rotate_left; · (go_simp; try with_reducible rfl)); simp only [Act.put, List.setIfInBounds_toArray, List.set_cons_zero, List.set_cons_succ]); ((refine WalkN.take 25 _ ?_ (by simp only [List.getElem?_toArray, List.getElem?_cons_succ, List.getElem?_cons_zero]; rfl) (by kernel_rfl) (by kernel_rfl) (by rfl) (fun W hW => ?_) ?_; rotate_left; · (go_simp; try with_reducible rfl)); simp only [Act.put, List.setIfInBounds_toArray, List.set_cons_zero, List.set_cons_succ]); ((refine WalkN.take 26 _ ?_ (by simp only [List.getElem?_toArray, List.getElem?_cons_succ, List.getElem?_cons_zero]; rfl) (by kernel_rfl) (by kernel_rfl) (by rfl) (fun W hW => ?_) ?_; rotate_left; · (go_simp; try with_reducible rfl)); simp only [Act.put, List.setIfInBounds_toArray, List.set_cons_zero, List.set_cons_succ]); ((refine WalkN.take 27 _ ?_ (by simp only [List.getElem?_toArray, List.getElem?_cons_succ, List.getElem?_cons_zero]; rfl) (by kernel_rfl) (by kernel_rfl) (by rfl) (fun W hW => ?_) ?_; rotate_left; · (go_simp; try with_reducible rfl)); simp only [Act.put, List.setIfInBounds_toArray, List.set_cons_zero, List.set_cons_succ]); ((refine WalkN.take 28 _ ?_ (by simp only [List.getElem?_toArray, List.getElem?_cons_succ, List.getElem?_cons_zero]; rfl) (by kernel_rfl) (by kernel_rfl) (by rfl) (fun W hW => ?_) ?_; rotate_left; · (go_simp; try with_reducible rfl)); simp only [Act.put, List.setIfInBounds_toArray, List.set_cons_zero, List.set_cons_succ]); ((refine WalkN.take 29 _ ?_ (by simp only [List.getElem?_toArray, List.getElem?_cons_succ, List.getElem?_cons_zero]; rfl) (by kernel_rfl) (by kernel_rfl) (by rfl) (fun W hW => ?_) ?_; rotate_left; · (go_simp; try with_reducible rfl)); simp only [Act.put, List.setIfInBounds_toArray, List.set_cons_zero, List.set_cons_succ]); ((refine WalkN.take 30 _ ?_ (by simp only [List.getElem?_toArray, List.getElem?_cons_succ, List.getElem?_cons_zero]; rfl) (by kernel_rfl) (by kernel_rfl) (by rfl) (fun W hW => ?_) ?_; rotate_left; · (go_simp; try with_reducible rfl)); simp only [Act.put, List.setIfInBounds_toArray, List.set_cons_zero, List.set_cons_succ]); ((refine WalkN.take 31 _ ?_ (by simp only [List.getElem?_toArray, List.getElem?_cons_succ, List.getElem?_cons_zero]; rfl) (by kernel_rfl) (by kernel_rfl) (by rfl) (fun W hW => ?_) ?_; rotate_left; · (go_simp; try with_reducible rfl)); simp only [Act.put, List.setIfInBounds_toArray, List.set_cons_zero, List.set_cons_succ]); ((refine WalkN.take 32 _ ?_ (by simp only [List.getElem?_toArray, List.getElem?_cons_succ, List.getElem?_cons_zero]; rfl) (by kernel_rfl) (by kernel_rfl) (by rfl) (fun W hW => ?_) ?_; rotate_left; · (go_simp; try with_reducible rfl)); simp only [Act.put, List.setIfInBounds_toArray, List.set_cons_zero, List.set_cons_succ]); ((refine WalkN.take 33 _ ?_ (by simp only [List.getElem?_toArray, List.getElem?_cons_succ, List.getElem?_cons_zero]; rfl) (by kernel_rfl) (by kernel_rfl) (by rfl) (fun W hW => ?_) ?_; rotate_left; · (go_simp; try with_reducible rfl)); simp only [Act.put, List.setIfInBounds_toArray, List.set_cons_zero, List.set_cons_succ])
                clear hXW hYW
                have hl1 : (tcs add).length ≤ 200 := by rw [tcs_length]; omega
                have hl2 : (tcs badd).length ≤ 200 := by rw [tcs_length]; omega
                have hl3 : (ic drop).length ≤ 200 := by rw [ic_length]; omega
                have hl4 : (ic bdrop).length ≤ 200 := by rw [ic_length]; omega
                have hE : Ext wd wd := Ext.refl _
                have hE := Lib.hid hE
                refine WalkN.three 0 7 35 (by kernel_rfl) ?_ ?_ ?_
                · refine ⟨_, (by simp only [List.getElem?_toArray, List.getElem?_cons_zero]; rfl), by rfl, fun K hK => ?_⟩
                  go_simp
                  have hA0 := Ext.alloc wd (.cells #[] 38)
                  have hO0 := Own.made wd (B := wd.heap.size) hE.out.size 38 5
                  have hX0 := Ext.trans hE.out hA0
                  refine hK.out _ _ hX0 ?_
                  clear hK
                  generalize wd.alloc (.cells #[] 38) = u1 at *
                  have hE := Lib.hid hX0
                  have HT := Lib.hid hO0
                  clear hA0 hO0 hX0
                  refine WalkN.three 3 7 35 (by kernel_rfl) ?_ ?_ ?_
                  · refine ⟨_, (by simp only [List.getElem?_toArray, List.getElem?_cons_succ, List.getElem?_cons_zero]; rfl), by rfl, fun K hK => ?_⟩
                    refine wp_own tabsT (.tmp 71) (.tmp 73) rfl rfl HT.out rfl (HS1.out.same (Same.below hE.out)) (tcs_one _) (by rw [List.length_nil]; omega) (by rw [List.length_nil]; omega) hE.out.size (fun v1 u2 hown hb hg => ?_)
                    have hX1 : Ext wd u2 := Below.trans hE.out hb
                    refine hK.out _ _ hX1 ?_
                    clear hK
                    simp only [Act.put, List.setIfInBounds_toArray, List.set_cons_zero, List.set_cons_succ]
                    have hE := Lib.hid hX1
                    have HT := Lib.hid hown
                    clear hown hb hg hX1
                    refine WalkN.three 6 7 35 (by kernel_rfl) ?_ ?_ ?_
                    · refine ⟨_, (by simp only [List.getElem?_toArray, List.getElem?_cons_succ, List.getElem?_cons_zero]; rfl), by rfl, fun K hK => ?_⟩
                      refine wp_own tabsT (.tmp 74) (.tmp 76) rfl rfl HT.out rfl (HS2.out.same (Same.below hE.out)) (tcs_one _) (by rw [List.nil_append]; omega) (by rw [List.nil_append]; omega) hE.out.size (fun v2 u3 hown hb hg => ?_)
                      have hX2 : Ext wd u3 := Below.trans hE.out hb
                      refine hK.out _ _ hX2 ?_
                      clear hK
                      simp only [Act.put, List.setIfInBounds_toArray, List.set_cons_zero, List.set_cons_succ]
                      have hE := Lib.hid hX2
                      have HT := Lib.hid hown
                      clear hown hb hg hX2
                      refine WalkN.two 7 35 (by kernel_rfl) ?_ ?_
                      · refine ⟨_, (by simp only [List.getElem?_toArray, List.getElem?_cons_succ, List.getElem?_cons_zero]; rfl), by rfl, fun K hK => ?_⟩
                        go_simp
                        have hA3 := Ext.alloc u3 (.cells #[] 3)
                        have hO3 := Own.made u3 (B := wd.heap.size) hE.out.size 3 1
                        have hX3 := Ext.trans hE.out hA3
                        have hD3 := HT.out.below hA3
                        refine hK.out _ _ hX3 ?_
                        clear hK
                        generalize u3.alloc (.cells #[] 3) = u4 at *
                        have hE := Lib.hid hX3
                        have HD := Lib.hid hO3
                        have HT := Lib.hid hD3
                        clear hD3
                        clear hA3 hO3 hX3
                        refine WalkN.two 10 35 (by kernel_rfl) ?_ ?_
                        · refine ⟨_, (by simp only [List.getElem?_toArray, List.getElem?_cons_succ, List.getElem?_cons_zero]; rfl), by rfl, fun K hK => ?_⟩
                          refine wp_own intsT (.tmp 78) (.tmp 80) rfl rfl HD.out rfl (HS3.out.same (Same.below hE.out)) (ic_one _) (by rw [List.length_nil]; omega) (by rw [List.length_nil]; omega) hE.out.size (fun v4 u5 hown hb hg => ?_)
                          have hX4 : Ext wd u5 := Below.trans hE.out hb
                          have hD4 := HT.out.aside HD.out (by decide) hg
                          refine hK.out _ _ hX4 ?_
                          clear hK
                          simp only [Act.put, List.setIfInBounds_toArray, List.set_cons_zero, List.set_cons_succ]
                          have hE := Lib.hid hX4
                          have HD := Lib.hid hown
                          have HT := Lib.hid hD4
                          clear hown hb hg hX4 hD4
                          refine WalkN.two 13 35 (by kernel_rfl) ?_ ?_
                          · refine ⟨_, (by simp only [List.getElem?_toArray, List.getElem?_cons_succ, List.getElem?_cons_zero]; rfl), by rfl, fun K hK => ?_⟩
                            refine wp_own intsT (.tmp 81) (.tmp 83) rfl rfl HD.out rfl (HS4.out.same (Same.below hE.out)) (ic_one _) (by rw [List.nil_append]; omega) (by rw [List.nil_append]; omega) hE.out.size (fun v5 u6 hown hb hg => ?_)
                            have hX5 : Ext wd u6 := Below.trans hE.out hb
                            have hD5 := HT.out.aside HD.out (by decide) hg
                            refine hK.out _ _ hX5 ?_
                            clear hK
                            simp only [Act.put, List.setIfInBounds_toArray, List.set_cons_zero, List.set_cons_succ]
                            have hE := Lib.hid hX5
                            have HD := Lib.hid hown
                            have HT := Lib.hid hD5
                            clear hown hb hg hX5 hD5
                            obtain ⟨to, tn, tc, rfl, _, _⟩ := HT.out.sl.len
                            obtain ⟨yo, yn, yc, rfl, _, _⟩ := HD.out.sl.len
                            ((refine WalkN.take 34 _ ?_ (by simp only [List.getElem?_toArray, List.getElem?_cons_succ, List.getElem?_cons_zero]; rfl) (by kernel_rfl) (by kernel_rfl) (by rfl) (fun W hW => ?_) ?_; rotate_left; · (go_simp; try with_reducible rfl)); simp only [Act.put, List.setIfInBounds_toArray, List.set_cons_zero, List.set_cons_succ])
                            refine WalkN.one 35 (by kernel_rfl) ?_
                            refine ⟨_, (by simp only [List.getElem?_toArray, List.getElem?_cons_succ, List.getElem?_cons_zero]; rfl), by rfl, fun K hK => ?_⟩
                            go_simp
                            have hA6 := Ext.alloc u6 (.cells #[.slice none 0 0, .slice none 0 0, .int .u64 0, .int .u64 0, .int .i64 0, .int .i64 0] 28)
                            have hO6 := Blk.made u6 #[.slice none 0 0, .slice none 0 0, .int .u64 0, .int .u64 0, .int .i64 0, .int .i64 0] 28
                            have hX6 := Ext.trans hE.out hA6
                            have hp := hE.out.size
                            have hD6 := HT.out.below hA6
                            have hP6 := HD.out.below hA6
                            refine hK.out _ _ hX6 ?_
                            clear hK
                            generalize u6.alloc (.cells #[.slice none 0 0, .slice none 0 0, .int .u64 0, .int .u64 0, .int .i64 0, .int .i64 0] 28) = u7 at *
                            have hE := Lib.hid hX6
                            have HP := Lib.hid hO6
                            have HT := Lib.hid hD6
                            have HD := Lib.hid hP6
                            clear hD6
                            clear hP6
                            clear hA6 hO6 hX6
                            refine WalkN.one 36 (by kernel_rfl) ?_
                            have hPc := HP.out.cells
                            have hPf := HP.out.free
                            refine ⟨_, (by simp only [List.getElem?_toArray, List.getElem?_cons_succ, List.getElem?_cons_zero]; rfl), by rfl, fun K hK => ?_⟩
                            go_simp
                            have hX7 := below_set6 (b0 := .slice to tn tc) (b1 := .slice yo yn yc) (b2 := .int .u64 mf) (b3 := .int .u64 mh) (b4 := .int .i64 (max elg blg)) (b5 := .int .i64 (max enx bnx)) hE.out hp
                            have hT7 := own_set6 (b0 := .slice to tn tc) (b1 := .slice yo yn yc) (b2 := .int .u64 mf) (b3 := .int .u64 mh) (b4 := .int .i64 (max elg blg)) (b5 := .int .i64 (max enx bnx)) HT.out HP.out (by decide)
                            have hD7 := own_set6 (b0 := .slice to tn tc) (b1 := .slice yo yn yc) (b2 := .int .u64 mf) (b3 := .int .u64 mh) (b4 := .int .i64 (max elg blg)) (b5 := .int .i64 (max enx bnx)) HD.out HP.out (by decide)
                            have hP7 := blk_set6 (b0 := .slice to tn tc) (b1 := .slice yo yn yc) (b2 := .int .u64 mf) (b3 := .int .u64 mh) (b4 := .int .i64 (max elg blg)) (b5 := .int .i64 (max enx bnx)) HP.out
                            refine hK.out _ _ hX7 ?_
                            clear hK hPc hPf
                            generalize (((((u7.setCell ⟨_, 0, none⟩ (.slice to tn tc)).setCell ⟨_, 1, none⟩ (.slice yo yn yc)).setCell ⟨_, 2, none⟩ (.int .u64 mf)).setCell ⟨_, 3, none⟩ (.int .u64 mh)).setCell ⟨_, 4, none⟩ (.int .i64 (max elg blg))).setCell ⟨_, 5, none⟩ (.int .i64 (max enx bnx)) = u8 at *
                            clear HP HT HD hE
                            refine WalkN.done (by kernel_rfl) ?_
                            have hX8 : Ext wd u8 := hX7
                            rw [List.nil_append, ← tcs_append] at hT7
                            rw [List.nil_append, ← ic_append] at hD7
                            have hPc := hP7.cells
                            have hAc := (hAd.below hX8).cells
                            have hVc := (hVd.below hX8)
                            go_wp2_with fail
                            refine (HP3'.out _ _ _ (HTV.out.up hX8) (hT7.sl.mono fun b h => h.2) (hD7.sl.mono fun b h => h.2)).mono ?_
                            rintro e w9 ⟨cv, rfl, hS9, hb9⟩
                            obtain ⟨co, cc, rfl, _, _, _⟩ := hS9.tabs
                            unfold vV
                            dsimp only at *
                            have hE10 : Below w9.heap.size w9 (w9.alloc (.cells #[.slice co bl.length cc, .int .u64 bf, .int .u64 bh, .int .i64 blg', .int .i64 bnx'] 25)) := (Below.refl _ _).alloc (Nat.le_refl _) _
                            have hC10 := (Blk.made w9 #[.slice co bl.length cc, .int .u64 bf, .int .u64 bh, .int .i64 blg', .int .i64 bnx'] 25).cells
                            have hV10 := ((hVc.below hb9).below hE10).cells
                            have hSC := hS9.up hE10
                            have hSB := ((HSV.out.up hX8).up hb9).up hE10
                            have hBF : Below w.heap.size w (w9.alloc (.cells #[.slice co bl.length cc, .int .u64 bf, .int .u64 bh, .int .i64 blg', .int .i64 bnx'] 25)) := ((hBd.trans (Below.mono hX8 hBd.size)).trans (hb9.mono (Nat.le_trans hBd.size hX8.size))).trans (hE10.mono (Nat.le_trans (Nat.le_trans hBd.size hX8.size) hb9.size))
                            clear hPc hAc
                            go_wp2_with fail
                            refine (sameV_ok (.slice xo bl.length xc) (.slice co bl.length cc) ⟨bl, bf, bh, blg', bnx'⟩ _ hSB hSC).mono ?_
                            rintro e w11 ⟨rfl, hb11⟩
                            go_wp2
                            go_ret
                            exact ⟨rfl, hBF.trans (hb11.mono hBF.size)⟩
                          · refine ⟨_, (by simp only [List.getElem?_toArray, List.getElem?_cons_succ, List.getElem?_cons_zero]; rfl), by rfl, fun K hK => ?_⟩
                            go_simp
                            have hA5 := Ext.alloc u5 (.cells #[.slice none 0 0, .slice none 0 0, .int .u64 0, .int .u64 0, .int .i64 0, .int .i64 0] 28)
                            have hO5 := Blk.made u5 #[.slice none 0 0, .slice none 0 0, .int .u64 0, .int .u64 0, .int .i64 0, .int .i64 0] 28
                            have hX5 := Ext.trans hE.out hA5
                            have hp := hE.out.size
                            have hD5 := HT.out.below hA5
                            have hP5 := HD.out.below hA5
                            refine hK.out _ _ hX5 ?_
                            clear hK
                            generalize u5.alloc (.cells #[.slice none 0 0, .slice none 0 0, .int .u64 0, .int .u64 0, .int .i64 0, .int .i64 0] 28) = u6 at *
                            have hE := Lib.hid hX5
                            have HP := Lib.hid hO5
                            have HT := Lib.hid hD5
                            have HD := Lib.hid hP5
                            clear hD5
                            clear hP5
                            clear hA5 hO5 hX5
                            refine WalkN.one 13 (by kernel_rfl) ?_
                            refine ⟨_, (by simp only [List.getElem?_toArray, List.getElem?_cons_succ, List.getElem?_cons_zero]; rfl), by rfl, fun K hK => ?_⟩
                            refine wp_own intsT (.tmp 81) (.tmp 83) rfl rfl HD.out rfl (HS4.out.same (Same.below hE.out)) (ic_one _) (by rw [List.nil_append]; omega) (by rw [List.nil_append]; omega) hE.out.size (fun v6 u7 hown hb hg => ?_)
                            have hX6 : Ext wd u7 := Below.trans hE.out hb
                            have hD6 := HT.out.aside HD.out (by decide) hg
                            have hP6 := HP.out.aside HD.out (by decide) hg
                            refine hK.out _ _ hX6 ?_
                            clear hK
                            simp only [Act.put, List.setIfInBounds_toArray, List.set_cons_zero, List.set_cons_succ]
                            have hE := Lib.hid hX6
                            have HD := Lib.hid hown
                            have HT := Lib.hid hD6
                            have HP := Lib.hid hP6
                            clear hP6
                            clear hown hb hg hX6 hD6
                            obtain ⟨to, tn, tc, rfl, _, _⟩ := HT.out.sl.len
                            obtain ⟨yo, yn, yc, rfl, _, _⟩ := HD.out.sl.len
                            ((refine WalkN.take 34 _ ?_ (by simp only [List.getElem?_toArray, List.getElem?_cons_succ, List.getElem?_cons_zero]; rfl) (by kernel_rfl) (by kernel_rfl) (by rfl) (fun W hW => ?_) ?_; rotate_left; · (go_simp; try with_reducible rfl)); simp only [Act.put, List.setIfInBounds_toArray, List.set_cons_zero, List.set_cons_succ])
                            refine WalkN.one 36 (by kernel_rfl) ?_
                            have hPc := HP.out.cells
                            have hPf := HP.out.free
                            refine ⟨_, (by simp only [List.getElem?_toArray, List.getElem?_cons_succ, List.getElem?_cons_zero]; rfl), by rfl, fun K hK => ?_⟩
                            go_simp
                            have hX7 := below_set6 (b0 := .slice to tn tc) (b1 := .slice yo yn yc) (b2 := .int .u64 mf) (b3 := .int .u64 mh) (b4 := .int .i64 (max elg blg)) (b5 := .int .i64 (max enx bnx)) hE.out hp
                            have hT7 := own_set6 (b0 := .slice to tn tc) (b1 := .slice yo yn yc) (b2 := .int .u64 mf) (b3 := .int .u64 mh) (b4 := .int .i64 (max elg blg)) (b5 := .int .i64 (max enx bnx)) HT.out HP.out (by decide)
                            have hD7 := own_set6 (b0 := .slice to tn tc) (b1 := .slice yo yn yc) (b2 := .int .u64 mf) (b3 := .int .u64 mh) (b4 := .int .i64 (max elg blg)) (b5 := .int .i64 (max enx bnx)) HD.out HP.out (by decide)
                            have hP7 := blk_set6 (b0 := .slice to tn tc) (b1 := .slice yo yn yc) (b2 := .int .u64 mf) (b3 := .int .u64 mh) (b4 := .int .i64 (max elg blg)) (b5 := .int .i64 (max enx bnx)) HP.out
                            refine hK.out _ _ hX7 ?_
                            clear hK hPc hPf
                            generalize (((((u7.setCell ⟨_, 0, none⟩ (.slice to tn tc)).setCell ⟨_, 1, none⟩ (.slice yo yn yc)).setCell ⟨_, 2, none⟩ (.int .u64 mf)).setCell ⟨_, 3, none⟩ (.int .u64 mh)).setCell ⟨_, 4, none⟩ (.int .i64 (max elg blg))).setCell ⟨_, 5, none⟩ (.int .i64 (max enx bnx)) = u8 at *
                            clear HP HT HD hE
                            refine WalkN.done (by kernel_rfl) ?_
                            have hX8 : Ext wd u8 := hX7
                            rw [List.nil_append, ← tcs_append] at hT7
                            rw [List.nil_append, ← ic_append] at hD7
                            have hPc := hP7.cells
                            have hAc := (hAd.below hX8).cells
                            have hVc := (hVd.below hX8)
                            go_wp2_with fail
                            refine (HP3'.out _ _ _ (HTV.out.up hX8) (hT7.sl.mono fun b h => h.2) (hD7.sl.mono fun b h => h.2)).mono ?_
                            rintro e w9 ⟨cv, rfl, hS9, hb9⟩
                            obtain ⟨co, cc, rfl, _, _, _⟩ := hS9.tabs
                            unfold vV
                            dsimp only at *
                            have hE10 : Below w9.heap.size w9 (w9.alloc (.cells #[.slice co bl.length cc, .int .u64 bf, .int .u64 bh, .int .i64 blg', .int .i64 bnx'] 25)) := (Below.refl _ _).alloc (Nat.le_refl _) _
                            have hC10 := (Blk.made w9 #[.slice co bl.length cc, .int .u64 bf, .int .u64 bh, .int .i64 blg', .int .i64 bnx'] 25).cells
                            have hV10 := ((hVc.below hb9).below hE10).cells
                            have hSC := hS9.up hE10
                            have hSB := ((HSV.out.up hX8).up hb9).up hE10
                            have hBF : Below w.heap.size w (w9.alloc (.cells #[.slice co bl.length cc, .int .u64 bf, .int .u64 bh, .int .i64 blg', .int .i64 bnx'] 25)) := ((hBd.trans (Below.mono hX8 hBd.size)).trans (hb9.mono (Nat.le_trans hBd.size hX8.size))).trans (hE10.mono (Nat.le_trans (Nat.le_trans hBd.size hX8.size) hb9.size))
                            clear hPc hAc
                            go_wp2_with fail
                            refine (sameV_ok (.slice xo bl.length xc) (.slice co bl.length cc) ⟨bl, bf, bh, blg', bnx'⟩ _ hSB hSC).mono ?_
                            rintro e w11 ⟨rfl, hb11⟩
                            go_wp2
                            go_ret
                            exact ⟨rfl, hBF.trans (hb11.mono hBF.size)⟩
                        · refine ⟨_, (by simp only [List.getElem?_toArray, List.getElem?_cons_succ, List.getElem?_cons_zero]; rfl), by rfl, fun K hK => ?_⟩
                          go_simp
                          have hA4 := Ext.alloc u4 (.cells #[.slice none 0 0, .slice none 0 0, .int .u64 0, .int .u64 0, .int .i64 0, .int .i64 0] 28)
                          have hO4 := Blk.made u4 #[.slice none 0 0, .slice none 0 0, .int .u64 0, .int .u64 0, .int .i64 0, .int .i64 0] 28
                          have hX4 := Ext.trans hE.out hA4
                          have hp := hE.out.size
                          have hD4 := HT.out.below hA4
                          have hP4 := HD.out.below hA4
                          refine hK.out _ _ hX4 ?_
                          clear hK
                          generalize u4.alloc (.cells #[.slice none 0 0, .slice none 0 0, .int .u64 0, .int .u64 0, .int .i64 0, .int .i64 0] 28) = u5 at *
                          have hE := Lib.hid hX4
                          have HP := Lib.hid hO4
                          have HT := Lib.hid hD4
                          have HD := Lib.hid hP4
                          clear hD4
                          clear hP4
                          clear hA4 hO4 hX4
                          refine WalkN.one 10 (by kernel_rfl) ?_
                          refine ⟨_, (by simp only [List.getElem?_toArray, List.getElem?_cons_succ, List.getElem?_cons_zero]; rfl), by rfl, fun K hK => ?_⟩
                          refine wp_own intsT (.tmp 78) (.tmp 80) rfl rfl HD.out rfl (HS3.out.same (Same.below hE.out)) (ic_one _) (by rw [List.length_nil]; omega) (by rw [List.length_nil]; omega) hE.out.size (fun v5 u6 hown hb hg => ?_)
                          have hX5 : Ext wd u6 := Below.trans hE.out hb
                          have hD5 := HT.out.aside HD.out (by decide) hg
                          have hP5 := HP.out.aside HD.out (by decide) hg
                          refine hK.out _ _ hX5 ?_
                          clear hK
                          simp only [Act.put, List.setIfInBounds_toArray, List.set_cons_zero, List.set_cons_succ]
                          have hE := Lib.hid hX5
                          have HD := Lib.hid hown
                          have HT := Lib.hid hD5
                          have HP := Lib.hid hP5
                          clear hP5
                          clear hown hb hg hX5 hD5
                          refine WalkN.one 13 (by kernel_rfl) ?_
                          refine ⟨_, (by simp only [List.getElem?_toArray, List.getElem?_cons_succ, List.getElem?_cons_zero]; rfl), by rfl, fun K hK => ?_⟩
                          refine wp_own intsT (.tmp 81) (.tmp 83) rfl rfl HD.out rfl (HS4.out.same (Same.below hE.out)) (ic_one _) (by rw [List.nil_append]; omega) (by rw [List.nil_append]; omega) hE.out.size (fun v6 u7 hown hb hg => ?_)
                          have hX6 : Ext wd u7 := Below.trans hE.out hb
                          have hD6 := HT.out.aside HD.out (by decide) hg
                          have hP6 := HP.out.aside HD.out (by decide) hg
                          refine hK.out _ _ hX6 ?_
                          clear hK
                          simp only [Act.put, List.setIfInBounds_toArray, List.set_cons_zero, List.set_cons_succ]
                          have hE := Lib.hid hX6
                          have HD := Lib.hid hown
                          have HT := Lib.hid hD6
                          have HP := Lib.hid hP6
                          clear hP6
                          clear hown hb hg hX6 hD6
                          obtain ⟨to, tn, tc, rfl, _, _⟩ := HT.out.sl.len
                          obtain ⟨yo, yn, yc, rfl, _, _⟩ := HD.out.sl.len
                          ((refine WalkN.take 34 _ ?_ (by simp only [List.getElem?_toArray, List.getElem?_cons_succ, List.getElem?_cons_zero]; rfl) (by kernel_rfl) (by kernel_rfl) (by rfl) (fun W hW => ?_) ?_; rotate_left; · (go_simp; try with_reducible rfl)); simp only [Act.put, List.setIfInBounds_toArray, List.set_cons_zero, List.set_cons_succ])
                          refine WalkN.one 36 (by kernel_rfl) ?_
                          have hPc := HP.out.cells
                          have hPf := HP.out.free
                          refine ⟨_, (by simp only [List.getElem?_toArray, List.getElem?_cons_succ, List.getElem?_cons_zero]; rfl), by rfl, fun K hK => ?_⟩
                          go_simp
                          have hX7 := below_set6 (b0 := .slice to tn tc) (b1 := .slice yo yn yc) (b2 := .int .u64 mf) (b3 := .int .u64 mh) (b4 := .int .i64 (max elg blg)) (b5 := .int .i64 (max enx bnx)) hE.out hp
                          have hT7 := own_set6 (b0 := .slice to tn tc) (b1 := .slice yo yn yc) (b2 := .int .u64 mf) (b3 := .int .u64 mh) (b4 := .int .i64 (max elg blg)) (b5 := .int .i64 (max enx bnx)) HT.out HP.out (by decide)
                          have hD7 := own_set6 (b0 := .slice to tn tc) (b1 := .slice yo yn yc) (b2 := .int .u64 mf) (b3 := .int .u64 mh) (b4 := .int .i64 (max elg blg)) (b5 := .int .i64 (max enx bnx)) HD.out HP.out (by decide)
                          have hP7 := blk_set6 (b0 := .slice to tn tc) (b1 := .slice yo yn yc) (b2 := .int .u64 mf) (b3 := .int .u64 mh) (b4 := .int .i64 (max elg blg)) (b5 := .int .i64 (max enx bnx)) HP.out
                          refine hK.out _ _ hX7 ?_
                          clear hK hPc hPf
                          generalize (((((u7.setCell ⟨_, 0, none⟩ (.slice to tn tc)).setCell ⟨_, 1, none⟩ (.slice yo yn yc)).setCell ⟨_, 2, none⟩ (.int .u64 mf)).setCell ⟨_, 3, none⟩ (.int .u64 mh)).setCell ⟨_, 4, none⟩ (.int .i64 (max elg blg))).setCell ⟨_, 5, none⟩ (.int .i64 (max enx bnx)) = u8 at *
                          clear HP HT HD hE
                          refine WalkN.done (by kernel_rfl) ?_
                          have hX8 : Ext wd u8 := hX7
                          rw [List.nil_append, ← tcs_append] at hT7
                          rw [List.nil_append, ← ic_append] at hD7
                          have hPc := hP7.cells
                          have hAc := (hAd.below hX8).cells
                          have hVc := (hVd.below hX8)
                          go_wp2_with fail
                          refine (HP3'.out _ _ _ (HTV.out.up hX8) (hT7.sl.mono fun b h => h.2) (hD7.sl.mono fun b h => h.2)).mono ?_
                          rintro e w9 ⟨cv, rfl, hS9, hb9⟩
                          obtain ⟨co, cc, rfl, _, _, _⟩ := hS9.tabs
                          unfold vV
                          dsimp only at *
                          have hE10 : Below w9.heap.size w9 (w9.alloc (.cells #[.slice co bl.length cc, .int .u64 bf, .int .u64 bh, .int .i64 blg', .int .i64 bnx'] 25)) := (Below.refl _ _).alloc (Nat.le_refl _) _
                          have hC10 := (Blk.made w9 #[.slice co bl.length cc, .int .u64 bf, .int .u64 bh, .int .i64 blg', .int .i64 bnx'] 25).cells
                          have hV10 := ((hVc.below hb9).below hE10).cells
                          have hSC := hS9.up hE10
                          have hSB := ((HSV.out.up hX8).up hb9).up hE10
                          have hBF : Below w.heap.size w (w9.alloc (.cells #[.slice co bl.length cc, .int .u64 bf, .int .u64 bh, .int .i64 blg', .int .i64 bnx'] 25)) := ((hBd.trans (Below.mono hX8 hBd.size)).trans (hb9.mono (Nat.le_trans hBd.size hX8.size))).trans (hE10.mono (Nat.le_trans (Nat.le_trans hBd.size hX8.size) hb9.size))
                          clear hPc hAc
                          go_wp2_with fail
                          refine (sameV_ok (.slice xo bl.length xc) (.slice co bl.length cc) ⟨bl, bf, bh, blg', bnx'⟩ _ hSB hSC).mono ?_
                          rintro e w11 ⟨rfl, hb11⟩
                          go_wp2
                          go_ret
                          exact ⟨rfl, hBF.trans (hb11.mono hBF.size)⟩
                      · refine ⟨_, (by simp only [List.getElem?_toArray, List.getElem?_cons_succ, List.getElem?_cons_zero]; rfl), by rfl, fun K hK => ?_⟩
                        go_simp
                        have hA3 := Ext.alloc u3 (.cells #[.slice none 0 0, .slice none 0 0, .int .u64 0, .int .u64 0, .int .i64 0, .int .i64 0] 28)
                        have hO3 := Blk.made u3 #[.slice none 0 0, .slice none 0 0, .int .u64 0, .int .u64 0, .int .i64 0, .int .i64 0] 28
                        have hX3 := Ext.trans hE.out hA3
                        have hp := hE.out.size
                        have hD3 := HT.out.below hA3
                        refine hK.out _ _ hX3 ?_
                        clear hK
                        generalize u3.alloc (.cells #[.slice none 0 0, .slice none 0 0, .int .u64 0, .int .u64 0, .int .i64 0, .int .i64 0] 28) = u4 at *
                        have hE := Lib.hid hX3
                        have HP := Lib.hid hO3
                        have HT := Lib.hid hD3
                        clear hD3
                        clear hA3 hO3 hX3
                        refine WalkN.one 7 (by kernel_rfl) ?_
                        refine ⟨_, (by simp only [List.getElem?_toArray, List.getElem?_cons_succ, List.getElem?_cons_zero]; rfl), by rfl, fun K hK => ?_⟩
                        go_simp
                        have hA4 := Ext.alloc u4 (.cells #[] 3)
                        have hO4 := Own.made u4 (B := wd.heap.size) hE.out.size 3 1
                        have hX4 := Ext.trans hE.out hA4
                        have hD4 := HT.out.below hA4
                        have hP4 := HP.out.below hA4
                        refine hK.out _ _ hX4 ?_
                        clear hK
                        generalize u4.alloc (.cells #[] 3) = u5 at *
                        have hE := Lib.hid hX4
                        have HD := Lib.hid hO4
                        have HT := Lib.hid hD4
                        have HP := Lib.hid hP4
                        clear hD4
                        clear hP4
                        clear hA4 hO4 hX4
                        refine WalkN.one 10 (by kernel_rfl) ?_
                        refine ⟨_, (by simp only [List.getElem?_toArray, List.getElem?_cons_succ, List.getElem?_cons_zero]; rfl), by rfl, fun K hK => ?_⟩
                        refine wp_own intsT (.tmp 78) (.tmp 80) rfl rfl HD.out rfl (HS3.out.same (Same.below hE.out)) (ic_one _) (by rw [List.length_nil]; omega) (by rw [List.length_nil]; omega) hE.out.size (fun v5 u6 hown hb hg => ?_)
                        have hX5 : Ext wd u6 := Below.trans hE.out hb
                        have hD5 := HT.out.aside HD.out (by decide) hg
                        have hP5 := HP.out.aside HD.out (by decide) hg
                        refine hK.out _ _ hX5 ?_
                        clear hK
                        simp only [Act.put, List.setIfInBounds_toArray, List.set_cons_zero, List.set_cons_succ]
                        have hE := Lib.hid hX5
                        have HD := Lib.hid hown
                        have HT := Lib.hid hD5
                        have HP := Lib.hid hP5
                        clear hP5
                        clear hown hb hg hX5 hD5
                        refine WalkN.one 13 (by kernel_rfl) ?_
                        refine ⟨_, (by simp only [List.getElem?_toArray, List.getElem?_cons_succ, List.getElem?_cons_zero]; rfl), by rfl, fun K hK => ?_⟩
                        refine wp_own intsT (.tmp 81) (.tmp 83) rfl rfl HD.out rfl (HS4.out.same (Same.below hE.out)) (ic_one _) (by rw [List.nil_append]; omega) (by rw [List.nil_append]; omega) hE.out.size (fun v6 u7 hown hb hg => ?_)
                        have hX6 : Ext wd u7 := Below.trans hE.out hb
                        have hD6 := HT.out.aside HD.out (by decide) hg
                        have hP6 := HP.out.aside HD.out (by decide) hg
                        refine hK.out _ _ hX6 ?_
                        clear hK
                        simp only [Act.put, List.setIfInBounds_toArray, List.set_cons_zero, List.set_cons_succ]
                        have hE := Lib.hid hX6
                        have HD := Lib.hid hown
                        have HT := Lib.hid hD6
                        have HP := Lib.hid hP6
                        clear hP6
                        clear hown hb hg hX6 hD6
                        obtain ⟨to, tn, tc, rfl, _, _⟩ := HT.out.sl.len
                        obtain ⟨yo, yn, yc, rfl, _, _⟩ := HD.out.sl.len
                        ((refine WalkN.take 34 _ ?_ (by simp only [List.getElem?_toArray, List.getElem?_cons_succ, List.getElem?_cons_zero]; rfl) (by kernel_rfl) (by kernel_rfl) (by rfl) (fun W hW => ?_) ?_; rotate_left; · (go_simp; try with_reducible rfl)); simp only [Act.put, List.setIfInBounds_toArray, List.set_cons_zero, List.set_cons_succ])
                        refine WalkN.one 36 (by kernel_rfl) ?_
                        have hPc := HP.out.cells
                        have hPf := HP.out.free
                        refine ⟨_, (by simp only [List.getElem?_toArray, List.getElem?_cons_succ, List.getElem?_cons_zero]; rfl), by rfl, fun K hK => ?_⟩
                        go_simp
                        have hX7 := below_set6 (b0 := .slice to tn tc) (b1 := .slice yo yn yc) (b2 := .int .u64 mf) (b3 := .int .u64 mh) (b4 := .int .i64 (max elg blg)) (b5 := .int .i64 (max enx bnx)) hE.out hp
                        have hT7 := own_set6 (b0 := .slice to tn tc) (b1 := .slice yo yn yc) (b2 := .int .u64 mf) (b3 := .int .u64 mh) (b4 := .int .i64 (max elg blg)) (b5 := .int .i64 (max enx bnx)) HT.out HP.out (by decide)
                        have hD7 := own_set6 (b0 := .slice to tn tc) (b1 := .slice yo yn yc) (b2 := .int .u64 mf) (b3 := .int .u64 mh) (b4 := .int .i64 (max elg blg)) (b5 := .int .i64 (max enx bnx)) HD.out HP.out (by decide)
                        have hP7 := blk_set6 (b0 := .slice to tn tc) (b1 := .slice yo yn yc) (b2 := .int .u64 mf) (b3 := .int .u64 mh) (b4 := .int .i64 (max elg blg)) (b5 := .int .i64 (max enx bnx)) HP.out
                        refine hK.out _ _ hX7 ?_
                        clear hK hPc hPf
                        generalize (((((u7.setCell ⟨_, 0, none⟩ (.slice to tn tc)).setCell ⟨_, 1, none⟩ (.slice yo yn yc)).setCell ⟨_, 2, none⟩ (.int .u64 mf)).setCell ⟨_, 3, none⟩ (.int .u64 mh)).setCell ⟨_, 4, none⟩ (.int .i64 (max elg blg))).setCell ⟨_, 5, none⟩ (.int .i64 (max enx bnx)) = u8 at *
                        clear HP HT HD hE
                        refine WalkN.done (by kernel_rfl) ?_
                        have hX8 : Ext wd u8 := hX7
                        rw [List.nil_append, ← tcs_append] at hT7
                        rw [List.nil_append, ← ic_append] at hD7
                        have hPc := hP7.cells
                        have hAc := (hAd.below hX8).cells
                        have hVc := (hVd.below hX8)
                        go_wp2_with fail
                        refine (HP3'.out _ _ _ (HTV.out.up hX8) (hT7.sl.mono fun b h => h.2) (hD7.sl.mono fun b h => h.2)).mono ?_
                        rintro e w9 ⟨cv, rfl, hS9, hb9⟩
                        obtain ⟨co, cc, rfl, _, _, _⟩ := hS9.tabs
                        unfold vV
                        dsimp only at *
                        have hE10 : Below w9.heap.size w9 (w9.alloc (.cells #[.slice co bl.length cc, .int .u64 bf, .int .u64 bh, .int .i64 blg', .int .i64 bnx'] 25)) := (Below.refl _ _).alloc (Nat.le_refl _) _
                        have hC10 := (Blk.made w9 #[.slice co bl.length cc, .int .u64 bf, .int .u64 bh, .int .i64 blg', .int .i64 bnx'] 25).cells
                        have hV10 := ((hVc.below hb9).below hE10).cells
                        have hSC := hS9.up hE10
                        have hSB := ((HSV.out.up hX8).up hb9).up hE10
                        have hBF : Below w.heap.size w (w9.alloc (.cells #[.slice co bl.length cc, .int .u64 bf, .int .u64 bh, .int .i64 blg', .int .i64 bnx'] 25)) := ((hBd.trans (Below.mono hX8 hBd.size)).trans (hb9.mono (Nat.le_trans hBd.size hX8.size))).trans (hE10.mono (Nat.le_trans (Nat.le_trans hBd.size hX8.size) hb9.size))
                        clear hPc hAc
                        go_wp2_with fail
                        refine (sameV_ok (.slice xo bl.length xc) (.slice co bl.length cc) ⟨bl, bf, bh, blg', bnx'⟩ _ hSB hSC).mono ?_
                        rintro e w11 ⟨rfl, hb11⟩
                        go_wp2
                        go_ret
                        exact ⟨rfl, hBF.trans (hb11.mono hBF.size)⟩
                    · refine ⟨_, (by simp only [List.getElem?_toArray, List.getElem?_cons_succ, List.getElem?_cons_zero]; rfl), by rfl, fun K hK => ?_⟩
                      go_simp
                      have hA2 := Ext.alloc u2 (.cells #[] 3)
                      have hO2 := Own.made u2 (B := wd.heap.size) hE.out.size 3 1
                      have hX2 := Ext.trans hE.out hA2
                      have hD2 := HT.out.below hA2
                      refine hK.out _ _ hX2 ?_
                      clear hK
                      generalize u2.alloc (.cells #[] 3) = u3 at *
                      have hE := Lib.hid hX2
                      have HD := Lib.hid hO2
                      have HT := Lib.hid hD2
                      clear hD2
                      clear hA2 hO2 hX2
                      refine WalkN.two 6 35 (by kernel_rfl) ?_ ?_
                      · refine ⟨_, (by simp only [List.getElem?_toArray, List.getElem?_cons_succ, List.getElem?_cons_zero]; rfl), by rfl, fun K hK => ?_⟩
                        refine wp_own tabsT (.tmp 74) (.tmp 76) rfl rfl HT.out rfl (HS2.out.same (Same.below hE.out)) (tcs_one _) (by rw [List.nil_append]; omega) (by rw [List.nil_append]; omega) hE.out.size (fun v3 u4 hown hb hg => ?_)
                        have hX3 : Ext wd u4 := Below.trans hE.out hb
                        have hD3 := HD.out.aside HT.out (by decide) hg
                        refine hK.out _ _ hX3 ?_
                        clear hK
                        simp only [Act.put, List.setIfInBounds_toArray, List.set_cons_zero, List.set_cons_succ]
                        have hE := Lib.hid hX3
                        have HT := Lib.hid hown
                        have HD := Lib.hid hD3
                        clear hD3
                        clear hown hb hg hX3
                        refine WalkN.two 10 35 (by kernel_rfl) ?_ ?_
                        · refine ⟨_, (by simp only [List.getElem?_toArray, List.getElem?_cons_succ, List.getElem?_cons_zero]; rfl), by rfl, fun K hK => ?_⟩
                          refine wp_own intsT (.tmp 78) (.tmp 80) rfl rfl HD.out rfl (HS3.out.same (Same.below hE.out)) (ic_one _) (by rw [List.length_nil]; omega) (by rw [List.length_nil]; omega) hE.out.size (fun v4 u5 hown hb hg => ?_)
                          have hX4 : Ext wd u5 := Below.trans hE.out hb
                          have hD4 := HT.out.aside HD.out (by decide) hg
                          refine hK.out _ _ hX4 ?_
                          clear hK
                          simp only [Act.put, List.setIfInBounds_toArray, List.set_cons_zero, List.set_cons_succ]
                          have hE := Lib.hid hX4
                          have HD := Lib.hid hown
                          have HT := Lib.hid hD4
                          clear hown hb hg hX4 hD4
                          refine WalkN.two 13 35 (by kernel_rfl) ?_ ?_
                          · refine ⟨_, (by simp only [List.getElem?_toArray, List.getElem?_cons_succ, List.getElem?_cons_zero]; rfl), by rfl, fun K hK => ?_⟩
                            refine wp_own intsT (.tmp 81) (.tmp 83) rfl rfl HD.out rfl (HS4.out.same (Same.below hE.out)) (ic_one _) (by rw [List.nil_append]; omega) (by rw [List.nil_append]; omega) hE.out.size (fun v5 u6 hown hb hg => ?_)
                            have hX5 : Ext wd u6 := Below.trans hE.out hb
                            have hD5 := HT.out.aside HD.out (by decide) hg
                            refine hK.out _ _ hX5 ?_
                            clear hK
                            simp only [Act.put, List.setIfInBounds_toArray, List.set_cons_zero, List.set_cons_succ]
                            have hE := Lib.hid hX5
                            have HD := Lib.hid hown
                            have HT := Lib.hid hD5
                            clear hown hb hg hX5 hD5
                            obtain ⟨to, tn, tc, rfl, _, _⟩ := HT.out.sl.len
                            obtain ⟨yo, yn, yc, rfl, _, _⟩ := HD.out.sl.len
                            ((refine WalkN.take 34 _ ?_ (by simp only [List.getElem?_toArray, List.getElem?_cons_succ, List.getElem?_cons_zero]; rfl) (by kernel_rfl) (by kernel_rfl) (by rfl) (fun W hW => ?_) ?_; rotate_left; · (go_simp; try with_reducible rfl)); simp only [Act.put, List.setIfInBounds_toArray, List.set_cons_zero, List.set_cons_succ])
                            refine WalkN.one 35 (by kernel_rfl) ?_
                            refine ⟨_, (by simp only [List.getElem?_toArray, List.getElem?_cons_succ, List.getElem?_cons_zero]; rfl), by rfl, fun K hK => ?_⟩
                            go_simp
                            have hA6 := Ext.alloc u6 (.cells #[.slice none 0 0, .slice none 0 0, .int .u64 0, .int .u64 0, .int .i64 0, .int .i64 0] 28)
                            have hO6 := Blk.made u6 #[.slice none 0 0, .slice none 0 0, .int .u64 0, .int .u64 0, .int .i64 0, .int .i64 0] 28
                            have hX6 := Ext.trans hE.out hA6
                            have hp := hE.out.size
                            have hD6 := HT.out.below hA6
                            have hP6 := HD.out.below hA6
                            refine hK.out _ _ hX6 ?_
                            clear hK
                            generalize u6.alloc (.cells #[.slice none 0 0, .slice none 0 0, .int .u64 0, .int .u64 0, .int .i64 0, .int .i64 0] 28) = u7 at *
                            have hE := Lib.hid hX6
                            have HP := Lib.hid hO6
                            have HT := Lib.hid hD6
                            have HD := Lib.hid hP6
                            clear hD6
                            clear hP6
                            clear hA6 hO6 hX6
                            refine WalkN.one 36 (by kernel_rfl) ?_
                            have hPc := HP.out.cells
                            have hPf := HP.out.free
                            refine ⟨_, (by simp only [List.getElem?_toArray, List.getElem?_cons_succ, List.getElem?_cons_zero]; rfl), by rfl, fun K hK => ?_⟩
                            go_simp
                            have hX7 := below_set6 (b0 := .slice to tn tc) (b1 := .slice yo yn yc) (b2 := .int .u64 mf) (b3 := .int .u64 mh) (b4 := .int .i64 (max elg blg)) (b5 := .int .i64 (max enx bnx)) hE.out hp
                            have hT7 := own_set6 (b0 := .slice to tn tc) (b1 := .slice yo yn yc) (b2 := .int .u64 mf) (b3 := .int .u64 mh) (b4 := .int .i64 (max elg blg)) (b5 := .int .i64 (max enx bnx)) HT.out HP.out (by decide)
                            have hD7 := own_set6 (b0 := .slice to tn tc) (b1 := .slice yo yn yc) (b2 := .int .u64 mf) (b3 := .int .u64 mh) (b4 := .int .i64 (max elg blg)) (b5 := .int .i64 (max enx bnx)) HD.out HP.out (by decide)
                            have hP7 := blk_set6 (b0 := .slice to tn tc) (b1 := .slice yo yn yc) (b2 := .int .u64 mf) (b3 := .int .u64 mh) (b4 := .int .i64 (max elg blg)) (b5 := .int .i64 (max enx bnx)) HP.out
                            refine hK.out _ _ hX7 ?_
                            clear hK hPc hPf
                            generalize (((((u7.setCell ⟨_, 0, none⟩ (.slice to tn tc)).setCell ⟨_, 1, none⟩ (.slice yo yn yc)).setCell ⟨_, 2, none⟩ (.int .u64 mf)).setCell ⟨_, 3, none⟩ (.int .u64 mh)).setCell ⟨_, 4, none⟩ (.int .i64 (max elg blg))).setCell ⟨_, 5, none⟩ (.int .i64 (max enx bnx)) = u8 at *
                            clear HP HT HD hE
                            refine WalkN.done (by kernel_rfl) ?_
                            have hX8 : Ext wd u8 := hX7
                            rw [List.nil_append, ← tcs_append] at hT7
                            rw [List.nil_append, ← ic_append] at hD7
                            have hPc := hP7.cells
                            have hAc := (hAd.below hX8).cells
                            have hVc := (hVd.below hX8)
                            go_wp2_with fail
                            refine (HP3'.out _ _ _ (HTV.out.up hX8) (hT7.sl.mono fun b h => h.2) (hD7.sl.mono fun b h => h.2)).mono ?_
                            rintro e w9 ⟨cv, rfl, hS9, hb9⟩
                            obtain ⟨co, cc, rfl, _, _, _⟩ := hS9.tabs
                            unfold vV
                            dsimp only at *
                            have hE10 : Below w9.heap.size w9 (w9.alloc (.cells #[.slice co bl.length cc, .int .u64 bf, .int .u64 bh, .int .i64 blg', .int .i64 bnx'] 25)) := (Below.refl _ _).alloc (Nat.le_refl _) _
                            have hC10 := (Blk.made w9 #[.slice co bl.length cc, .int .u64 bf, .int .u64 bh, .int .i64 blg', .int .i64 bnx'] 25).cells
                            have hV10 := ((hVc.below hb9).below hE10).cells
                            have hSC := hS9.up hE10
                            have hSB := ((HSV.out.up hX8).up hb9).up hE10
                            have hBF : Below w.heap.size w (w9.alloc (.cells #[.slice co bl.length cc, .int .u64 bf, .int .u64 bh, .int .i64 blg', .int .i64 bnx'] 25)) := ((hBd.trans (Below.mono hX8 hBd.size)).trans (hb9.mono (Nat.le_trans hBd.size hX8.size))).trans (hE10.mono (Nat.le_trans (Nat.le_trans hBd.size hX8.size) hb9.size))
                            clear hPc hAc
                            go_wp2_with fail
                            refine (sameV_ok (.slice xo bl.length xc) (.slice co bl.length cc) ⟨bl, bf, bh, blg', bnx'⟩ _ hSB hSC).mono ?_
                            rintro e w11 ⟨rfl, hb11⟩
                            go_wp2
                            go_ret
                            exact ⟨rfl, hBF.trans (hb11.mono hBF.size)⟩
                          · refine ⟨_, (by simp only [List.getElem?_toArray, List.getElem?_cons_succ, List.getElem?_cons_zero]; rfl), by rfl, fun K hK => ?_⟩
                            go_simp
                            have hA5 := Ext.alloc u5 (.cells #[.slice none 0 0, .slice none 0 0, .int .u64 0, .int .u64 0, .int .i64 0, .int .i64 0] 28)
                            have hO5 := Blk.made u5 #[.slice none 0 0, .slice none 0 0, .int .u64 0, .int .u64 0, .int .i64 0, .int .i64 0] 28
                            have hX5 := Ext.trans hE.out hA5
                            have hp := hE.out.size
                            have hD5 := HT.out.below hA5
                            have hP5 := HD.out.below hA5
                            refine hK.out _ _ hX5 ?_
                            clear hK
                            generalize u5.alloc (.cells #[.slice none 0 0, .slice none 0 0, .int .u64 0, .int .u64 0, .int .i64 0, .int .i64 0] 28) = u6 at *
                            have hE := Lib.hid hX5
                            have HP := Lib.hid hO5
                            have HT := Lib.hid hD5
                            have HD := Lib.hid hP5
                            clear hD5
                            clear hP5
                            clear hA5 hO5 hX5
                            refine WalkN.one 13 (by kernel_rfl) ?_
                            refine ⟨_, (by simp only [List.getElem?_toArray, List.getElem?_cons_succ, List.getElem?_cons_zero]; rfl), by rfl, fun K hK => ?_⟩
                            refine wp_own intsT (.tmp 81) (.tmp 83) rfl rfl HD.out rfl (HS4.out.same (Same.below hE.out)) (ic_one _) (by rw [List.nil_append]; omega) (by rw [List.nil_append]; omega) hE.out.size (fun v6 u7 hown hb hg => ?_)
                            have hX6 : Ext wd u7 := Below.trans hE.out hb
                            have hD6 := HT.out.aside HD.out (by decide) hg
                            have hP6 := HP.out.aside HD.out (by decide) hg
                            refine hK.out _ _ hX6 ?_
                            clear hK
                            simp only [Act.put, List.setIfInBounds_toArray, List.set_cons_zero, List.set_cons_succ]
                            have hE := Lib.hid hX6
                            have HD := Lib.hid hown
                            have HT := Lib.hid hD6
                            have HP := Lib.hid hP6
                            clear hP6
                            clear hown hb hg hX6 hD6
                            obtain ⟨to, tn, tc, rfl, _, _⟩ := HT.out.sl.len
                            obtain ⟨yo, yn, yc, rfl, _, _⟩ := HD.out.sl.len
                            ((refine WalkN.take 34 _ ?_ (by simp only [List.getElem?_toArray, List.getElem?_cons_succ, List.getElem?_cons_zero]; rfl) (by kernel_rfl) (by kernel_rfl) (by rfl) (fun W hW => ?_) ?_; rotate_left; · (go_simp; try with_reducible rfl)); simp only [Act.put, List.setIfInBounds_toArray, List.set_cons_zero, List.set_cons_succ])
                            refine WalkN.one 36 (by kernel_rfl) ?_
                            have hPc := HP.out.cells
                            have hPf := HP.out.free
                            refine ⟨_, (by simp only [List.getElem?_toArray, List.getElem?_cons_succ, List.getElem?_cons_zero]; rfl), by rfl, fun K hK => ?_⟩
                            go_simp
                            have hX7 := below_set6 (b0 := .slice to tn tc) (b1 := .slice yo yn yc) (b2 := .int .u64 mf) (b3 := .int .u64 mh) (b4 := .int .i64 (max elg blg)) (b5 := .int .i64 (max enx bnx)) hE.out hp
                            have hT7 := own_set6 (b0 := .slice to tn tc) (b1 := .slice yo yn yc) (b2 := .int .u64 mf) (b3 := .int .u64 mh) (b4 := .int .i64 (max elg blg)) (b5 := .int .i64 (max enx bnx)) HT.out HP.out (by decide)
                            have hD7 := own_set6 (b0 := .slice to tn tc) (b1 := .slice yo yn yc) (b2 := .int .u64 mf) (b3 := .int .u64 mh) (b4 := .int .i64 (max elg blg)) (b5 := .int .i64 (max enx bnx)) HD.out HP.out (by decide)
                            have hP7 := blk_set6 (b0 := .slice to tn tc) (b1 := .slice yo yn yc) (b2 := .int .u64 mf) (b3 := .int .u64 mh) (b4 := .int .i64 (max elg blg)) (b5 := .int .i64 (max enx bnx)) HP.out
                            refine hK.out _ _ hX7 ?_
                            clear hK hPc hPf
                            generalize (((((u7.setCell ⟨_, 0, none⟩ (.slice to tn tc)).setCell ⟨_, 1, none⟩ (.slice yo yn yc)).setCell ⟨_, 2, none⟩ (.int .u64 mf)).setCell ⟨_, 3, none⟩ (.int .u64 mh)).setCell ⟨_, 4, none⟩ (.int .i64 (max elg blg))).setCell ⟨_, 5, none⟩ (.int .i64 (max enx bnx)) = u8 at *
                            clear HP HT HD hE
                            refine WalkN.done (by kernel_rfl) ?_
                            have hX8 : Ext wd u8 := hX7
                            rw [List.nil_append, ← tcs_append] at hT7
                            rw [List.nil_append, ← ic_append] at hD7
                            have hPc := hP7.cells
                            have hAc := (hAd.below hX8).cells
                            have hVc := (hVd.below hX8)
                            go_wp2_with fail
                            refine (HP3'.out _ _ _ (HTV.out.up hX8) (hT7.sl.mono fun b h => h.2) (hD7.sl.mono fun b h => h.2)).mono ?_
                            rintro e w9 ⟨cv, rfl, hS9, hb9⟩
                            obtain ⟨co, cc, rfl, _, _, _⟩ := hS9.tabs
                            unfold vV
                            dsimp only at *
                            have hE10 : Below w9.heap.size w9 (w9.alloc (.cells #[.slice co bl.length cc, .int .u64 bf, .int .u64 bh, .int .i64 blg', .int .i64 bnx'] 25)) := (Below.refl _ _).alloc (Nat.le_refl _) _
                            have hC10 := (Blk.made w9 #[.slice co bl.length cc, .int .u64 bf, .int .u64 bh, .int .i64 blg', .int .i64 bnx'] 25).cells
                            have hV10 := ((hVc.below hb9).below hE10).cells
                            have hSC := hS9.up hE10
                            have hSB := ((HSV.out.up hX8).up hb9).up hE10
                            have hBF : Below w.heap.size w (w9.alloc (.cells #[.slice co bl.length cc, .int .u64 bf, .int .u64 bh, .int .i64 blg', .int .i64 bnx'] 25)) := ((hBd.trans (Below.mono hX8 hBd.size)).trans (hb9.mono (Nat.le_trans hBd.size hX8.size))).trans (hE10.mono (Nat.le_trans (Nat.le_trans hBd.size hX8.size) hb9.size))
                            clear hPc hAc
                            go_wp2_with fail
                            refine (sameV_ok (.slice xo bl.length xc) (.slice co bl.length cc) ⟨bl, bf, bh, blg', bnx'⟩ _ hSB hSC).mono ?_
                            rintro e w11 ⟨rfl, hb11⟩
                            go_wp2
                            go_ret
                            exact ⟨rfl, hBF.trans (hb11.mono hBF.size)⟩
                        · refine ⟨_, (by simp only [List.getElem?_toArray, List.getElem?_cons_succ, List.getElem?_cons_zero]; rfl), by rfl, fun K hK => ?_⟩
                          go_simp
                          have hA4 := Ext.alloc u4 (.cells #[.slice none 0 0, .slice none 0 0, .int .u64 0, .int .u64 0, .int .i64 0, .int .i64 0] 28)
                          have hO4 := Blk.made u4 #[.slice none 0 0, .slice none 0 0, .int .u64 0, .int .u64 0, .int .i64 0, .int .i64 0] 28
                          have hX4 := Ext.trans hE.out hA4
                          have hp := hE.out.size
                          have hD4 := HT.out.below hA4
                          have hP4 := HD.out.below hA4
                          refine hK.out _ _ hX4 ?_
                          clear hK
                          generalize u4.alloc (.cells #[.slice none 0 0, .slice none 0 0, .int .u64 0, .int .u64 0, .int .i64 0, .int .i64 0] 28) = u5 at *
                          have hE := Lib.hid hX4
                          have HP := Lib.hid hO4
                          have HT := Lib.hid hD4
                          have HD := Lib.hid hP4
                          clear hD4
                          clear hP4
                          clear hA4 hO4 hX4
                          refine WalkN.one 10 (by kernel_rfl) ?_
                          refine ⟨_, (by simp only [List.getElem?_toArray, List.getElem?_cons_succ, List.getElem?_cons_zero]; rfl), by rfl, fun K hK => ?_⟩
                          refine wp_own intsT (.tmp 78) (.tmp 80) rfl rfl HD.out rfl (HS3.out.same (Same.below hE.out)) (ic_one _) (by rw [List.length_nil]; omega) (by rw [List.length_nil]; omega) hE.out.size (fun v5 u6 hown hb hg => ?_)
                          have hX5 : Ext wd u6 := Below.trans hE.out hb
                          have hD5 := HT.out.aside HD.out (by decide) hg
                          have hP5 := HP.out.aside HD.out (by decide) hg
                          refine hK.out _ _ hX5 ?_
                          clear hK
                          simp only [Act.put, List.setIfInBounds_toArray, List.set_cons_zero, List.set_cons_succ]
                          have hE := Lib.hid hX5
                          have HD := Lib.hid hown
                          have HT := Lib.hid hD5
                          have HP := Lib.hid hP5
                          clear hP5
                          clear hown hb hg hX5 hD5
                          refine WalkN.one 13 (by kernel_rfl) ?_
                          refine ⟨_, (by simp only [List.getElem?_toArray, List.getElem?_cons_succ, List.getElem?_cons_zero]; rfl), by rfl, fun K hK => ?_⟩
                          refine wp_own intsT (.tmp 81) (.tmp 83) rfl rfl HD.out rfl (HS4.out.same (Same.below hE.out)) (ic_one _) (by rw [List.nil_append]; omega) (by rw [List.nil_append]; omega) hE.out.size (fun v6 u7 hown hb hg => ?_)
                          have hX6 : Ext wd u7 := Below.trans hE.out hb
                          have hD6 := HT.out.aside HD.out (by decide) hg
                          have hP6 := HP.out.aside HD.out (by decide) hg
                          refine hK.out _ _ hX6 ?_
                          clear hK
                          simp only [Act.put, List.setIfInBounds_toArray, List.set_cons_zero, List.set_cons_succ]
                          have hE := Lib.hid hX6
                          have HD := Lib.hid hown
                          have HT := Lib.hid hD6
                          have HP := Lib.hid hP6
                          clear hP6
                          clear hown hb hg hX6 hD6
                          obtain ⟨to, tn, tc, rfl, _, _⟩ := HT.out.sl.len
                          obtain ⟨yo, yn, yc, rfl, _, _⟩ := HD.out.sl.len
                          ((refine WalkN.take 34 _ ?_ (by simp only [List.getElem?_toArray, List.getElem?_cons_succ, List.getElem?_cons_zero]; rfl) (by kernel_rfl) (by kernel_rfl) (by rfl) (fun W hW => ?_) ?_; rotate_left; · (go_simp; try with_reducible rfl)); simp only [Act.put, List.setIfInBounds_toArray, List.set_cons_zero, List.set_cons_succ])
                          refine WalkN.one 36 (by kernel_rfl) ?_
                          have hPc := HP.out.cells
                          have hPf := HP.out.free
                          refine ⟨_, (by simp only [List.getElem?_toArray, List.getElem?_cons_succ, List.getElem?_cons_zero]; rfl), by rfl, fun K hK => ?_⟩
                          go_simp
                          have hX7 := below_set6 (b0 := .slice to tn tc) (b1 := .slice yo yn yc) (b2 := .int .u64 mf) (b3 := .int .u64 mh) (b4 := .int .i64 (max elg blg)) (b5 := .int .i64 (max enx bnx)) hE.out hp
                          have hT7 := own_set6 (b0 := .slice to tn tc) (b1 := .slice yo yn yc) (b2 := .int .u64 mf) (b3 := .int .u64 mh) (b4 := .int .i64 (max elg blg)) (b5 := .int .i64 (max enx bnx)) HT.out HP.out (by decide)
                          have hD7 := own_set6 (b0 := .slice to tn tc) (b1 := .slice yo yn yc) (b2 := .int .u64 mf) (b3 := .int .u64 mh) (b4 := .int .i64 (max elg blg)) (b5 := .int .i64 (max enx bnx)) HD.out HP.out (by decide)
                          have hP7 := blk_set6 (b0 := .slice to tn tc) (b1 := .slice yo yn yc) (b2 := .int .u64 mf) (b3 := .int .u64 mh) (b4 := .int .i64 (max elg blg)) (b5 := .int .i64 (max enx bnx)) HP.out
                          refine hK.out _ _ hX7 ?_
                          clear hK hPc hPf
                          generalize (((((u7.setCell ⟨_, 0, none⟩ (.slice to tn tc)).setCell ⟨_, 1, none⟩ (.slice yo yn yc)).setCell ⟨_, 2, none⟩ (.int .u64 mf)).setCell ⟨_, 3, none⟩ (.int .u64 mh)).setCell ⟨_, 4, none⟩ (.int .i64 (max elg blg))).setCell ⟨_, 5, none⟩ (.int .i64 (max enx bnx)) = u8 at *
                          clear HP HT HD hE
                          refine WalkN.done (by kernel_rfl) ?_
                          have hX8 : Ext wd u8 := hX7
                          rw [List.nil_append, ← tcs_append] at hT7
                          rw [List.nil_append, ← ic_append] at hD7
                          have hPc := hP7.cells
                          have hAc := (hAd.below hX8).cells
                          have hVc := (hVd.below hX8)
                          go_wp2_with fail
                          refine (HP3'.out _ _ _ (HTV.out.up hX8) (hT7.sl.mono fun b h => h.2) (hD7.sl.mono fun b h => h.2)).mono ?_
                          rintro e w9 ⟨cv, rfl, hS9, hb9⟩
                          obtain ⟨co, cc, rfl, _, _, _⟩ := hS9.tabs
                          unfold vV
                          dsimp only at *
                          have hE10 : Below w9.heap.size w9 (w9.alloc (.cells #[.slice co bl.length cc, .int .u64 bf, .int .u64 bh, .int .i64 blg', .int .i64 bnx'] 25)) := (Below.refl _ _).alloc (Nat.le_refl _) _
                          have hC10 := (Blk.made w9 #[.slice co bl.length cc, .int .u64 bf, .int .u64 bh, .int .i64 blg', .int .i64 bnx'] 25).cells
                          have hV10 := ((hVc.below hb9).below hE10).cells
                          have hSC := hS9.up hE10
                          have hSB := ((HSV.out.up hX8).up hb9).up hE10
                          have hBF : Below w.heap.size w (w9.alloc (.cells #[.slice co bl.length cc, .int .u64 bf, .int .u64 bh, .int .i64 blg', .int .i64 bnx'] 25)) := ((hBd.trans (Below.mono hX8 hBd.size)).trans (hb9.mono (Nat.le_trans hBd.size hX8.size))).trans (hE10.mono (Nat.le_trans (Nat.le_trans hBd.size hX8.size) hb9.size))
                          clear hPc hAc
                          go_wp2_with fail
                          refine (sameV_ok (.slice xo bl.length xc) (.slice co bl.length cc) ⟨bl, bf, bh, blg', bnx'⟩ _ hSB hSC).mono ?_
                          rintro e w11 ⟨rfl, hb11⟩
                          go_wp2
                          go_ret
                          exact ⟨rfl, hBF.trans (hb11.mono hBF.size)⟩
                      · refine ⟨_, (by simp only [List.getElem?_toArray, List.getElem?_cons_succ, List.getElem?_cons_zero]; rfl), by rfl, fun K hK => ?_⟩
                        go_simp
                        have hA3 := Ext.alloc u3 (.cells #[.slice none 0 0, .slice none 0 0, .int .u64 0, .int .u64 0, .int .i64 0, .int .i64 0] 28)
                        have hO3 := Blk.made u3 #[.slice none 0 0, .slice none 0 0, .int .u64 0, .int .u64 0, .int .i64 0, .int .i64 0] 28
                        have hX3 := Ext.trans hE.out hA3
                        have hp := hE.out.size
                        have hD3 := HT.out.below hA3
                        have hP3 := HD.out.below hA3
                        refine hK.out _ _ hX3 ?_
                        clear hK
                        generalize u3.alloc (.cells #[.slice none 0 0, .slice none 0 0, .int .u64 0, .int .u64 0, .int .i64 0, .int .i64 0] 28) = u4 at *
                        have hE := Lib.hid hX3
                        have HP := Lib.hid hO3
                        have HT := Lib.hid hD3
                        have HD := Lib.hid hP3
                        clear hD3
                        clear hP3
                        clear hA3 hO3 hX3
                        refine WalkN.one 6 (by kernel_rfl) ?_
                        refine ⟨_, (by simp only [List.getElem?_toArray, List.getElem?_cons_succ, List.getElem?_cons_zero]; rfl), by rfl, fun K hK => ?_⟩
                        refine wp_own tabsT (.tmp 74) (.tmp 76) rfl rfl HT.out rfl (HS2.out.same (Same.below hE.out)) (tcs_one _) (by rw [List.nil_append]; omega) (by rw [List.nil_append]; omega) hE.out.size (fun v4 u5 hown hb hg => ?_)
                        have hX4 : Ext wd u5 := Below.trans hE.out hb
                        have hD4 := HD.out.aside HT.out (by decide) hg
                        have hP4 := HP.out.aside HT.out (by decide) hg
                        refine hK.out _ _ hX4 ?_
                        clear hK
                        simp only [Act.put, List.setIfInBounds_toArray, List.set_cons_zero, List.set_cons_succ]
                        have hE := Lib.hid hX4
                        have HT := Lib.hid hown
                        have HD := Lib.hid hD4
                        have HP := Lib.hid hP4
                        clear hD4
                        clear hP4
                        clear hown hb hg hX4
                        refine WalkN.one 10 (by kernel_rfl) ?_
                        refine ⟨_, (by simp only [List.getElem?_toArray, List.getElem?_cons_succ, List.getElem?_cons_zero]; rfl), by rfl, fun K hK => ?_⟩
                        refine wp_own intsT (.tmp 78) (.tmp 80) rfl rfl HD.out rfl (HS3.out.same (Same.below hE.out)) (ic_one _) (by rw [List.length_nil]; omega) (by rw [List.length_nil]; omega) hE.out.size (fun v5 u6 hown hb hg => ?_)
                        have hX5 : Ext wd u6 := Below.trans hE.out hb
                        have hD5 := HT.out.aside HD.out (by decide) hg
                        have hP5 := HP.out.aside HD.out (by decide) hg
                        refine hK.out _ _ hX5 ?_
                        clear hK
                        simp only [Act.put, List.setIfInBounds_toArray, List.set_cons_zero, List.set_cons_succ]
                        have hE := Lib.hid hX5
                        have HD := Lib.hid hown
                        have HT := Lib.hid hD5
                        have HP := Lib.hid hP5
                        clear hP5
                        clear hown hb hg hX5 hD5
                        refine WalkN.one 13 (by kernel_rfl) ?_
                        refine ⟨_, (by simp only [List.getElem?_toArray, List.getElem?_cons_succ, List.getElem?_cons_zero]; rfl), by rfl, fun K hK => ?_⟩
                        refine wp_own intsT (.tmp 81) (.tmp 83) rfl rfl HD.out rfl (HS4.out.same (Same.below hE.out)) (ic_one _) (by rw [List.nil_append]; omega) (by rw [List.nil_append]; omega) hE.out.size (fun v6 u7 hown hb hg => ?_)
                        have hX6 : Ext wd u7 := Below.trans hE.out hb
                        have hD6 := HT.out.aside HD.out (by decide) hg
                        have hP6 := HP.out.aside HD.out (by decide) hg
                        refine hK.out _ _ hX6 ?_
                        clear hK
                        simp only [Act.put, List.setIfInBounds_toArray, List.set_cons_zero, List.set_cons_succ]
                        have hE := Lib.hid hX6
                        have HD := Lib.hid hown
                        have HT := Lib.hid hD6
                        have HP := Lib.hid hP6
                        clear hP6
                        clear hown hb hg hX6 hD6
                        obtain ⟨to, tn, tc, rfl, _, _⟩ := HT.out.sl.len
                        obtain ⟨yo, yn, yc, rfl, _, _⟩ := HD.out.sl.len
                        ((refine WalkN.take 34 _ ?_ (by simp only [List.getElem?_toArray, List.getElem?_cons_succ, List.getElem?_cons_zero]; rfl) (by kernel_rfl) (by kernel_rfl) (by rfl) (fun W hW => ?_) ?_; rotate_left; · (go_simp; try with_reducible rfl)); simp only [Act.put, List.setIfInBounds_toArray, List.set_cons_zero, List.set_cons_succ])
                        refine WalkN.one 36 (by kernel_rfl) ?_
                        have hPc := HP.out.cells
                        have hPf := HP.out.free
                        refine ⟨_, (by simp only [List.getElem?_toArray, List.getElem?_cons_succ, List.getElem?_cons_zero]; rfl), by rfl, fun K hK => ?_⟩
                        go_simp
                        have hX7 := below_set6 (b0 := .slice to tn tc) (b1 := .slice yo yn yc) (b2 := .int .u64 mf) (b3 := .int .u64 mh) (b4 := .int .i64 (max elg blg)) (b5 := .int .i64 (max enx bnx)) hE.out hp
                        have hT7 := own_set6 (b0 := .slice to tn tc) (b1 := .slice yo yn yc) (b2 := .int .u64 mf) (b3 := .int .u64 mh) (b4 := .int .i64 (max elg blg)) (b5 := .int .i64 (max enx bnx)) HT.out HP.out (by decide)
                        have hD7 := own_set6 (b0 := .slice to tn tc) (b1 := .slice yo yn yc) (b2 := .int .u64 mf) (b3 := .int .u64 mh) (b4 := .int .i64 (max elg blg)) (b5 := .int .i64 (max enx bnx)) HD.out HP.out (by decide)
                        have hP7 := blk_set6 (b0 := .slice to tn tc) (b1 := .slice yo yn yc) (b2 := .int .u64 mf) (b3 := .int .u64 mh) (b4 := .int .i64 (max elg blg)) (b5 := .int .i64 (max enx bnx)) HP.out
                        refine hK.out _ _ hX7 ?_
                        clear hK hPc hPf
                        generalize (((((u7.setCell ⟨_, 0, none⟩ (.slice to tn tc)).setCell ⟨_, 1, none⟩ (.slice yo yn yc)).setCell ⟨_, 2, none⟩ (.int .u64 mf)).setCell ⟨_, 3, none⟩ (.int .u64 mh)).setCell ⟨_, 4, none⟩ (.int .i64 (max elg blg))).setCell ⟨_, 5, none⟩ (.int .i64 (max enx bnx)) = u8 at *
                        clear HP HT HD hE
                        refine WalkN.done (by kernel_rfl) ?_
                        have hX8 : Ext wd u8 := hX7
                        rw [List.nil_append, ← tcs_append] at hT7
                        rw [List.nil_append, ← ic_append] at hD7
                        have hPc := hP7.cells
                        have hAc := (hAd.below hX8).cells
                        have hVc := (hVd.below hX8)
                        go_wp2_with fail
                        refine (HP3'.out _ _ _ (HTV.out.up hX8) (hT7.sl.mono fun b h => h.2) (hD7.sl.mono fun b h => h.2)).mono ?_
                        rintro e w9 ⟨cv, rfl, hS9, hb9⟩
                        obtain ⟨co, cc, rfl, _, _, _⟩ := hS9.tabs
                        unfold vV
                        dsimp only at *
                        have hE10 : Below w9.heap.size w9 (w9.alloc (.cells #[.slice co bl.length cc, .int .u64 bf, .int .u64 bh, .int .i64 blg', .int .i64 bnx'] 25)) := (Below.refl _ _).alloc (Nat.le_refl _) _
                        have hC10 := (Blk.made w9 #[.slice co bl.length cc, .int .u64 bf, .int .u64 bh, .int .i64 blg', .int .i64 bnx'] 25).cells
                        have hV10 := ((hVc.below hb9).below hE10).cells
                        have hSC := hS9.up hE10
                        have hSB := ((HSV.out.up hX8).up hb9).up hE10
                        have hBF : Below w.heap.size w (w9.alloc (.cells #[.slice co bl.length cc, .int .u64 bf, .int .u64 bh, .int .i64 blg', .int .i64 bnx'] 25)) := ((hBd.trans (Below.mono hX8 hBd.size)).trans (hb9.mono (Nat.le_trans hBd.size hX8.size))).trans (hE10.mono (Nat.le_trans (Nat.le_trans hBd.size hX8.size) hb9.size))
                        clear hPc hAc
                        go_wp2_with fail
                        refine (sameV_ok (.slice xo bl.length xc) (.slice co bl.length cc) ⟨bl, bf, bh, blg', bnx'⟩ _ hSB hSC).mono ?_
                        rintro e w11 ⟨rfl, hb11⟩
                        go_wp2
                        go_ret
                        exact ⟨rfl, hBF.trans (hb11.mono hBF.size)⟩
                    · refine ⟨_, (by simp only [List.getElem?_toArray, List.getElem?_cons_succ, List.getElem?_cons_zero]; rfl), by rfl, fun K hK => ?_⟩
                      go_simp
                      have hA2 := Ext.alloc u2 (.cells #[.slice none 0 0, .slice none 0 0, .int .u64 0, .int .u64 0, .int .i64 0, .int .i64 0] 28)
                      have hO2 := Blk.made u2 #[.slice none 0 0, .slice none 0 0, .int .u64 0, .int .u64 0, .int .i64 0, .int .i64 0] 28
                      have hX2 := Ext.trans hE.out hA2
                      have hp := hE.out.size
                      have hD2 := HT.out.below hA2
                      refine hK.out _ _ hX2 ?_
                      clear hK
                      generalize u2.alloc (.cells #[.slice none 0 0, .slice none 0 0, .int .u64 0, .int .u64 0, .int .i64 0, .int .i64 0] 28) = u3 at *
                      have hE := Lib.hid hX2
                      have HP := Lib.hid hO2
                      have HT := Lib.hid hD2
                      clear hD2
                      clear hA2 hO2 hX2
                      refine WalkN.two 6 7 (by kernel_rfl) ?_ ?_
                      · refine ⟨_, (by simp only [List.getElem?_toArray, List.getElem?_cons_succ, List.getElem?_cons_zero]; rfl), by rfl, fun K hK => ?_⟩
                        refine wp_own tabsT (.tmp 74) (.tmp 76) rfl rfl HT.out rfl (HS2.out.same (Same.below hE.out)) (tcs_one _) (by rw [List.nil_append]; omega) (by rw [List.nil_append]; omega) hE.out.size (fun v3 u4 hown hb hg => ?_)
                        have hX3 : Ext wd u4 := Below.trans hE.out hb
                        have hP3 := HP.out.aside HT.out (by decide) hg
                        refine hK.out _ _ hX3 ?_
                        clear hK
                        simp only [Act.put, List.setIfInBounds_toArray, List.set_cons_zero, List.set_cons_succ]
                        have hE := Lib.hid hX3
                        have HT := Lib.hid hown
                        have HP := Lib.hid hP3
                        clear hP3
                        clear hown hb hg hX3
                        refine WalkN.one 7 (by kernel_rfl) ?_
                        refine ⟨_, (by simp only [List.getElem?_toArray, List.getElem?_cons_succ, List.getElem?_cons_zero]; rfl), by rfl, fun K hK => ?_⟩
                        go_simp
                        have hA4 := Ext.alloc u4 (.cells #[] 3)
                        have hO4 := Own.made u4 (B := wd.heap.size) hE.out.size 3 1
                        have hX4 := Ext.trans hE.out hA4
                        have hD4 := HT.out.below hA4
                        have hP4 := HP.out.below hA4
                        refine hK.out _ _ hX4 ?_
                        clear hK
                        generalize u4.alloc (.cells #[] 3) = u5 at *
                        have hE := Lib.hid hX4
                        have HD := Lib.hid hO4
                        have HT := Lib.hid hD4
                        have HP := Lib.hid hP4
                        clear hD4
                        clear hP4
                        clear hA4 hO4 hX4
                        refine WalkN.one 10 (by kernel_rfl) ?_
                        refine ⟨_, (by simp only [List.getElem?_toArray, List.getElem?_cons_succ, List.getElem?_cons_zero]; rfl), by rfl, fun K hK => ?_⟩
                        refine wp_own intsT (.tmp 78) (.tmp 80) rfl rfl HD.out rfl (HS3.out.same (Same.below hE.out)) (ic_one _) (by rw [List.length_nil]; omega) (by rw [List.length_nil]; omega) hE.out.size (fun v5 u6 hown hb hg => ?_)
                        have hX5 : Ext wd u6 := Below.trans hE.out hb
                        have hD5 := HT.out.aside HD.out (by decide) hg
                        have hP5 := HP.out.aside HD.out (by decide) hg
                        refine hK.out _ _ hX5 ?_
                        clear hK
                        simp only [Act.put, List.setIfInBounds_toArray, List.set_cons_zero, List.set_cons_succ]
                        have hE := Lib.hid hX5
                        have HD := Lib.hid hown
                        have HT := Lib.hid hD5
                        have HP := Lib.hid hP5
                        clear hP5
                        clear hown hb hg hX5 hD5
                        refine WalkN.one 13 (by kernel_rfl) ?_
                        refine ⟨_, (by simp only [List.getElem?_toArray, List.getElem?_cons_succ, List.getElem?_cons_zero]; rfl), by rfl, fun K hK => ?_⟩
                        refine wp_own intsT (.tmp 81) (.tmp 83) rfl rfl HD.out rfl (HS4.out.same (Same.below hE.out)) (ic_one _) (by rw [List.nil_append]; omega) (by rw [List.nil_append]; omega) hE.out.size (fun v6 u7 hown hb hg => ?_)
                        have hX6 : Ext wd u7 := Below.trans hE.out hb
                        have hD6 := HT.out.aside HD.out (by decide) hg
                        have hP6 := HP.out.aside HD.out (by decide) hg
                        refine hK.out _ _ hX6 ?_
                        clear hK
                        simp only [Act.put, List.setIfInBounds_toArray, List.set_cons_zero, List.set_cons_succ]
                        have hE := Lib.hid hX6
                        have HD := Lib.hid hown
                        have HT := Lib.hid hD6
                        have HP := Lib.hid hP6
                        clear hP6
                        clear hown hb hg hX6 hD6
                        obtain ⟨to, tn, tc, rfl, _, _⟩ := HT.out.sl.len
                        obtain ⟨yo, yn, yc, rfl, _, _⟩ := HD.out.sl.len
                        ((refine WalkN.take 34 _ ?_ (by simp only [List.getElem?_toArray, List.getElem?_cons_succ, List.getElem?_cons_zero]; rfl) (by kernel_rfl) (by kernel_rfl) (by rfl) (fun W hW => ?_) ?_; rotate_left; · (go_simp; try with_reducible rfl)); simp only [Act.put, List.setIfInBounds_toArray, List.set_cons_zero, List.set_cons_succ])
                        refine WalkN.one 36 (by kernel_rfl) ?_
                        have hPc := HP.out.cells
                        have hPf := HP.out.free
                        refine ⟨_, (by simp only [List.getElem?_toArray, List.getElem?_cons_succ, List.getElem?_cons_zero]; rfl), by rfl, fun K hK => ?_⟩
                        go_simp
                        have hX7 := below_set6 (b0 := .slice to tn tc) (b1 := .slice yo yn yc) (b2 := .int .u64 mf) (b3 := .int .u64 mh) (b4 := .int .i64 (max elg blg)) (b5 := .int .i64 (max enx bnx)) hE.out hp
                        have hT7 := own_set6 (b0 := .slice to tn tc) (b1 := .slice yo yn yc) (b2 := .int .u64 mf) (b3 := .int .u64 mh) (b4 := .int .i64 (max elg blg)) (b5 := .int .i64 (max enx bnx)) HT.out HP.out (by decide)
                        have hD7 := own_set6 (b0 := .slice to tn tc) (b1 := .slice yo yn yc) (b2 := .int .u64 mf) (b3 := .int .u64 mh) (b4 := .int .i64 (max elg blg)) (b5 := .int .i64 (max enx bnx)) HD.out HP.out (by decide)
                        have hP7 := blk_set6 (b0 := .slice to tn tc) (b1 := .slice yo yn yc) (b2 := .int .u64 mf) (b3 := .int .u64 mh) (b4 := .int .i64 (max elg blg)) (b5 := .int .i64 (max enx bnx)) HP.out
                        refine hK.out _ _ hX7 ?_
                        clear hK hPc hPf
                        generalize (((((u7.setCell ⟨_, 0, none⟩ (.slice to tn tc)).setCell ⟨_, 1, none⟩ (.slice yo yn yc)).setCell ⟨_, 2, none⟩ (.int .u64 mf)).setCell ⟨_, 3, none⟩ (.int .u64 mh)).setCell ⟨_, 4, none⟩ (.int .i64 (max elg blg))).setCell ⟨_, 5, none⟩ (.int .i64 (max enx bnx)) = u8 at *
                        clear HP HT HD hE
                        refine WalkN.done (by kernel_rfl) ?_
                        have hX8 : Ext wd u8 := hX7
                        rw [List.nil_append, ← tcs_append] at hT7
                        rw [List.nil_append, ← ic_append] at hD7
                        have hPc := hP7.cells
                        have hAc := (hAd.below hX8).cells
                        have hVc := (hVd.below hX8)
                        go_wp2_with fail
                        refine (HP3'.out _ _ _ (HTV.out.up hX8) (hT7.sl.mono fun b h => h.2) (hD7.sl.mono fun b h => h.2)).mono ?_
                        rintro e w9 ⟨cv, rfl, hS9, hb9⟩
                        obtain ⟨co, cc, rfl, _, _, _⟩ := hS9.tabs
                        unfold vV
                        dsimp only at *
                        have hE10 : Below w9.heap.size w9 (w9.alloc (.cells #[.slice co bl.length cc, .int .u64 bf, .int .u64 bh, .int .i64 blg', .int .i64 bnx'] 25)) := (Below.refl _ _).alloc (Nat.le_refl _) _
                        have hC10 := (Blk.made w9 #[.slice co bl.length cc, .int .u64 bf, .int .u64 bh, .int .i64 blg', .int .i64 bnx'] 25).cells
                        have hV10 := ((hVc.below hb9).below hE10).cells
                        have hSC := hS9.up hE10
                        have hSB := ((HSV.out.up hX8).up hb9).up hE10
                        have hBF : Below w.heap.size w (w9.alloc (.cells #[.slice co bl.length cc, .int .u64 bf, .int .u64 bh, .int .i64 blg', .int .i64 bnx'] 25)) := ((hBd.trans (Below.mono hX8 hBd.size)).trans (hb9.mono (Nat.le_trans hBd.size hX8.size))).trans (hE10.mono (Nat.le_trans (Nat.le_trans hBd.size hX8.size) hb9.size))
                        clear hPc hAc
                        go_wp2_with fail
                        refine (sameV_ok (.slice xo bl.length xc) (.slice co bl.length cc) ⟨bl, bf, bh, blg', bnx'⟩ _ hSB hSC).mono ?_
                        rintro e w11 ⟨rfl, hb11⟩
                        go_wp2
                        go_ret
                        exact ⟨rfl, hBF.trans (hb11.mono hBF.size)⟩
                      · refine ⟨_, (by simp only [List.getElem?_toArray, List.getElem?_cons_succ, List.getElem?_cons_zero]; rfl), by rfl, fun K hK => ?_⟩
                        go_simp
                        have hA3 := Ext.alloc u3 (.cells #[] 3)
                        have hO3 := Own.made u3 (B := wd.heap.size) hE.out.size 3 1
                        have hX3 := Ext.trans hE.out hA3
                        have hD3 := HT.out.below hA3
                        have hP3 := HP.out.below hA3
                        refine hK.out _ _ hX3 ?_
                        clear hK
                        generalize u3.alloc (.cells #[] 3) = u4 at *
                        have hE := Lib.hid hX3
                        have HD := Lib.hid hO3
                        have HT := Lib.hid hD3
                        have HP := Lib.hid hP3
                        clear hD3
                        clear hP3
                        clear hA3 hO3 hX3
                        refine WalkN.one 6 (by kernel_rfl) ?_
                        refine ⟨_, (by simp only [List.getElem?_toArray, List.getElem?_cons_succ, List.getElem?_cons_zero]; rfl), by rfl, fun K hK => ?_⟩
                        refine wp_own tabsT (.tmp 74) (.tmp 76) rfl rfl HT.out rfl (HS2.out.same (Same.below hE.out)) (tcs_one _) (by rw [List.nil_append]; omega) (by rw [List.nil_append]; omega) hE.out.size (fun v4 u5 hown hb hg => ?_)
                        have hX4 : Ext wd u5 := Below.trans hE.out hb
                        have hD4 := HD.out.aside HT.out (by decide) hg
                        have hP4 := HP.out.aside HT.out (by decide) hg
                        refine hK.out _ _ hX4 ?_
                        clear hK
                        simp only [Act.put, List.setIfInBounds_toArray, List.set_cons_zero, List.set_cons_succ]
                        have hE := Lib.hid hX4
                        have HT := Lib.hid hown
                        have HD := Lib.hid hD4
                        have HP := Lib.hid hP4
                        clear hD4
                        clear hP4
                        clear hown hb hg hX4
                        refine WalkN.one 10 (by kernel_rfl) ?_
                        refine ⟨_, (by simp only [List.getElem?_toArray, List.getElem?_cons_succ, List.getElem?_cons_zero]; rfl), by rfl, fun K hK => ?_⟩
                        refine wp_own intsT (.tmp 78) (.tmp 80) rfl rfl HD.out rfl (HS3.out.same (Same.below hE.out)) (ic_one _) (by rw [List.length_nil]; omega) (by rw [List.length_nil]; omega) hE.out.size (fun v5 u6 hown hb hg => ?_)
                        have hX5 : Ext wd u6 := Below.trans hE.out hb
                        have hD5 := HT.out.aside HD.out (by decide) hg
                        have hP5 := HP.out.aside HD.out (by decide) hg
                        refine hK.out _ _ hX5 ?_
                        clear hK
                        simp only [Act.put, List.setIfInBounds_toArray, List.set_cons_zero, List.set_cons_succ]
                        have hE := Lib.hid hX5
                        have HD := Lib.hid hown
                        have HT := Lib.hid hD5
                        have HP := Lib.hid hP5
                        clear hP5
                        clear hown hb hg hX5 hD5
                        refine WalkN.one 13 (by kernel_rfl) ?_
                        refine ⟨_, (by simp only [List.getElem?_toArray, List.getElem?_cons_succ, List.getElem?_cons_zero]; rfl), by rfl, fun K hK => ?_⟩
                        refine wp_own intsT (.tmp 81) (.tmp 83) rfl rfl HD.out rfl (HS4.out.same (Same.below hE.out)) (ic_one _) (by rw [List.nil_append]; omega) (by rw [List.nil_append]; omega) hE.out.size (fun v6 u7 hown hb hg => ?_)
                        have hX6 : Ext wd u7 := Below.trans hE.out hb
                        have hD6 := HT.out.aside HD.out (by decide) hg
                        have hP6 := HP.out.aside HD.out (by decide) hg
                        refine hK.out _ _ hX6 ?_
                        clear hK
                        simp only [Act.put, List.setIfInBounds_toArray, List.set_cons_zero, List.set_cons_succ]
                        have hE := Lib.hid hX6
                        have HD := Lib.hid hown
                        have HT := Lib.hid hD6
                        have HP := Lib.hid hP6
                        clear hP6
                        clear hown hb hg hX6 hD6
                        obtain ⟨to, tn, tc, rfl, _, _⟩ := HT.out.sl.len
                        obtain ⟨yo, yn, yc, rfl, _, _⟩ := HD.out.sl.len
                        ((refine WalkN.take 34 _ ?_ (by simp only [List.getElem?_toArray, List.getElem?_cons_succ, List.getElem?_cons_zero]; rfl) (by kernel_rfl) (by kernel_rfl) (by rfl) (fun W hW => ?_) ?_; rotate_left; · (go_simp; try with_reducible rfl)); simp only [Act.put, List.setIfInBounds_toArray, List.set_cons_zero, List.set_cons_succ])
                        refine WalkN.one 36 (by kernel_rfl) ?_
                        have hPc := HP.out.cells
                        have hPf := HP.out.free
                        refine ⟨_, (by simp only [List.getElem?_toArray, List.getElem?_cons_succ, List.getElem?_cons_zero]; rfl), by rfl, fun K hK => ?_⟩
                        go_simp
                        have hX7 := below_set6 (b0 := .slice to tn tc) (b1 := .slice yo yn yc) (b2 := .int .u64 mf) (b3 := .int .u64 mh) (b4 := .int .i64 (max elg blg)) (b5 := .int .i64 (max enx bnx)) hE.out hp
                        have hT7 := own_set6 (b0 := .slice to tn tc) (b1 := .slice yo yn yc) (b2 := .int .u64 mf) (b3 := .int .u64 mh) (b4 := .int .i64 (max elg blg)) (b5 := .int .i64 (max enx bnx)) HT.out HP.out (by decide)
                        have hD7 := own_set6 (b0 := .slice to tn tc) (b1 := .slice yo yn yc) (b2 := .int .u64 mf) (b3 := .int .u64 mh) (b4 := .int .i64 (max elg blg)) (b5 := .int .i64 (max enx bnx)) HD.out HP.out (by decide)
                        have hP7 := blk_set6 (b0 := .slice to tn tc) (b1 := .slice yo yn yc) (b2 := .int .u64 mf) (b3 := .int .u64 mh) (b4 := .int .i64 (max elg blg)) (b5 := .int .i64 (max enx bnx)) HP.out
                        refine hK.out _ _ hX7 ?_
                        clear hK hPc hPf
                        generalize (((((u7.setCell ⟨_, 0, none⟩ (.slice to tn tc)).setCell ⟨_, 1, none⟩ (.slice yo yn yc)).setCell ⟨_, 2, none⟩ (.int .u64 mf)).setCell ⟨_, 3, none⟩ (.int .u64 mh)).setCell ⟨_, 4, none⟩ (.int .i64 (max elg blg))).setCell ⟨_, 5, none⟩ (.int .i64 (max enx bnx)) = u8 at *
                        clear HP HT HD hE
                        refine WalkN.done (by kernel_rfl) ?_
                        have hX8 : Ext wd u8 := hX7
                        rw [List.nil_append, ← tcs_append] at hT7
                        rw [List.nil_append, ← ic_append] at hD7
                        have hPc := hP7.cells
                        have hAc := (hAd.below hX8).cells
                        have hVc := (hVd.below hX8)
                        go_wp2_with fail
                        refine (HP3'.out _ _ _ (HTV.out.up hX8) (hT7.sl.mono fun b h => h.2) (hD7.sl.mono fun b h => h.2)).mono ?_
                        rintro e w9 ⟨cv, rfl, hS9, hb9⟩
                        obtain ⟨co, cc, rfl, _, _, _⟩ := hS9.tabs
                        unfold vV
                        dsimp only at *
                        have hE10 : Below w9.heap.size w9 (w9.alloc (.cells #[.slice co bl.length cc, .int .u64 bf, .int .u64 bh, .int .i64 blg', .int .i64 bnx'] 25)) := (Below.refl _ _).alloc (Nat.le_refl _) _
                        have hC10 := (Blk.made w9 #[.slice co bl.length cc, .int .u64 bf, .int .u64 bh, .int .i64 blg', .int .i64 bnx'] 25).cells
                        have hV10 := ((hVc.below hb9).below hE10).cells
                        have hSC := hS9.up hE10
                        have hSB := ((HSV.out.up hX8).up hb9).up hE10
                        have hBF : Below w.heap.size w (w9.alloc (.cells #[.slice co bl.length cc, .int .u64 bf, .int .u64 bh, .int .i64 blg', .int .i64 bnx'] 25)) := ((hBd.trans (Below.mono hX8 hBd.size)).trans (hb9.mono (Nat.le_trans hBd.size hX8.size))).trans (hE10.mono (Nat.le_trans (Nat.le_trans hBd.size hX8.size) hb9.size))
                        clear hPc hAc
                        go_wp2_with fail
                        refine (sameV_ok (.slice xo bl.length xc) (.slice co bl.length cc) ⟨bl, bf, bh, blg', bnx'⟩ _ hSB hSC).mono ?_
                        rintro e w11 ⟨rfl, hb11⟩
                        go_wp2
                        go_ret
                        exact ⟨rfl, hBF.trans (hb11.mono hBF.size)⟩
                  · refine ⟨_, (by simp only [List.getElem?_toArray, List.getElem?_cons_succ, List.getElem?_cons_zero]; rfl), by rfl, fun K hK => ?_⟩
                    go_simp
                    have hA1 := Ext.alloc u1 (.cells #[] 3)
                    have hO1 := Own.made u1 (B := wd.heap.size) hE.out.size 3 1
                    have hX1 := Ext.trans hE.out hA1
                    have hD1 := HT.out.below hA1
                    refine hK.out _ _ hX1 ?_
                    clear hK
                    generalize u1.alloc (.cells #[] 3) = u2 at *
                    have hE := Lib.hid hX1
                    have HD := Lib.hid hO1
                    have HT := Lib.hid hD1
                    clear hD1
                    clear hA1 hO1 hX1
                    refine WalkN.two 3 35 (by kernel_rfl) ?_ ?_
                    · refine ⟨_, (by simp only [List.getElem?_toArray, List.getElem?_cons_succ, List.getElem?_cons_zero]; rfl), by rfl, fun K hK => ?_⟩
                      refine wp_own tabsT (.tmp 71) (.tmp 73) rfl rfl HT.out rfl (HS1.out.same (Same.below hE.out)) (tcs_one _) (by rw [List.length_nil]; omega) (by rw [List.length_nil]; omega) hE.out.size (fun v2 u3 hown hb hg => ?_)
                      have hX2 : Ext wd u3 := Below.trans hE.out hb
                      have hD2 := HD.out.aside HT.out (by decide) hg
                      refine hK.out _ _ hX2 ?_
                      clear hK
                      simp only [Act.put, List.setIfInBounds_toArray, List.set_cons_zero, List.set_cons_succ]
                      have hE := Lib.hid hX2
                      have HT := Lib.hid hown
                      have HD := Lib.hid hD2
                      clear hD2
                      clear hown hb hg hX2
                      refine WalkN.two 6 35 (by kernel_rfl) ?_ ?_
                      · refine ⟨_, (by simp only [List.getElem?_toArray, List.getElem?_cons_succ, List.getElem?_cons_zero]; rfl), by rfl, fun K hK => ?_⟩
                        refine wp_own tabsT (.tmp 74) (.tmp 76) rfl rfl HT.out rfl (HS2.out.same (Same.below hE.out)) (tcs_one _) (by rw [List.nil_append]; omega) (by rw [List.nil_append]; omega) hE.out.size (fun v3 u4 hown hb hg => ?_)
                        have hX3 : Ext wd u4 := Below.trans hE.out hb
                        have hD3 := HD.out.aside HT.out (by decide) hg
                        refine hK.out _ _ hX3 ?_
                        clear hK
                        simp only [Act.put, List.setIfInBounds_toArray, List.set_cons_zero, List.set_cons_succ]
                        have hE := Lib.hid hX3
                        have HT := Lib.hid hown
                        have HD := Lib.hid hD3
                        clear hD3
                        clear hown hb hg hX3
                        refine WalkN.two 10 35 (by kernel_rfl) ?_ ?_
                        · refine ⟨_, (by simp only [List.getElem?_toArray, List.getElem?_cons_succ, List.getElem?_cons_zero]; rfl), by rfl, fun K hK => ?_⟩
                          refine wp_own intsT (.tmp 78) (.tmp 80) rfl rfl HD.out rfl (HS3.out.same (Same.below hE.out)) (ic_one _) (by rw [List.length_nil]; omega) (by rw [List.length_nil]; omega) hE.out.size (fun v4 u5 hown hb hg => ?_)
                          have hX4 : Ext wd u5 := Below.trans hE.out hb
                          have hD4 := HT.out.aside HD.out (by decide) hg
                          refine hK.out _ _ hX4 ?_
                          clear hK
                          simp only [Act.put, List.setIfInBounds_toArray, List.set_cons_zero, List.set_cons_succ]
                          have hE := Lib.hid hX4
                          have HD := Lib.hid hown
                          have HT := Lib.hid hD4
                          clear hown hb hg hX4 hD4
                          refine WalkN.two 13 35 (by kernel_rfl) ?_ ?_
                          · refine ⟨_, (by simp only [List.getElem?_toArray, List.getElem?_cons_succ, List.getElem?_cons_zero]; rfl), by rfl, fun K hK => ?_⟩
                            refine wp_own intsT (.tmp 81) (.tmp 83) rfl rfl HD.out rfl (HS4.out.same (Same.below hE.out)) (ic_one _) (by rw [List.nil_append]; omega) (by rw [List.nil_append]; omega) hE.out.size (fun v5 u6 hown hb hg => ?_)
                            have hX5 : Ext wd u6 := Below.trans hE.out hb
                            have hD5 := HT.out.aside HD.out (by decide) hg
                            refine hK.out _ _ hX5 ?_
                            clear hK
                            simp only [Act.put, List.setIfInBounds_toArray, List.set_cons_zero, List.set_cons_succ]
                            have hE := Lib.hid hX5
                            have HD := Lib.hid hown
                            have HT := Lib.hid hD5
                            clear hown hb hg hX5 hD5
                            obtain ⟨to, tn, tc, rfl, _, _⟩ := HT.out.sl.len
                            obtain ⟨yo, yn, yc, rfl, _, _⟩ := HD.out.sl.len
                            ((refine WalkN.take 34 _ ?_ (by simp only [List.getElem?_toArray, List.getElem?_cons_succ, List.getElem?_cons_zero]; rfl) (by kernel_rfl) (by kernel_rfl) (by rfl) (fun W hW => ?_) ?_; rotate_left; · (go_simp; try with_reducible rfl)); simp only [Act.put, List.setIfInBounds_toArray, List.set_cons_zero, List.set_cons_succ])
                            refine WalkN.one 35 (by kernel_rfl) ?_
                            refine ⟨_, (by simp only [List.getElem?_toArray, List.getElem?_cons_succ, List.getElem?_cons_zero]; rfl), by rfl, fun K hK => ?_⟩
                            go_simp
                            have hA6 := Ext.alloc u6 (.cells #[.slice none 0 0, .slice none 0 0, .int .u64 0, .int .u64 0, .int .i64 0, .int .i64 0] 28)
                            have hO6 := Blk.made u6 #[.slice none 0 0, .slice none 0 0, .int .u64 0, .int .u64 0, .int .i64 0, .int .i64 0] 28
                            have hX6 := Ext.trans hE.out hA6
                            have hp := hE.out.size
                            have hD6 := HT.out.below hA6
                            have hP6 := HD.out.below hA6
                            refine hK.out _ _ hX6 ?_
                            clear hK
                            generalize u6.alloc (.cells #[.slice none 0 0, .slice none 0 0, .int .u64 0, .int .u64 0, .int .i64 0, .int .i64 0] 28) = u7 at *
                            have hE := Lib.hid hX6
                            have HP := Lib.hid hO6
                            have HT := Lib.hid hD6
                            have HD := Lib.hid hP6
                            clear hD6
                            clear hP6
                            clear hA6 hO6 hX6
                            refine WalkN.one 36 (by kernel_rfl) ?_
                            have hPc := HP.out.cells
                            have hPf := HP.out.free
                            refine ⟨_, (by simp only [List.getElem?_toArray, List.getElem?_cons_succ, List.getElem?_cons_zero]; rfl), by rfl, fun K hK => ?_⟩
                            go_simp
                            have hX7 := below_set6 (b0 := .slice to tn tc) (b1 := .slice yo yn yc) (b2 := .int .u64 mf) (b3 := .int .u64 mh) (b4 := .int .i64 (max elg blg)) (b5 := .int .i64 (max enx bnx)) hE.out hp
                            have hT7 := own_set6 (b0 := .slice to tn tc) (b1 := .slice yo yn yc) (b2 := .int .u64 mf) (b3 := .int .u64 mh) (b4 := .int .i64 (max elg blg)) (b5 := .int .i64 (max enx bnx)) HT.out HP.out (by decide)
                            have hD7 := own_set6 (b0 := .slice to tn tc) (b1 := .slice yo yn yc) (b2 := .int .u64 mf) (b3 := .int .u64 mh) (b4 := .int .i64 (max elg blg)) (b5 := .int .i64 (max enx bnx)) HD.out HP.out (by decide)
                            have hP7 := blk_set6 (b0 := .slice to tn tc) (b1 := .slice yo yn yc) (b2 := .int .u64 mf) (b3 := .int .u64 mh) (b4 := .int .i64 (max elg blg)) (b5 := .int .i64 (max enx bnx)) HP.out
                            refine hK.out _ _ hX7 ?_
                            clear hK hPc hPf
                            generalize (((((u7.setCell ⟨_, 0, none⟩ (.slice to tn tc)).setCell ⟨_, 1, none⟩ (.slice yo yn yc)).setCell ⟨_, 2, none⟩ (.int .u64 mf)).setCell ⟨_, 3, none⟩ (.int .u64 mh)).setCell ⟨_, 4, none⟩ (.int .i64 (max elg blg))).setCell ⟨_, 5, none⟩ (.int .i64 (max enx bnx)) = u8 at *
                            clear HP HT HD hE
                            refine WalkN.done (by kernel_rfl) ?_
                            have hX8 : Ext wd u8 := hX7
                            rw [List.nil_append, ← tcs_append] at hT7
                            rw [List.nil_append, ← ic_append] at hD7
                            have hPc := hP7.cells
                            have hAc := (hAd.below hX8).cells
                            have hVc := (hVd.below hX8)
                            go_wp2_with fail
                            refine (HP3'.out _ _ _ (HTV.out.up hX8) (hT7.sl.mono fun b h => h.2) (hD7.sl.mono fun b h => h.2)).mono ?_
                            rintro e w9 ⟨cv, rfl, hS9, hb9⟩
                            obtain ⟨co, cc, rfl, _, _, _⟩ := hS9.tabs
                            unfold vV
                            dsimp only at *
                            have hE10 : Below w9.heap.size w9 (w9.alloc (.cells #[.slice co bl.length cc, .int .u64 bf, .int .u64 bh, .int .i64 blg', .int .i64 bnx'] 25)) := (Below.refl _ _).alloc (Nat.le_refl _) _
                            have hC10 := (Blk.made w9 #[.slice co bl.length cc, .int .u64 bf, .int .u64 bh, .int .i64 blg', .int .i64 bnx'] 25).cells
                            have hV10 := ((hVc.below hb9).below hE10).cells
                            have hSC := hS9.up hE10
                            have hSB := ((HSV.out.up hX8).up hb9).up hE10
                            have hBF : Below w.heap.size w (w9.alloc (.cells #[.slice co bl.length cc, .int .u64 bf, .int .u64 bh, .int .i64 blg', .int .i64 bnx'] 25)) := ((hBd.trans (Below.mono hX8 hBd.size)).trans (hb9.mono (Nat.le_trans hBd.size hX8.size))).trans (hE10.mono (Nat.le_trans (Nat.le_trans hBd.size hX8.size) hb9.size))
                            clear hPc hAc
                            go_wp2_with fail
                            refine (sameV_ok (.slice xo bl.length xc) (.slice co bl.length cc) ⟨bl, bf, bh, blg', bnx'⟩ _ hSB hSC).mono ?_
                            rintro e w11 ⟨rfl, hb11⟩
                            go_wp2
                            go_ret
                            exact ⟨rfl, hBF.trans (hb11.mono hBF.size)⟩
                          · refine ⟨_, (by simp only [List.getElem?_toArray, List.getElem?_cons_succ, List.getElem?_cons_zero]; rfl), by rfl, fun K hK => ?_⟩
                            go_simp
                            have hA5 := Ext.alloc u5 (.cells #[.slice none 0 0, .slice none 0 0, .int .u64 0, .int .u64 0, .int .i64 0, .int .i64 0] 28)
                            have hO5 := Blk.made u5 #[.slice none 0 0, .slice none 0 0, .int .u64 0, .int .u64 0, .int .i64 0, .int .i64 0] 28
                            have hX5 := Ext.trans hE.out hA5
                            have hp := hE.out.size
                            have hD5 := HT.out.below hA5
                            have hP5 := HD.out.below hA5
                            refine hK.out _ _ hX5 ?_
                            clear hK
                            generalize u5.alloc (.cells #[.slice none 0 0, .slice none 0 0, .int .u64 0, .int .u64 0, .int .i64 0, .int .i64 0] 28) = u6 at *
                            have hE := Lib.hid hX5
                            have HP := Lib.hid hO5
                            have HT := Lib.hid hD5
                            have HD := Lib.hid hP5
                            clear hD5
                            clear hP5
                            clear hA5 hO5 hX5
                            refine WalkN.one 13 (by kernel_rfl) ?_
                            refine ⟨_, (by simp only [List.getElem?_toArray, List.getElem?_cons_succ, List.getElem?_cons_zero]; rfl), by rfl, fun K hK => ?_⟩
                            refine wp_own intsT (.tmp 81) (.tmp 83) rfl rfl HD.out rfl (HS4.out.same (Same.below hE.out)) (ic_one _) (by rw [List.nil_append]; omega) (by rw [List.nil_append]; omega) hE.out.size (fun v6 u7 hown hb hg => ?_)
                            have hX6 : Ext wd u7 := Below.trans hE.out hb
                            have hD6 := HT.out.aside HD.out (by decide) hg
                            have hP6 := HP.out.aside HD.out (by decide) hg
                            refine hK.out _ _ hX6 ?_
                            clear hK
                            simp only [Act.put, List.setIfInBounds_toArray, List.set_cons_zero, List.set_cons_succ]
                            have hE := Lib.hid hX6
                            have HD := Lib.hid hown
                            have HT := Lib.hid hD6
                            have HP := Lib.hid hP6
                            clear hP6
                            clear hown hb hg hX6 hD6
                            obtain ⟨to, tn, tc, rfl, _, _⟩ := HT.out.sl.len
                            obtain ⟨yo, yn, yc, rfl, _, _⟩ := HD.out.sl.len
                            ((refine WalkN.take 34 _ ?_ (by simp only [List.getElem?_toArray, List.getElem?_cons_succ, List.getElem?_cons_zero]; rfl) (by kernel_rfl) (by kernel_rfl) (by rfl) (fun W hW => ?_) ?_; rotate_left; · (go_simp; try with_reducible rfl)); simp only [Act.put, List.setIfInBounds_toArray, List.set_cons_zero, List.set_cons_succ])
                            refine WalkN.one 36 (by kernel_rfl) ?_
                            have hPc := HP.out.cells
                            have hPf := HP.out.free
                            refine ⟨_, (by simp only [List.getElem?_toArray, List.getElem?_cons_succ, List.getElem?_cons_zero]; rfl), by rfl, fun K hK => ?_⟩
                            go_simp
                            have hX7 := below_set6 (b0 := .slice to tn tc) (b1 := .slice yo yn yc) (b2 := .int .u64 mf) (b3 := .int .u64 mh) (b4 := .int .i64 (max elg blg)) (b5 := .int .i64 (max enx bnx)) hE.out hp
                            have hT7 := own_set6 (b0 := .slice to tn tc) (b1 := .slice yo yn yc) (b2 := .int .u64 mf) (b3 := .int .u64 mh) (b4 := .int .i64 (max elg blg)) (b5 := .int .i64 (max enx bnx)) HT.out HP.out (by decide)
                            have hD7 := own_set6 (b0 := .slice to tn tc) (b1 := .slice yo yn yc) (b2 := .int .u64 mf) (b3 := .int .u64 mh) (b4 := .int .i64 (max elg blg)) (b5 := .int .i64 (max enx bnx)) HD.out HP.out (by decide)
                            have hP7 := blk_set6 (b0 := .slice to tn tc) (b1 := .slice yo yn yc) (b2 := .int .u64 mf) (b3 := .int .u64 mh) (b4 := .int .i64 (max elg blg)) (b5 := .int .i64 (max enx bnx)) HP.out
                            refine hK.out _ _ hX7 ?_
                            clear hK hPc hPf
                            generalize (((((u7.setCell ⟨_, 0, none⟩ (.slice to tn tc)).setCell ⟨_, 1, none⟩ (.slice yo yn yc)).setCell ⟨_, 2, none⟩ (.int .u64 mf)).setCell ⟨_, 3, none⟩ (.int .u64 mh)).setCell ⟨_, 4, none⟩ (.int .i64 (max elg blg))).setCell ⟨_, 5, none⟩ (.int .i64 (max enx bnx)) = u8 at *
                            clear HP HT HD hE
                            refine WalkN.done (by kernel_rfl) ?_
                            have hX8 : Ext wd u8 := hX7
                            rw [List.nil_append, ← tcs_append] at hT7
                            rw [List.nil_append, ← ic_append] at hD7
                            have hPc := hP7.cells
                            have hAc := (hAd.below hX8).cells
                            have hVc := (hVd.below hX8)
                            go_wp2_with fail
                            refine (HP3'.out _ _ _ (HTV.out.up hX8) (hT7.sl.mono fun b h => h.2) (hD7.sl.mono fun b h => h.2)).mono ?_
                            rintro e w9 ⟨cv, rfl, hS9, hb9⟩
                            obtain ⟨co, cc, rfl, _, _, _⟩ := hS9.tabs
                            unfold vV
                            dsimp only at *
                            have hE10 : Below w9.heap.size w9 (w9.alloc (.cells #[.slice co bl.length cc, .int .u64 bf, .int .u64 bh, .int .i64 blg', .int .i64 bnx'] 25)) := (Below.refl _ _).alloc (Nat.le_refl _) _
                            have hC10 := (Blk.made w9 #[.slice co bl.length cc, .int .u64 bf, .int .u64 bh, .int .i64 blg', .int .i64 bnx'] 25).cells
                            have hV10 := ((hVc.below hb9).below hE10).cells
                            have hSC := hS9.up hE10
                            have hSB := ((HSV.out.up hX8).up hb9).up hE10
                            have hBF : Below w.heap.size w (w9.alloc (.cells #[.slice co bl.length cc, .int .u64 bf, .int .u64 bh, .int .i64 blg', .int .i64 bnx'] 25)) := ((hBd.trans (Below.mono hX8 hBd.size)).trans (hb9.mono (Nat.le_trans hBd.size hX8.size))).trans (hE10.mono (Nat.le_trans (Nat.le_trans hBd.size hX8.size) hb9.size))
                            clear hPc hAc
                            go_wp2_with fail
                            refine (sameV_ok (.slice xo bl.length xc) (.slice co bl.length cc) ⟨bl, bf, bh, blg', bnx'⟩ _ hSB hSC).mono ?_
                            rintro e w11 ⟨rfl, hb11⟩
                            go_wp2
                            go_ret
                            exact ⟨rfl, hBF.trans (hb11.mono hBF.size)⟩
                        · refine ⟨_, (by simp only [List.getElem?_toArray, List.getElem?_cons_succ, List.getElem?_cons_zero]; rfl), by rfl, fun K hK => ?_⟩
                          go_simp
                          have hA4 := Ext.alloc u4 (.cells #[.slice none 0 0, .slice none 0 0, .int .u64 0, .int .u64 0, .int .i64 0, .int .i64 0] 28)
                          have hO4 := Blk.made u4 #[.slice none 0 0, .slice none 0 0, .int .u64 0, .int .u64 0, .int .i64 0, .int .i64 0] 28
                          have hX4 := Ext.trans hE.out hA4
                          have hp := hE.out.size
                          have hD4 := HT.out.below hA4
                          have hP4 := HD.out.below hA4
                          refine hK.out _ _ hX4 ?_
                          clear hK
                          generalize u4.alloc (.cells #[.slice none 0 0, .slice none 0 0, .int .u64 0, .int .u64 0, .int .i64 0, .int .i64 0] 28) = u5 at *
                          have hE := Lib.hid hX4
                          have HP := Lib.hid hO4
                          have HT := Lib.hid hD4
                          have HD := Lib.hid hP4
                          clear hD4
                          clear hP4
                          clear hA4 hO4 hX4
                          refine WalkN.one 10 (by kernel_rfl) ?_
                          refine ⟨_, (by simp only [List.getElem?_toArray, List.getElem?_cons_succ, List.getElem?_cons_zero]; rfl), by rfl, fun K hK => ?_⟩
                          refine wp_own intsT (.tmp 78) (.tmp 80) rfl rfl HD.out rfl (HS3.out.same (Same.below hE.out)) (ic_one _) (by rw [List.length_nil]; omega) (by rw [List.length_nil]; omega) hE.out.size (fun v5 u6 hown hb hg => ?_)
                          have hX5 : Ext wd u6 := Below.trans hE.out hb
                          have hD5 := HT.out.aside HD.out (by decide) hg
                          have hP5 := HP.out.aside HD.out (by decide) hg
                          refine hK.out _ _ hX5 ?_
                          clear hK
                          simp only [Act.put, List.setIfInBounds_toArray, List.set_cons_zero, List.set_cons_succ]
                          have hE := Lib.hid hX5
                          have HD := Lib.hid hown
                          have HT := Lib.hid hD5
                          have HP := Lib.hid hP5
                          clear hP5
                          clear hown hb hg hX5 hD5
                          refine WalkN.one 13 (by kernel_rfl) ?_
                          refine ⟨_, (by simp only [List.getElem?_toArray, List.getElem?_cons_succ, List.getElem?_cons_zero]; rfl), by rfl, fun K hK => ?_⟩
                          refine wp_own intsT (.tmp 81) (.tmp 83) rfl rfl HD.out rfl (HS4.out.same (Same.below hE.out)) (ic_one _) (by rw [List.nil_append]; omega) (by rw [List.nil_append]; omega) hE.out.size (fun v6 u7 hown hb hg => ?_)
                          have hX6 : Ext wd u7 := Below.trans hE.out hb
                          have hD6 := HT.out.aside HD.out (by decide) hg
                          have hP6 := HP.out.aside HD.out (by decide) hg
                          refine hK.out _ _ hX6 ?_
                          clear hK
                          simp only [Act.put, List.setIfInBounds_toArray, List.set_cons_zero, List.set_cons_succ]
                          have hE := Lib.hid hX6
                          have HD := Lib.hid hown
                          have HT := Lib.hid hD6
                          have HP := Lib.hid hP6
                          clear hP6
                          clear hown hb hg hX6 hD6
                          obtain ⟨to, tn, tc, rfl, _, _⟩ := HT.out.sl.len
                          obtain ⟨yo, yn, yc, rfl, _, _⟩ := HD.out.sl.len
                          ((refine WalkN.take 34 _ ?_ (by simp only [List.getElem?_toArray, List.getElem?_cons_succ, List.getElem?_cons_zero]; rfl) (by kernel_rfl) (by kernel_rfl) (by rfl) (fun W hW => ?_) ?_; rotate_left; · (go_simp; try with_reducible rfl)); simp only [Act.put, List.setIfInBounds_toArray, List.set_cons_zero, List.set_cons_succ])
                          refine WalkN.one 36 (by kernel_rfl) ?_
                          have hPc := HP.out.cells
                          have hPf := HP.out.free
                          refine ⟨_, (by simp only [List.getElem?_toArray, List.getElem?_cons_succ, List.getElem?_cons_zero]; rfl), by rfl, fun K hK => ?_⟩
                          go_simp
                          have hX7 := below_set6 (b0 := .slice to tn tc) (b1 := .slice yo yn yc) (b2 := .int .u64 mf) (b3 := .int .u64 mh) (b4 := .int .i64 (max elg blg)) (b5 := .int .i64 (max enx bnx)) hE.out hp
                          have hT7 := own_set6 (b0 := .slice to tn tc) (b1 := .slice yo yn yc) (b2 := .int .u64 mf) (b3 := .int .u64 mh) (b4 := .int .i64 (max elg blg)) (b5 := .int .i64 (max enx bnx)) HT.out HP.out (by decide)
                          have hD7 := own_set6 (b0 := .slice to tn tc) (b1 := .slice yo yn yc) (b2 := .int .u64 mf) (b3 := .int .u64 mh) (b4 := .int .i64 (max elg blg)) (b5 := .int .i64 (max enx bnx)) HD.out HP.out (by decide)
                          have hP7 := blk_set6 (b0 := .slice to tn tc) (b1 := .slice yo yn yc) (b2 := .int .u64 mf) (b3 := .int .u64 mh) (b4 := .int .i64 (max elg blg)) (b5 := .int .i64 (max enx bnx)) HP.out
                          refine hK.out _ _ hX7 ?_
                          clear hK hPc hPf
                          generalize (((((u7.setCell ⟨_, 0, none⟩ (.slice to tn tc)).setCell ⟨_, 1, none⟩ (.slice yo yn yc)).setCell ⟨_, 2, none⟩ (.int .u64 mf)).setCell ⟨_, 3, none⟩ (.int .u64 mh)).setCell ⟨_, 4, none⟩ (.int .i64 (max elg blg))).setCell ⟨_, 5, none⟩ (.int .i64 (max enx bnx)) = u8 at *
                          clear HP HT HD hE
                          refine WalkN.done (by kernel_rfl) ?_
                          have hX8 : Ext wd u8 := hX7
                          rw [List.nil_append, ← tcs_append] at hT7
                          rw [List.nil_append, ← ic_append] at hD7
                          have hPc := hP7.cells
                          have hAc := (hAd.below hX8).cells
                          have hVc := (hVd.below hX8)
                          go_wp2_with fail
                          refine (HP3'.out _ _ _ (HTV.out.up hX8) (hT7.sl.mono fun b h => h.2) (hD7.sl.mono fun b h => h.2)).mono ?_
                          rintro e w9 ⟨cv, rfl, hS9, hb9⟩
                          obtain ⟨co, cc, rfl, _, _, _⟩ := hS9.tabs
                          unfold vV
                          dsimp only at *
                          have hE10 : Below w9.heap.size w9 (w9.alloc (.cells #[.slice co bl.length cc, .int .u64 bf, .int .u64 bh, .int .i64 blg', .int .i64 bnx'] 25)) := (Below.refl _ _).alloc (Nat.le_refl _) _
                          have hC10 := (Blk.made w9 #[.slice co bl.length cc, .int .u64 bf, .int .u64 bh, .int .i64 blg', .int .i64 bnx'] 25).cells
                          have hV10 := ((hVc.below hb9).below hE10).cells
                          have hSC := hS9.up hE10
                          have hSB := ((HSV.out.up hX8).up hb9).up hE10
                          have hBF : Below w.heap.size w (w9.alloc (.cells #[.slice co bl.length cc, .int .u64 bf, .int .u64 bh, .int .i64 blg', .int .i64 bnx'] 25)) := ((hBd.trans (Below.mono hX8 hBd.size)).trans (hb9.mono (Nat.le_trans hBd.size hX8.size))).trans (hE10.mono (Nat.le_trans (Nat.le_trans hBd.size hX8.size) hb9.size))
                          clear hPc hAc
                          go_wp2_with fail
                          refine (sameV_ok (.slice xo bl.length xc) (.slice co bl.length cc) ⟨bl, bf, bh, blg', bnx'⟩ _ hSB hSC).mono ?_
                          rintro e w11 ⟨rfl, hb11⟩
                          go_wp2
                          go_ret
                          exact ⟨rfl, hBF.trans (hb11.mono hBF.size)⟩
                      · refine ⟨_, (by simp only [List.getElem?_toArray, List.getElem?_cons_succ, List.getElem?_cons_zero]; rfl), by rfl, fun K hK => ?_⟩
                        go_simp
                        have hA3 := Ext.alloc u3 (.cells #[.slice none 0 0, .slice none 0 0, .int .u64 0, .int .u64 0, .int .i64 0, .int .i64 0] 28)
                        have hO3 := Blk.made u3 #[.slice none 0 0, .slice none 0 0, .int .u64 0, .int .u64 0, .int .i64 0, .int .i64 0] 28
                        have hX3 := Ext.trans hE.out hA3
                        have hp := hE.out.size
                        have hD3 := HT.out.below hA3
                        have hP3 := HD.out.below hA3
                        refine hK.out _ _ hX3 ?_
                        clear hK
                        generalize u3.alloc (.cells #[.slice none 0 0, .slice none 0 0, .int .u64 0, .int .u64 0, .int .i64 0, .int .i64 0] 28) = u4 at *
                        have hE := Lib.hid hX3
                        have HP := Lib.hid hO3
                        have HT := Lib.hid hD3
                        have HD := Lib.hid hP3
                        clear hD3
                        clear hP3
                        clear hA3 hO3 hX3
                        refine WalkN.one 6 (by kernel_rfl) ?_
                        refine ⟨_, (by simp only [List.getElem?_toArray, List.getElem?_cons_succ, List.getElem?_cons_zero]; rfl), by rfl, fun K hK => ?_⟩
                        refine wp_own tabsT (.tmp 74) (.tmp 76) rfl rfl HT.out rfl (HS2.out.same (Same.below hE.out)) (tcs_one _) (by rw [List.nil_append]; omega) (by rw [List.nil_append]; omega) hE.out.size (fun v4 u5 hown hb hg => ?_)
                        have hX4 : Ext wd u5 := Below.trans hE.out hb
                        have hD4 := HD.out.aside HT.out (by decide) hg
                        have hP4 := HP.out.aside HT.out (by decide) hg
                        refine hK.out _ _ hX4 ?_
                        clear hK
                        simp only [Act.put, List.setIfInBounds_toArray, List.set_cons_zero, List.set_cons_succ]
                        have hE := Lib.hid hX4
                        have HT := Lib.hid hown
                        have HD := Lib.hid hD4
                        have HP := Lib.hid hP4
                        clear hD4
                        clear hP4
                        clear hown hb hg hX4
                        refine WalkN.one 10 (by kernel_rfl) ?_
                        refine ⟨_, (by simp only [List.getElem?_toArray, List.getElem?_cons_succ, List.getElem?_cons_zero]; rfl), by rfl, fun K hK => ?_⟩
                        refine wp_own intsT (.tmp 78) (.tmp 80) rfl rfl HD.out rfl (HS3.out.same (Same.below hE.out)) (ic_one _) (by rw [List.length_nil]; omega) (by rw [List.length_nil]; omega) hE.out.size (fun v5 u6 hown hb hg => ?_)
                        have hX5 : Ext wd u6 := Below.trans hE.out hb
                        have hD5 := HT.out.aside HD.out (by decide) hg
                        have hP5 := HP.out.aside HD.out (by decide) hg
                        refine hK.out _ _ hX5 ?_
                        clear hK
                        simp only [Act.put, List.setIfInBounds_toArray, List.set_cons_zero, List.set_cons_succ]
                        have hE := Lib.hid hX5
                        have HD := Lib.hid hown
                        have HT := Lib.hid hD5
                        have HP := Lib.hid hP5
                        clear hP5
                        clear hown hb hg hX5 hD5
                        refine WalkN.one 13 (by kernel_rfl) ?_
                        refine ⟨_, (by simp only [List.getElem?_toArray, List.getElem?_cons_succ, List.getElem?_cons_zero]; rfl), by rfl, fun K hK => ?_⟩
                        refine wp_own intsT (.tmp 81) (.tmp 83) rfl rfl HD.out rfl (HS4.out.same (Same.below hE.out)) (ic_one _) (by rw [List.nil_append]; omega) (by rw [List.nil_append]; omega) hE.out.size (fun v6 u7 hown hb hg => ?_)
                        have hX6 : Ext wd u7 := Below.trans hE.out hb
                        have hD6 := HT.out.aside HD.out (by decide) hg
                        have hP6 := HP.out.aside HD.out (by decide) hg
                        refine hK.out _ _ hX6 ?_
                        clear hK
                        simp only [Act.put, List.setIfInBounds_toArray, List.set_cons_zero, List.set_cons_succ]
                        have hE := Lib.hid hX6
                        have HD := Lib.hid hown
                        have HT := Lib.hid hD6
                        have HP := Lib.hid hP6
                        clear hP6
                        clear hown hb hg hX6 hD6
                        obtain ⟨to, tn, tc, rfl, _, _⟩ := HT.out.sl.len
                        obtain ⟨yo, yn, yc, rfl, _, _⟩ := HD.out.sl.len
                        ((refine WalkN.take 34 _ ?_ (by simp only [List.getElem?_toArray, List.getElem?_cons_succ, List.getElem?_cons_zero]; rfl) (by kernel_rfl) (by kernel_rfl) (by rfl) (fun W hW => ?_) ?_; rotate_left; · (go_simp; try with_reducible rfl)); simp only [Act.put, List.setIfInBounds_toArray, List.set_cons_zero, List.set_cons_succ])
                        refine WalkN.one 36 (by kernel_rfl) ?_
                        have hPc := HP.out.cells
                        have hPf := HP.out.free
                        refine ⟨_, (by simp only [List.getElem?_toArray, List.getElem?_cons_succ, List.getElem?_cons_zero]; rfl), by rfl, fun K hK => ?_⟩
                        go_simp
                        have hX7 := below_set6 (b0 := .slice to tn tc) (b1 := .slice yo yn yc) (b2 := .int .u64 mf) (b3 := .int .u64 mh) (b4 := .int .i64 (max elg blg)) (b5 := .int .i64 (max enx bnx)) hE.out hp
                        have hT7 := own_set6 (b0 := .slice to tn tc) (b1 := .slice yo yn yc) (b2 := .int .u64 mf) (b3 := .int .u64 mh) (b4 := .int .i64 (max elg blg)) (b5 := .int .i64 (max enx bnx)) HT.out HP.out (by decide)
                        have hD7 := own_set6 (b0 := .slice to tn tc) (b1 := .slice yo yn yc) (b2 := .int .u64 mf) (b3 := .int .u64 mh) (b4 := .int .i64 (max elg blg)) (b5 := .int .i64 (max enx bnx)) HD.out HP.out (by decide)
                        have hP7 := blk_set6 (b0 := .slice to tn tc) (b1 := .slice yo yn yc) (b2 := .int .u64 mf) (b3 := .int .u64 mh) (b4 := .int .i64 (max elg blg)) (b5 := .int .i64 (max enx bnx)) HP.out
                        refine hK.out _ _ hX7 ?_
                        clear hK hPc hPf
                        generalize (((((u7.setCell ⟨_, 0, none⟩ (.slice to tn tc)).setCell ⟨_, 1, none⟩ (.slice yo yn yc)).setCell ⟨_, 2, none⟩ (.int .u64 mf)).setCell ⟨_, 3, none⟩ (.int .u64 mh)).setCell ⟨_, 4, none⟩ (.int .i64 (max elg blg))).setCell ⟨_, 5, none⟩ (.int .i64 (max enx bnx)) = u8 at *
                        clear HP HT HD hE
                        refine WalkN.done (by kernel_rfl) ?_
                        have hX8 : Ext wd u8 := hX7
                        rw [List.nil_append, ← tcs_append] at hT7
                        rw [List.nil_append, ← ic_append] at hD7
                        have hPc := hP7.cells
                        have hAc := (hAd.below hX8).cells
                        have hVc := (hVd.below hX8)
                        go_wp2_with fail
                        refine (HP3'.out _ _ _ (HTV.out.up hX8) (hT7.sl.mono fun b h => h.2) (hD7.sl.mono fun b h => h.2)).mono ?_
                        rintro e w9 ⟨cv, rfl, hS9, hb9⟩
                        obtain ⟨co, cc, rfl, _, _, _⟩ := hS9.tabs
                        unfold vV
                        dsimp only at *
                        have hE10 : Below w9.heap.size w9 (w9.alloc (.cells #[.slice co bl.length cc, .int .u64 bf, .int .u64 bh, .int .i64 blg', .int .i64 bnx'] 25)) := (Below.refl _ _).alloc (Nat.le_refl _) _
                        have hC10 := (Blk.made w9 #[.slice co bl.length cc, .int .u64 bf, .int .u64 bh, .int .i64 blg', .int .i64 bnx'] 25).cells
                        have hV10 := ((hVc.below hb9).below hE10).cells
                        have hSC := hS9.up hE10
                        have hSB := ((HSV.out.up hX8).up hb9).up hE10
                        have hBF : Below w.heap.size w (w9.alloc (.cells #[.slice co bl.length cc, .int .u64 bf, .int .u64 bh, .int .i64 blg', .int .i64 bnx'] 25)) := ((hBd.trans (Below.mono hX8 hBd.size)).trans (hb9.mono (Nat.le_trans hBd.size hX8.size))).trans (hE10.mono (Nat.le_trans (Nat.le_trans hBd.size hX8.size) hb9.size))
                        clear hPc hAc
                        go_wp2_with fail
                        refine (sameV_ok (.slice xo bl.length xc) (.slice co bl.length cc) ⟨bl, bf, bh, blg', bnx'⟩ _ hSB hSC).mono ?_
                        rintro e w11 ⟨rfl, hb11⟩
                        go_wp2
                        go_ret
                        exact ⟨rfl, hBF.trans (hb11.mono hBF.size)⟩
                    · refine ⟨_, (by simp only [List.getElem?_toArray, List.getElem?_cons_succ, List.getElem?_cons_zero]; rfl), by rfl, fun K hK => ?_⟩
                      go_simp
                      have hA2 := Ext.alloc u2 (.cells #[.slice none 0 0, .slice none 0 0, .int .u64 0, .int .u64 0, .int .i64 0, .int .i64 0] 28)
                      have hO2 := Blk.made u2 #[.slice none 0 0, .slice none 0 0, .int .u64 0, .int .u64 0, .int .i64 0, .int .i64 0] 28
                      have hX2 := Ext.trans hE.out hA2
                      have hp := hE.out.size
                      have hD2 := HT.out.below hA2
                      have hP2 := HD.out.below hA2
                      refine hK.out _ _ hX2 ?_
                      clear hK
                      generalize u2.alloc (.cells #[.slice none 0 0, .slice none 0 0, .int .u64 0, .int .u64 0, .int .i64 0, .int .i64 0] 28) = u3 at *
                      have hE := Lib.hid hX2
                      have HP := Lib.hid hO2
                      have HT := Lib.hid hD2
                      have HD := Lib.hid hP2
                      clear hD2
                      clear hP2
                      clear hA2 hO2 hX2
                      refine WalkN.one 3 (by kernel_rfl) ?_
                      refine ⟨_, (by simp only [List.getElem?_toArray, List.getElem?_cons_succ, List.getElem?_cons_zero]; rfl), by rfl, fun K hK => ?_⟩
                      refine wp_own tabsT (.tmp 71) (.tmp 73) rfl rfl HT.out rfl (HS1.out.same (Same.below hE.out)) (tcs_one _) (by rw [List.length_nil]; omega) (by rw [List.length_nil]; omega) hE.out.size (fun v3 u4 hown hb hg => ?_)
                      have hX3 : Ext wd u4 := Below.trans hE.out hb
                      have hD3 := HD.out.aside HT.out (by decide) hg
                      have hP3 := HP.out.aside HT.out (by decide) hg
                      refine hK.out _ _ hX3 ?_
                      clear hK
                      simp only [Act.put, List.setIfInBounds_toArray, List.set_cons_zero, List.set_cons_succ]
                      have hE := Lib.hid hX3
                      have HT := Lib.hid hown
                      have HD := Lib.hid hD3
                      have HP := Lib.hid hP3
                      clear hD3
                      clear hP3
                      clear hown hb hg hX3
                      refine WalkN.one 6 (by kernel_rfl) ?_
                      refine ⟨_, (by simp only [List.getElem?_toArray, List.getElem?_cons_succ, List.getElem?_cons_zero]; rfl), by rfl, fun K hK => ?_⟩
                      refine wp_own tabsT (.tmp 74) (.tmp 76) rfl rfl HT.out rfl (HS2.out.same (Same.below hE.out)) (tcs_one _) (by rw [List.nil_append]; omega) (by rw [List.nil_append]; omega) hE.out.size (fun v4 u5 hown hb hg => ?_)
                      have hX4 : Ext wd u5 := Below.trans hE.out hb
                      have hD4 := HD.out.aside HT.out (by decide) hg
                      have hP4 := HP.out.aside HT.out (by decide) hg
                      refine hK.out _ _ hX4 ?_
                      clear hK
                      simp only [Act.put, List.setIfInBounds_toArray, List.set_cons_zero, List.set_cons_succ]
                      have hE := Lib.hid hX4
                      have HT := Lib.hid hown
                      have HD := Lib.hid hD4
                      have HP := Lib.hid hP4
                      clear hD4
                      clear hP4
                      clear hown hb hg hX4
                      refine WalkN.one 10 (by kernel_rfl) ?_
                      refine ⟨_, (by simp only [List.getElem?_toArray, List.getElem?_cons_succ, List.getElem?_cons_zero]; rfl), by rfl, fun K hK => ?_⟩
                      refine wp_own intsT (.tmp 78) (.tmp 80) rfl rfl HD.out rfl (HS3.out.same (Same.below hE.out)) (ic_one _) (by rw [List.length_nil]; omega) (by rw [List.length_nil]; omega) hE.out.size (fun v5 u6 hown hb hg => ?_)
                      have hX5 : Ext wd u6 := Below.trans hE.out hb
                      have hD5 := HT.out.aside HD.out (by decide) hg
                      have hP5 := HP.out.aside HD.out (by decide) hg
                      refine hK.out _ _ hX5 ?_
                      clear hK
                      simp only [Act.put, List.setIfInBounds_toArray, List.set_cons_zero, List.set_cons_succ]
                      have hE := Lib.hid hX5
                      have HD := Lib.hid hown
                      have HT := Lib.hid hD5
                      have HP := Lib.hid hP5
                      clear hP5
                      clear hown hb hg hX5 hD5
                      refine WalkN.one 13 (by kernel_rfl) ?_
                      refine ⟨_, (by simp only [List.getElem?_toArray, List.getElem?_cons_succ, List.getElem?_cons_zero]; rfl), by rfl, fun K hK => ?_⟩
                      refine wp_own intsT (.tmp 81) (.tmp 83) rfl rfl HD.out rfl (HS4.out.same (Same.below hE.out)) (ic_one _) (by rw [List.nil_append]; omega) (by rw [List.nil_append]; omega) hE.out.size (fun v6 u7 hown hb hg => ?_)
                      have hX6 : Ext wd u7 := Below.trans hE.out hb
                      have hD6 := HT.out.aside HD.out (by decide) hg
                      have hP6 := HP.out.aside HD.out (by decide) hg
                      refine hK.out _ _ hX6 ?_
                      clear hK
                      simp only [Act.put, List.setIfInBounds_toArray, List.set_cons_zero, List.set_cons_succ]
                      have hE := Lib.hid hX6
                      have HD := Lib.hid hown
                      have HT := Lib.hid hD6
                      have HP := Lib.hid hP6
                      clear hP6
                      clear hown hb hg hX6 hD6
                      obtain ⟨to, tn, tc, rfl, _, _⟩ := HT.out.sl.len
                      obtain ⟨yo, yn, yc, rfl, _, _⟩ := HD.out.sl.len
                      ((refine WalkN.take 34 _ ?_ (by simp only [List.getElem?_toArray, List.getElem?_cons_succ, List.getElem?_cons_zero]; rfl) (by kernel_rfl) (by kernel_rfl) (by rfl) (fun W hW => ?_) ?_; rotate_left; · (go_simp; try with_reducible rfl)); simp only [Act.put, List.setIfInBounds_toArray, List.set_cons_zero, List.set_cons_succ])
                      refine WalkN.one 36 (by kernel_rfl) ?_
                      have hPc := HP.out.cells
                      have hPf := HP.out.free
                      refine ⟨_, (by simp only [List.getElem?_toArray, List.getElem?_cons_succ, List.getElem?_cons_zero]; rfl), by rfl, fun K hK => ?_⟩
                      go_simp
                      have hX7 := below_set6 (b0 := .slice to tn tc) (b1 := .slice yo yn yc) (b2 := .int .u64 mf) (b3 := .int .u64 mh) (b4 := .int .i64 (max elg blg)) (b5 := .int .i64 (max enx bnx)) hE.out hp
                      have hT7 := own_set6 (b0 := .slice to tn tc) (b1 := .slice yo yn yc) (b2 := .int .u64 mf) (b3 := .int .u64 mh) (b4 := .int .i64 (max elg blg)) (b5 := .int .i64 (max enx bnx)) HT.out HP.out (by decide)
                      have hD7 := own_set6 (b0 := .slice to tn tc) (b1 := .slice yo yn yc) (b2 := .int .u64 mf) (b3 := .int .u64 mh) (b4 := .int .i64 (max elg blg)) (b5 := .int .i64 (max enx bnx)) HD.out HP.out (by decide)
                      have hP7 := blk_set6 (b0 := .slice to tn tc) (b1 := .slice yo yn yc) (b2 := .int .u64 mf) (b3 := .int .u64 mh) (b4 := .int .i64 (max elg blg)) (b5 := .int .i64 (max enx bnx)) HP.out
                      refine hK.out _ _ hX7 ?_
                      clear hK hPc hPf
                      generalize (((((u7.setCell ⟨_, 0, none⟩ (.slice to tn tc)).setCell ⟨_, 1, none⟩ (.slice yo yn yc)).setCell ⟨_, 2, none⟩ (.int .u64 mf)).setCell ⟨_, 3, none⟩ (.int .u64 mh)).setCell ⟨_, 4, none⟩ (.int .i64 (max elg blg))).setCell ⟨_, 5, none⟩ (.int .i64 (max enx bnx)) = u8 at *
                      clear HP HT HD hE
                      refine WalkN.done (by kernel_rfl) ?_
                      have hX8 : Ext wd u8 := hX7
                      rw [List.nil_append, ← tcs_append] at hT7
                      rw [List.nil_append, ← ic_append] at hD7
                      have hPc := hP7.cells
                      have hAc := (hAd.below hX8).cells
                      have hVc := (hVd.below hX8)
                      go_wp2_with fail
                      refine (HP3'.out _ _ _ (HTV.out.up hX8) (hT7.sl.mono fun b h => h.2) (hD7.sl.mono fun b h => h.2)).mono ?_
                      rintro e w9 ⟨cv, rfl, hS9, hb9⟩
                      obtain ⟨co, cc, rfl, _, _, _⟩ := hS9.tabs
                      unfold vV
                      dsimp only at *
                      have hE10 : Below w9.heap.size w9 (w9.alloc (.cells #[.slice co bl.length cc, .int .u64 bf, .int .u64 bh, .int .i64 blg', .int .i64 bnx'] 25)) := (Below.refl _ _).alloc (Nat.le_refl _) _
                      have hC10 := (Blk.made w9 #[.slice co bl.length cc, .int .u64 bf, .int .u64 bh, .int .i64 blg', .int .i64 bnx'] 25).cells
                      have hV10 := ((hVc.below hb9).below hE10).cells
                      have hSC := hS9.up hE10
                      have hSB := ((HSV.out.up hX8).up hb9).up hE10
                      have hBF : Below w.heap.size w (w9.alloc (.cells #[.slice co bl.length cc, .int .u64 bf, .int .u64 bh, .int .i64 blg', .int .i64 bnx'] 25)) := ((hBd.trans (Below.mono hX8 hBd.size)).trans (hb9.mono (Nat.le_trans hBd.size hX8.size))).trans (hE10.mono (Nat.le_trans (Nat.le_trans hBd.size hX8.size) hb9.size))
                      clear hPc hAc
                      go_wp2_with fail
                      refine (sameV_ok (.slice xo bl.length xc) (.slice co bl.length cc) ⟨bl, bf, bh, blg', bnx'⟩ _ hSB hSC).mono ?_
                      rintro e w11 ⟨rfl, hb11⟩
                      go_wp2
                      go_ret
                      exact ⟨rfl, hBF.trans (hb11.mono hBF.size)⟩
                  · refine ⟨_, (by simp only [List.getElem?_toArray, List.getElem?_cons_succ, List.getElem?_cons_zero]; rfl), by rfl, fun K hK => ?_⟩
                    go_simp
                    have hA1 := Ext.alloc u1 (.cells #[.slice none 0 0, .slice none 0 0, .int .u64 0, .int .u64 0, .int .i64 0, .int .i64 0] 28)
                    have hO1 := Blk.made u1 #[.slice none 0 0, .slice none 0 0, .int .u64 0, .int .u64 0, .int .i64 0, .int .i64 0] 28
                    have hX1 := Ext.trans hE.out hA1
                    have hp := hE.out.size
                    have hD1 := HT.out.below hA1
                    refine hK.out _ _ hX1 ?_
                    clear hK
                    generalize u1.alloc (.cells #[.slice none 0 0, .slice none 0 0, .int .u64 0, .int .u64 0, .int .i64 0, .int .i64 0] 28) = u2 at *
                    have hE := Lib.hid hX1
                    have HP := Lib.hid hO1
                    have HT := Lib.hid hD1
                    clear hD1
                    clear hA1 hO1 hX1
                    refine WalkN.two 3 7 (by kernel_rfl) ?_ ?_
                    · refine ⟨_, (by simp only [List.getElem?_toArray, List.getElem?_cons_succ, List.getElem?_cons_zero]; rfl), by rfl, fun K hK => ?_⟩
                      refine wp_own tabsT (.tmp 71) (.tmp 73) rfl rfl HT.out rfl (HS1.out.same (Same.below hE.out)) (tcs_one _) (by rw [List.length_nil]; omega) (by rw [List.length_nil]; omega) hE.out.size (fun v2 u3 hown hb hg => ?_)
                      have hX2 : Ext wd u3 := Below.trans hE.out hb
                      have hP2 := HP.out.aside HT.out (by decide) hg
                      refine hK.out _ _ hX2 ?_
                      clear hK
                      simp only [Act.put, List.setIfInBounds_toArray, List.set_cons_zero, List.set_cons_succ]
                      have hE := Lib.hid hX2
                      have HT := Lib.hid hown
                      have HP := Lib.hid hP2
                      clear hP2
                      clear hown hb hg hX2
                      refine WalkN.two 6 7 (by kernel_rfl) ?_ ?_
                      · refine ⟨_, (by simp only [List.getElem?_toArray, List.getElem?_cons_succ, List.getElem?_cons_zero]; rfl), by rfl, fun K hK => ?_⟩
                        refine wp_own tabsT (.tmp 74) (.tmp 76) rfl rfl HT.out rfl (HS2.out.same (Same.below hE.out)) (tcs_one _) (by rw [List.nil_append]; omega) (by rw [List.nil_append]; omega) hE.out.size (fun v3 u4 hown hb hg => ?_)
                        have hX3 : Ext wd u4 := Below.trans hE.out hb
                        have hP3 := HP.out.aside HT.out (by decide) hg
                        refine hK.out _ _ hX3 ?_
                        clear hK
                        simp only [Act.put, List.setIfInBounds_toArray, List.set_cons_zero, List.set_cons_succ]
                        have hE := Lib.hid hX3
                        have HT := Lib.hid hown
                        have HP := Lib.hid hP3
                        clear hP3
                        clear hown hb hg hX3
                        refine WalkN.one 7 (by kernel_rfl) ?_
                        refine ⟨_, (by simp only [List.getElem?_toArray, List.getElem?_cons_succ, List.getElem?_cons_zero]; rfl), by rfl, fun K hK => ?_⟩
                        go_simp
                        have hA4 := Ext.alloc u4 (.cells #[] 3)
                        have hO4 := Own.made u4 (B := wd.heap.size) hE.out.size 3 1
                        have hX4 := Ext.trans hE.out hA4
                        have hD4 := HT.out.below hA4
                        have hP4 := HP.out.below hA4
                        refine hK.out _ _ hX4 ?_
                        clear hK
                        generalize u4.alloc (.cells #[] 3) = u5 at *
                        have hE := Lib.hid hX4
                        have HD := Lib.hid hO4
                        have HT := Lib.hid hD4
                        have HP := Lib.hid hP4
                        clear hD4
                        clear hP4
                        clear hA4 hO4 hX4
                        refine WalkN.one 10 (by kernel_rfl) ?_
                        refine ⟨_, (by simp only [List.getElem?_toArray, List.getElem?_cons_succ, List.getElem?_cons_zero]; rfl), by rfl, fun K hK => ?_⟩
                        refine wp_own intsT (.tmp 78) (.tmp 80) rfl rfl HD.out rfl (HS3.out.same (Same.below hE.out)) (ic_one _) (by rw [List.length_nil]; omega) (by rw [List.length_nil]; omega) hE.out.size (fun v5 u6 hown hb hg => ?_)
                        have hX5 : Ext wd u6 := Below.trans hE.out hb
                        have hD5 := HT.out.aside HD.out (by decide) hg
                        have hP5 := HP.out.aside HD.out (by decide) hg
                        refine hK.out _ _ hX5 ?_
                        clear hK
                        simp only [Act.put, List.setIfInBounds_toArray, List.set_cons_zero, List.set_cons_succ]
                        have hE := Lib.hid hX5
                        have HD := Lib.hid hown
                        have HT := Lib.hid hD5
                        have HP := Lib.hid hP5
                        clear hP5
                        clear hown hb hg hX5 hD5
                        refine WalkN.one 13 (by kernel_rfl) ?_
                        refine ⟨_, (by simp only [List.getElem?_toArray, List.getElem?_cons_succ, List.getElem?_cons_zero]; rfl), by rfl, fun K hK => ?_⟩
                        refine wp_own intsT (.tmp 81) (.tmp 83) rfl rfl HD.out rfl (HS4.out.same (Same.below hE.out)) (ic_one _) (by rw [List.nil_append]; omega) (by rw [List.nil_append]; omega) hE.out.size (fun v6 u7 hown hb hg => ?_)
                        have hX6 : Ext wd u7 := Below.trans hE.out hb
                        have hD6 := HT.out.aside HD.out (by decide) hg
                        have hP6 := HP.out.aside HD.out (by decide) hg
                        refine hK.out _ _ hX6 ?_
                        clear hK
                        simp only [Act.put, List.setIfInBounds_toArray, List.set_cons_zero, List.set_cons_succ]
                        have hE := Lib.hid hX6
                        have HD := Lib.hid hown
                        have HT := Lib.hid hD6
                        have HP := Lib.hid hP6
                        clear hP6
                        clear hown hb hg hX6 hD6
                        obtain ⟨to, tn, tc, rfl, _, _⟩ := HT.out.sl.len
                        obtain ⟨yo, yn, yc, rfl, _, _⟩ := HD.out.sl.len
                        ((refine WalkN.take 34 _ ?_ (by simp only [List.getElem?_toArray, List.getElem?_cons_succ, List.getElem?_cons_zero]; rfl) (by kernel_rfl) (by kernel_rfl) (by rfl) (fun W hW => ?_) ?_; rotate_left; · (go_simp; try with_reducible rfl)); simp only [Act.put, List.setIfInBounds_toArray, List.set_cons_zero, List.set_cons_succ])
                        refine WalkN.one 36 (by kernel_rfl) ?_
                        have hPc := HP.out.cells
                        have hPf := HP.out.free
                        refine ⟨_, (by simp only [List.getElem?_toArray, List.getElem?_cons_succ, List.getElem?_cons_zero]; rfl), by rfl, fun K hK => ?_⟩
                        go_simp
                        have hX7 := below_set6 (b0 := .slice to tn tc) (b1 := .slice yo yn yc) (b2 := .int .u64 mf) (b3 := .int .u64 mh) (b4 := .int .i64 (max elg blg)) (b5 := .int .i64 (max enx bnx)) hE.out hp
                        have hT7 := own_set6 (b0 := .slice to tn tc) (b1 := .slice yo yn yc) (b2 := .int .u64 mf) (b3 := .int .u64 mh) (b4 := .int .i64 (max elg blg)) (b5 := .int .i64 (max enx bnx)) HT.out HP.out (by decide)
                        have hD7 := own_set6 (b0 := .slice to tn tc) (b1 := .slice yo yn yc) (b2 := .int .u64 mf) (b3 := .int .u64 mh) (b4 := .int .i64 (max elg blg)) (b5 := .int .i64 (max enx bnx)) HD.out HP.out (by decide)
                        have hP7 := blk_set6 (b0 := .slice to tn tc) (b1 := .slice yo yn yc) (b2 := .int .u64 mf) (b3 := .int .u64 mh) (b4 := .int .i64 (max elg blg)) (b5 := .int .i64 (max enx bnx)) HP.out
                        refine hK.out _ _ hX7 ?_
                        clear hK hPc hPf
                        generalize (((((u7.setCell ⟨_, 0, none⟩ (.slice to tn tc)).setCell ⟨_, 1, none⟩ (.slice yo yn yc)).setCell ⟨_, 2, none⟩ (.int .u64 mf)).setCell ⟨_, 3, none⟩ (.int .u64 mh)).setCell ⟨_, 4, none⟩ (.int .i64 (max elg blg))).setCell ⟨_, 5, none⟩ (.int .i64 (max enx bnx)) = u8 at *
                        clear HP HT HD hE
                        refine WalkN.done (by kernel_rfl) ?_
                        have hX8 : Ext wd u8 := hX7
                        rw [List.nil_append, ← tcs_append] at hT7
                        rw [List.nil_append, ← ic_append] at hD7
                        have hPc := hP7.cells
                        have hAc := (hAd.below hX8).cells
                        have hVc := (hVd.below hX8)
                        go_wp2_with fail
                        refine (HP3'.out _ _ _ (HTV.out.up hX8) (hT7.sl.mono fun b h => h.2) (hD7.sl.mono fun b h => h.2)).mono ?_
                        rintro e w9 ⟨cv, rfl, hS9, hb9⟩
                        obtain ⟨co, cc, rfl, _, _, _⟩ := hS9.tabs
                        unfold vV
                        dsimp only at *
                        have hE10 : Below w9.heap.size w9 (w9.alloc (.cells #[.slice co bl.length cc, .int .u64 bf, .int .u64 bh, .int .i64 blg', .int .i64 bnx'] 25)) := (Below.refl _ _).alloc (Nat.le_refl _) _
                        have hC10 := (Blk.made w9 #[.slice co bl.length cc, .int .u64 bf, .int .u64 bh, .int .i64 blg', .int .i64 bnx'] 25).cells
                        have hV10 := ((hVc.below hb9).below hE10).cells
                        have hSC := hS9.up hE10
                        have hSB := ((HSV.out.up hX8).up hb9).up hE10
                        have hBF : Below w.heap.size w (w9.alloc (.cells #[.slice co bl.length cc, .int .u64 bf, .int .u64 bh, .int .i64 blg', .int .i64 bnx'] 25)) := ((hBd.trans (Below.mono hX8 hBd.size)).trans (hb9.mono (Nat.le_trans hBd.size hX8.size))).trans (hE10.mono (Nat.le_trans (Nat.le_trans hBd.size hX8.size) hb9.size))
                        clear hPc hAc
                        go_wp2_with fail
                        refine (sameV_ok (.slice xo bl.length xc) (.slice co bl.length cc) ⟨bl, bf, bh, blg', bnx'⟩ _ hSB hSC).mono ?_
                        rintro e w11 ⟨rfl, hb11⟩
                        go_wp2
                        go_ret
                        exact ⟨rfl, hBF.trans (hb11.mono hBF.size)⟩
                      · refine ⟨_, (by simp only [List.getElem?_toArray, List.getElem?_cons_succ, List.getElem?_cons_zero]; rfl), by rfl, fun K hK => ?_⟩
                        go_simp
                        have hA3 := Ext.alloc u3 (.cells #[] 3)
                        have hO3 := Own.made u3 (B := wd.heap.size) hE.out.size 3 1
                        have hX3 := Ext.trans hE.out hA3
                        have hD3 := HT.out.below hA3
                        have hP3 := HP.out.below hA3
                        refine hK.out _ _ hX3 ?_
                        clear hK
                        generalize u3.alloc (.cells #[] 3) = u4 at *
                        have hE := Lib.hid hX3
                        have HD := Lib.hid hO3
                        have HT := Lib.hid hD3
                        have HP := Lib.hid hP3
                        clear hD3
                        clear hP3
                        clear hA3 hO3 hX3
                        refine WalkN.one 6 (by kernel_rfl) ?_
                        refine ⟨_, (by simp only [List.getElem?_toArray, List.getElem?_cons_succ, List.getElem?_cons_zero]; rfl), by rfl, fun K hK => ?_⟩
                        refine wp_own tabsT (.tmp 74) (.tmp 76) rfl rfl HT.out rfl (HS2.out.same (Same.below hE.out)) (tcs_one _) (by rw [List.nil_append]; omega) (by rw [List.nil_append]; omega) hE.out.size (fun v4 u5 hown hb hg => ?_)
                        have hX4 : Ext wd u5 := Below.trans hE.out hb
                        have hD4 := HD.out.aside HT.out (by decide) hg
                        have hP4 := HP.out.aside HT.out (by decide) hg
                        refine hK.out _ _ hX4 ?_
                        clear hK
                        simp only [Act.put, List.setIfInBounds_toArray, List.set_cons_zero, List.set_cons_succ]
                        have hE := Lib.hid hX4
                        have HT := Lib.hid hown
                        have HD := Lib.hid hD4
                        have HP := Lib.hid hP4
                        clear hD4
                        clear hP4
                        clear hown hb hg hX4
                        refine WalkN.one 10 (by kernel_rfl) ?_
                        refine ⟨_, (by simp only [List.getElem?_toArray, List.getElem?_cons_succ, List.getElem?_cons_zero]; rfl), by rfl, fun K hK => ?_⟩
                        refine wp_own intsT (.tmp 78) (.tmp 80) rfl rfl HD.out rfl (HS3.out.same (Same.below hE.out)) (ic_one _) (by rw [List.length_nil]; omega) (by rw [List.length_nil]; omega) hE.out.size (fun v5 u6 hown hb hg => ?_)
                        have hX5 : Ext wd u6 := Below.trans hE.out hb
                        have hD5 := HT.out.aside HD.out (by decide) hg
                        have hP5 := HP.out.aside HD.out (by decide) hg
                        refine hK.out _ _ hX5 ?_
                        clear hK
                        simp only [Act.put, List.setIfInBounds_toArray, List.set_cons_zero, List.set_cons_succ]
                        have hE := Lib.hid hX5
                        have HD := Lib.hid hown
                        have HT := Lib.hid hD5
                        have HP := Lib.hid hP5
                        clear hP5
                        clear hown hb hg hX5 hD5
                        refine WalkN.one 13 (by kernel_rfl) ?_
                        refine ⟨_, (by simp only [List.getElem?_toArray, List.getElem?_cons_succ, List.getElem?_cons_zero]; rfl), by rfl, fun K hK => ?_⟩
                        refine wp_own intsT (.tmp 81) (.tmp 83) rfl rfl HD.out rfl (HS4.out.same (Same.below hE.out)) (ic_one _) (by rw [List.nil_append]; omega) (by rw [List.nil_append]; omega) hE.out.size (fun v6 u7 hown hb hg => ?_)
                        have hX6 : Ext wd u7 := Below.trans hE.out hb
                        have hD6 := HT.out.aside HD.out (by decide) hg
                        have hP6 := HP.out.aside HD.out (by decide) hg
                        refine hK.out _ _ hX6 ?_
                        clear hK
                        simp only [Act.put, List.setIfInBounds_toArray, List.set_cons_zero, List.set_cons_succ]
                        have hE := Lib.hid hX6
                        have HD := Lib.hid hown
                        have HT := Lib.hid hD6
                        have HP := Lib.hid hP6
                        clear hP6
                        clear hown hb hg hX6 hD6
                        obtain ⟨to, tn, tc, rfl, _, _⟩ := HT.out.sl.len
                        obtain ⟨yo, yn, yc, rfl, _, _⟩ := HD.out.sl.len
                        ((refine WalkN.take 34 _ ?_ (by simp only [List.getElem?_toArray, List.getElem?_cons_succ, List.getElem?_cons_zero]; rfl) (by kernel_rfl) (by kernel_rfl) (by rfl) (fun W hW => ?_) ?_; rotate_left; · (go_simp; try with_reducible rfl)); simp only [Act.put, List.setIfInBounds_toArray, List.set_cons_zero, List.set_cons_succ])
                        refine WalkN.one 36 (by kernel_rfl) ?_
                        have hPc := HP.out.cells
                        have hPf := HP.out.free
                        refine ⟨_, (by simp only [List.getElem?_toArray, List.getElem?_cons_succ, List.getElem?_cons_zero]; rfl), by rfl, fun K hK => ?_⟩
                        go_simp
                        have hX7 := below_set6 (b0 := .slice to tn tc) (b1 := .slice yo yn yc) (b2 := .int .u64 mf) (b3 := .int .u64 mh) (b4 := .int .i64 (max elg blg)) (b5 := .int .i64 (max enx bnx)) hE.out hp
                        have hT7 := own_set6 (b0 := .slice to tn tc) (b1 := .slice yo yn yc) (b2 := .int .u64 mf) (b3 := .int .u64 mh) (b4 := .int .i64 (max elg blg)) (b5 := .int .i64 (max enx bnx)) HT.out HP.out (by decide)
                        have hD7 := own_set6 (b0 := .slice to tn tc) (b1 := .slice yo yn yc) (b2 := .int .u64 mf) (b3 := .int .u64 mh) (b4 := .int .i64 (max elg blg)) (b5 := .int .i64 (max enx bnx)) HD.out HP.out (by decide)
                        have hP7 := blk_set6 (b0 := .slice to tn tc) (b1 := .slice yo yn yc) (b2 := .int .u64 mf) (b3 := .int .u64 mh) (b4 := .int .i64 (max elg blg)) (b5 := .int .i64 (max enx bnx)) HP.out
                        refine hK.out _ _ hX7 ?_
                        clear hK hPc hPf
                        generalize (((((u7.setCell ⟨_, 0, none⟩ (.slice to tn tc)).setCell ⟨_, 1, none⟩ (.slice yo yn yc)).setCell ⟨_, 2, none⟩ (.int .u64 mf)).setCell ⟨_, 3, none⟩ (.int .u64 mh)).setCell ⟨_, 4, none⟩ (.int .i64 (max elg blg))).setCell ⟨_, 5, none⟩ (.int .i64 (max enx bnx)) = u8 at *
                        clear HP HT HD hE
                        refine WalkN.done (by kernel_rfl) ?_
                        have hX8 : Ext wd u8 := hX7
                        rw [List.nil_append, ← tcs_append] at hT7
                        rw [List.nil_append, ← ic_append] at hD7
                        have hPc := hP7.cells
                        have hAc := (hAd.below hX8).cells
                        have hVc := (hVd.below hX8)
                        go_wp2_with fail
                        refine (HP3'.out _ _ _ (HTV.out.up hX8) (hT7.sl.mono fun b h => h.2) (hD7.sl.mono fun b h => h.2)).mono ?_
                        rintro e w9 ⟨cv, rfl, hS9, hb9⟩
                        obtain ⟨co, cc, rfl, _, _, _⟩ := hS9.tabs
                        unfold vV
                        dsimp only at *
                        have hE10 : Below w9.heap.size w9 (w9.alloc (.cells #[.slice co bl.length cc, .int .u64 bf, .int .u64 bh, .int .i64 blg', .int .i64 bnx'] 25)) := (Below.refl _ _).alloc (Nat.le_refl _) _
                        have hC10 := (Blk.made w9 #[.slice co bl.length cc, .int .u64 bf, .int .u64 bh, .int .i64 blg', .int .i64 bnx'] 25).cells
                        have hV10 := ((hVc.below hb9).below hE10).cells
                        have hSC := hS9.up hE10
                        have hSB := ((HSV.out.up hX8).up hb9).up hE10
                        have hBF : Below w.heap.size w (w9.alloc (.cells #[.slice co bl.length cc, .int .u64 bf, .int .u64 bh, .int .i64 blg', .int .i64 bnx'] 25)) := ((hBd.trans (Below.mono hX8 hBd.size)).trans (hb9.mono (Nat.le_trans hBd.size hX8.size))).trans (hE10.mono (Nat.le_trans (Nat.le_trans hBd.size hX8.size) hb9.size))
                        clear hPc hAc
                        go_wp2_with fail
                        refine (sameV_ok (.slice xo bl.length xc) (.slice co bl.length cc) ⟨bl, bf, bh, blg', bnx'⟩ _ hSB hSC).mono ?_
                        rintro e w11 ⟨rfl, hb11⟩
                        go_wp2
                        go_ret
                        exact ⟨rfl, hBF.trans (hb11.mono hBF.size)⟩
                    · refine ⟨_, (by simp only [List.getElem?_toArray, List.getElem?_cons_succ, List.getElem?_cons_zero]; rfl), by rfl, fun K hK => ?_⟩
                      go_simp
                      have hA2 := Ext.alloc u2 (.cells #[] 3)
                      have hO2 := Own.made u2 (B := wd.heap.size) hE.out.size 3 1
                      have hX2 := Ext.trans hE.out hA2
                      have hD2 := HT.out.below hA2
                      have hP2 := HP.out.below hA2
                      refine hK.out _ _ hX2 ?_
                      clear hK
                      generalize u2.alloc (.cells #[] 3) = u3 at *
                      have hE := Lib.hid hX2
                      have HD := Lib.hid hO2
                      have HT := Lib.hid hD2
                      have HP := Lib.hid hP2
                      clear hD2
                      clear hP2
                      clear hA2 hO2 hX2
                      refine WalkN.one 3 (by kernel_rfl) ?_
                      refine ⟨_, (by simp only [List.getElem?_toArray, List.getElem?_cons_succ, List.getElem?_cons_zero]; rfl), by rfl, fun K hK => ?_⟩
                      refine wp_own tabsT (.tmp 71) (.tmp 73) rfl rfl HT.out rfl (HS1.out.same (Same.below hE.out)) (tcs_one _) (by rw [List.length_nil]; omega) (by rw [List.length_nil]; omega) hE.out.size (fun v3 u4 hown hb hg => ?_)
                      have hX3 : Ext wd u4 := Below.trans hE.out hb
                      have hD3 := HD.out.aside HT.out (by decide) hg
                      have hP3 := HP.out.aside HT.out (by decide) hg
                      refine hK.out _ _ hX3 ?_
                      clear hK
                      simp only [Act.put, List.setIfInBounds_toArray, List.set_cons_zero, List.set_cons_succ]
                      have hE := Lib.hid hX3
                      have HT := Lib.hid hown
                      have HD := Lib.hid hD3
                      have HP := Lib.hid hP3
                      clear hD3
                      clear hP3
                      clear hown hb hg hX3
                      refine WalkN.one 6 (by kernel_rfl) ?_
                      refine ⟨_, (by simp only [List.getElem?_toArray, List.getElem?_cons_succ, List.getElem?_cons_zero]; rfl), by rfl, fun K hK => ?_⟩
                      refine wp_own tabsT (.tmp 74) (.tmp 76) rfl rfl HT.out rfl (HS2.out.same (Same.below hE.out)) (tcs_one _) (by rw [List.nil_append]; omega) (by rw [List.nil_append]; omega) hE.out.size (fun v4 u5 hown hb hg => ?_)
                      have hX4 : Ext wd u5 := Below.trans hE.out hb
                      have hD4 := HD.out.aside HT.out (by decide) hg
                      have hP4 := HP.out.aside HT.out (by decide) hg
                      refine hK.out _ _ hX4 ?_
                      clear hK
                      simp only [Act.put, List.setIfInBounds_toArray, List.set_cons_zero, List.set_cons_succ]
                      have hE := Lib.hid hX4
                      have HT := Lib.hid hown
                      have HD := Lib.hid hD4
                      have HP := Lib.hid hP4
                      clear hD4
                      clear hP4
                      clear hown hb hg hX4
                      refine WalkN.one 10 (by kernel_rfl) ?_
                      refine ⟨_, (by simp only [List.getElem?_toArray, List.getElem?_cons_succ, List.getElem?_cons_zero]; rfl), by rfl, fun K hK => ?_⟩
                      refine wp_own intsT (.tmp 78) (.tmp 80) rfl rfl HD.out rfl (HS3.out.same (Same.below hE.out)) (ic_one _) (by rw [List.length_nil]; omega) (by rw [List.length_nil]; omega) hE.out.size (fun v5 u6 hown hb hg => ?_)
                      have hX5 : Ext wd u6 := Below.trans hE.out hb
                      have hD5 := HT.out.aside HD.out (by decide) hg
                      have hP5 := HP.out.aside HD.out (by decide) hg
                      refine hK.out _ _ hX5 ?_
                      clear hK
                      simp only [Act.put, List.setIfInBounds_toArray, List.set_cons_zero, List.set_cons_succ]
                      have hE := Lib.hid hX5
                      have HD := Lib.hid hown
                      have HT := Lib.hid hD5
                      have HP := Lib.hid hP5
                      clear hP5
                      clear hown hb hg hX5 hD5
                      refine WalkN.one 13 (by kernel_rfl) ?_
                      refine ⟨_, (by simp only [List.getElem?_toArray, List.getElem?_cons_succ, List.getElem?_cons_zero]; rfl), by rfl, fun K hK => ?_⟩
                      refine wp_own intsT (.tmp 81) (.tmp 83) rfl rfl HD.out rfl (HS4.out.same (Same.below hE.out)) (ic_one _) (by rw [List.nil_append]; omega) (by rw [List.nil_append]; omega) hE.out.size (fun v6 u7 hown hb hg => ?_)
                      have hX6 : Ext wd u7 := Below.trans hE.out hb
                      have hD6 := HT.out.aside HD.out (by decide) hg
                      have hP6 := HP.out.aside HD.out (by decide) hg
                      refine hK.out _ _ hX6 ?_
                      clear hK
                      simp only [Act.put, List.setIfInBounds_toArray, List.set_cons_zero, List.set_cons_succ]
                      have hE := Lib.hid hX6
                      have HD := Lib.hid hown
                      have HT := Lib.hid hD6
                      have HP := Lib.hid hP6
                      clear hP6
                      clear hown hb hg hX6 hD6
                      obtain ⟨to, tn, tc, rfl, _, _⟩ := HT.out.sl.len
                      obtain ⟨yo, yn, yc, rfl, _, _⟩ := HD.out.sl.len
                      ((refine WalkN.take 34 _ ?_ (by simp only [List.getElem?_toArray, List.getElem?_cons_succ, List.getElem?_cons_zero]; rfl) (by kernel_rfl) (by kernel_rfl) (by rfl) (fun W hW => ?_) ?_; rotate_left; · (go_simp; try with_reducible rfl)); simp only [Act.put, List.setIfInBounds_toArray, List.set_cons_zero, List.set_cons_succ])
                      refine WalkN.one 36 (by kernel_rfl) ?_
                      have hPc := HP.out.cells
                      have hPf := HP.out.free
                      refine ⟨_, (by simp only [List.getElem?_toArray, List.getElem?_cons_succ, List.getElem?_cons_zero]; rfl), by rfl, fun K hK => ?_⟩
                      go_simp
                      have hX7 := below_set6 (b0 := .slice to tn tc) (b1 := .slice yo yn yc) (b2 := .int .u64 mf) (b3 := .int .u64 mh) (b4 := .int .i64 (max elg blg)) (b5 := .int .i64 (max enx bnx)) hE.out hp
                      have hT7 := own_set6 (b0 := .slice to tn tc) (b1 := .slice yo yn yc) (b2 := .int .u64 mf) (b3 := .int .u64 mh) (b4 := .int .i64 (max elg blg)) (b5 := .int .i64 (max enx bnx)) HT.out HP.out (by decide)
                      have hD7 := own_set6 (b0 := .slice to tn tc) (b1 := .slice yo yn yc) (b2 := .int .u64 mf) (b3 := .int .u64 mh) (b4 := .int .i64 (max elg blg)) (b5 := .int .i64 (max enx bnx)) HD.out HP.out (by decide)
                      have hP7 := blk_set6 (b0 := .slice to tn tc) (b1 := .slice yo yn yc) (b2 := .int .u64 mf) (b3 := .int .u64 mh) (b4 := .int .i64 (max elg blg)) (b5 := .int .i64 (max enx bnx)) HP.out
                      refine hK.out _ _ hX7 ?_
                      clear hK hPc hPf
                      generalize (((((u7.setCell ⟨_, 0, none⟩ (.slice to tn tc)).setCell ⟨_, 1, none⟩ (.slice yo yn yc)).setCell ⟨_, 2, none⟩ (.int .u64 mf)).setCell ⟨_, 3, none⟩ (.int .u64 mh)).setCell ⟨_, 4, none⟩ (.int .i64 (max elg blg))).setCell ⟨_, 5, none⟩ (.int .i64 (max enx bnx)) = u8 at *
                      clear HP HT HD hE
                      refine WalkN.done (by kernel_rfl) ?_
                      have hX8 : Ext wd u8 := hX7
                      rw [List.nil_append, ← tcs_append] at hT7
                      rw [List.nil_append, ← ic_append] at hD7
                      have hPc := hP7.cells
                      have hAc := (hAd.below hX8).cells
                      have hVc := (hVd.below hX8)
                      go_wp2_with fail
                      refine (HP3'.out _ _ _ (HTV.out.up hX8) (hT7.sl.mono fun b h => h.2) (hD7.sl.mono fun b h => h.2)).mono ?_
                      rintro e w9 ⟨cv, rfl, hS9, hb9⟩
                      obtain ⟨co, cc, rfl, _, _, _⟩ := hS9.tabs
                      unfold vV
                      dsimp only at *
                      have hE10 : Below w9.heap.size w9 (w9.alloc (.cells #[.slice co bl.length cc, .int .u64 bf, .int .u64 bh, .int .i64 blg', .int .i64 bnx'] 25)) := (Below.refl _ _).alloc (Nat.le_refl _) _
                      have hC10 := (Blk.made w9 #[.slice co bl.length cc, .int .u64 bf, .int .u64 bh, .int .i64 blg', .int .i64 bnx'] 25).cells
                      have hV10 := ((hVc.below hb9).below hE10).cells
                      have hSC := hS9.up hE10
                      have hSB := ((HSV.out.up hX8).up hb9).up hE10
                      have hBF : Below w.heap.size w (w9.alloc (.cells #[.slice co bl.length cc, .int .u64 bf, .int .u64 bh, .int .i64 blg', .int .i64 bnx'] 25)) := ((hBd.trans (Below.mono hX8 hBd.size)).trans (hb9.mono (Nat.le_trans hBd.size hX8.size))).trans (hE10.mono (Nat.le_trans (Nat.le_trans hBd.size hX8.size) hb9.size))
                      clear hPc hAc
                      go_wp2_with fail
                      refine (sameV_ok (.slice xo bl.length xc) (.slice co bl.length cc) ⟨bl, bf, bh, blg', bnx'⟩ _ hSB hSC).mono ?_
                      rintro e w11 ⟨rfl, hb11⟩
                      go_wp2
                      go_ret
                      exact ⟨rfl, hBF.trans (hb11.mono hBF.size)⟩
                · refine ⟨_, (by simp only [List.getElem?_toArray, List.getElem?_cons_succ, List.getElem?_cons_zero]; rfl), by rfl, fun K hK => ?_⟩
                  go_simp
                  have hA0 := Ext.alloc wd (.cells #[] 3)
                  have hO0 := Own.made wd (B := wd.heap.size) hE.out.size 3 1
                  have hX0 := Ext.trans hE.out hA0
                  refine hK.out _ _ hX0 ?_
                  clear hK
                  generalize wd.alloc (.cells #[] 3) = u1 at *
                  have hE := Lib.hid hX0
                  have HD := Lib.hid hO0
                  clear hA0 hO0 hX0
                  refine WalkN.two 0 35 (by kernel_rfl) ?_ ?_
                  · refine ⟨_, (by simp only [List.getElem?_toArray, List.getElem?_cons_zero]; rfl), by rfl, fun K hK => ?_⟩
                    go_simp
                    have hA1 := Ext.alloc u1 (.cells #[] 38)
                    have hO1 := Own.made u1 (B := wd.heap.size) hE.out.size 38 5
                    have hX1 := Ext.trans hE.out hA1
                    have hD1 := HD.out.below hA1
                    refine hK.out _ _ hX1 ?_
                    clear hK
                    generalize u1.alloc (.cells #[] 38) = u2 at *
                    have hE := Lib.hid hX1
                    have HT := Lib.hid hO1
                    have HD := Lib.hid hD1
                    clear hD1
                    clear hA1 hO1 hX1
                    refine WalkN.two 3 35 (by kernel_rfl) ?_ ?_
                    · refine ⟨_, (by simp only [List.getElem?_toArray, List.getElem?_cons_succ, List.getElem?_cons_zero]; rfl), by rfl, fun K hK => ?_⟩
                      refine wp_own tabsT (.tmp 71) (.tmp 73) rfl rfl HT.out rfl (HS1.out.same (Same.below hE.out)) (tcs_one _) (by rw [List.length_nil]; omega) (by rw [List.length_nil]; omega) hE.out.size (fun v2 u3 hown hb hg => ?_)
                      have hX2 : Ext wd u3 := Below.trans hE.out hb
                      have hD2 := HD.out.aside HT.out (by decide) hg
                      refine hK.out _ _ hX2 ?_
                      clear hK
                      simp only [Act.put, List.setIfInBounds_toArray, List.set_cons_zero, List.set_cons_succ]
                      have hE := Lib.hid hX2
                      have HT := Lib.hid hown
                      have HD := Lib.hid hD2
                      clear hD2
                      clear hown hb hg hX2
                      refine WalkN.two 6 35 (by kernel_rfl) ?_ ?_
                      · refine ⟨_, (by simp only [List.getElem?_toArray, List.getElem?_cons_succ, List.getElem?_cons_zero]; rfl), by rfl, fun K hK => ?_⟩
                        refine wp_own tabsT (.tmp 74) (.tmp 76) rfl rfl HT.out rfl (HS2.out.same (Same.below hE.out)) (tcs_one _) (by rw [List.nil_append]; omega) (by rw [List.nil_append]; omega) hE.out.size (fun v3 u4 hown hb hg => ?_)
                        have hX3 : Ext wd u4 := Below.trans hE.out hb
                        have hD3 := HD.out.aside HT.out (by decide) hg
                        refine hK.out _ _ hX3 ?_
                        clear hK
                        simp only [Act.put, List.setIfInBounds_toArray, List.set_cons_zero, List.set_cons_succ]
                        have hE := Lib.hid hX3
                        have HT := Lib.hid hown
                        have HD := Lib.hid hD3
                        clear hD3
                        clear hown hb hg hX3
                        refine WalkN.two 10 35 (by kernel_rfl) ?_ ?_
                        · refine ⟨_, (by simp only [List.getElem?_toArray, List.getElem?_cons_succ, List.getElem?_cons_zero]; rfl), by rfl, fun K hK => ?_⟩
                          refine wp_own intsT (.tmp 78) (.tmp 80) rfl rfl HD.out rfl (HS3.out.same (Same.below hE.out)) (ic_one _) (by rw [List.length_nil]; omega) (by rw [List.length_nil]; omega) hE.out.size (fun v4 u5 hown hb hg => ?_)
                          have hX4 : Ext wd u5 := Below.trans hE.out hb
                          have hD4 := HT.out.aside HD.out (by decide) hg
                          refine hK.out _ _ hX4 ?_
                          clear hK
                          simp only [Act.put, List.setIfInBounds_toArray, List.set_cons_zero, List.set_cons_succ]
                          have hE := Lib.hid hX4
                          have HD := Lib.hid hown
                          have HT := Lib.hid hD4
                          clear hown hb hg hX4 hD4
                          refine WalkN.two 13 35 (by kernel_rfl) ?_ ?_
                          · refine ⟨_, (by simp only [List.getElem?_toArray, List.getElem?_cons_succ, List.getElem?_cons_zero]; rfl), by rfl, fun K hK => ?_⟩
                            refine wp_own intsT (.tmp 81) (.tmp 83) rfl rfl HD.out rfl (HS4.out.same (Same.below hE.out)) (ic_one _) (by rw [List.nil_append]; omega) (by rw [List.nil_append]; omega) hE.out.size (fun v5 u6 hown hb hg => ?_)
                            have hX5 : Ext wd u6 := Below.trans hE.out hb
                            have hD5 := HT.out.aside HD.out (by decide) hg
                            refine hK.out _ _ hX5 ?_
                            clear hK
                            simp only [Act.put, List.setIfInBounds_toArray, List.set_cons_zero, List.set_cons_succ]
                            have hE := Lib.hid hX5
                            have HD := Lib.hid hown
                            have HT := Lib.hid hD5
                            clear hown hb hg hX5 hD5
                            obtain ⟨to, tn, tc, rfl, _, _⟩ := HT.out.sl.len
                            obtain ⟨yo, yn, yc, rfl, _, _⟩ := HD.out.sl.len
                            ((refine WalkN.take 34 _ ?_ (by simp only [List.getElem?_toArray, List.getElem?_cons_succ, List.getElem?_cons_zero]; rfl) (by kernel_rfl) (by kernel_rfl) (by rfl) (fun W hW => ?_) ?_; rotate_left; · (go_simp; try with_reducible rfl)); simp only [Act.put, List.setIfInBounds_toArray, List.set_cons_zero, List.set_cons_succ])
                            refine WalkN.one 35 (by kernel_rfl) ?_
                            refine ⟨_, (by simp only [List.getElem?_toArray, List.getElem?_cons_succ, List.getElem?_cons_zero]; rfl), by rfl, fun K hK => ?_⟩
                            go_simp
                            have hA6 := Ext.alloc u6 (.cells #[.slice none 0 0, .slice none 0 0, .int .u64 0, .int .u64 0, .int .i64 0, .int .i64 0] 28)
                            have hO6 := Blk.made u6 #[.slice none 0 0, .slice none 0 0, .int .u64 0, .int .u64 0, .int .i64 0, .int .i64 0] 28
                            have hX6 := Ext.trans hE.out hA6
                            have hp := hE.out.size
                            have hD6 := HT.out.below hA6
                            have hP6 := HD.out.below hA6
                            refine hK.out _ _ hX6 ?_
                            clear hK
                            generalize u6.alloc (.cells #[.slice none 0 0, .slice none 0 0, .int .u64 0, .int .u64 0, .int .i64 0, .int .i64 0] 28) = u7 at *
                            have hE := Lib.hid hX6
                            have HP := Lib.hid hO6
                            have HT := Lib.hid hD6
                            have HD := Lib.hid hP6
                            clear hD6
                            clear hP6
                            clear hA6 hO6 hX6
                            refine WalkN.one 36 (by kernel_rfl) ?_
                            have hPc := HP.out.cells
                            have hPf := HP.out.free
                            refine ⟨_, (by simp only [List.getElem?_toArray, List.getElem?_cons_succ, List.getElem?_cons_zero]; rfl), by rfl, fun K hK => ?_⟩
                            go_simp
                            have hX7 := below_set6 (b0 := .slice to tn tc) (b1 := .slice yo yn yc) (b2 := .int .u64 mf) (b3 := .int .u64 mh) (b4 := .int .i64 (max elg blg)) (b5 := .int .i64 (max enx bnx)) hE.out hp
                            have hT7 := own_set6 (b0 := .slice to tn tc) (b1 := .slice yo yn yc) (b2 := .int .u64 mf) (b3 := .int .u64 mh) (b4 := .int .i64 (max elg blg)) (b5 := .int .i64 (max enx bnx)) HT.out HP.out (by decide)
                            have hD7 := own_set6 (b0 := .slice to tn tc) (b1 := .slice yo yn yc) (b2 := .int .u64 mf) (b3 := .int .u64 mh) (b4 := .int .i64 (max elg blg)) (b5 := .int .i64 (max enx bnx)) HD.out HP.out (by decide)
                            have hP7 := blk_set6 (b0 := .slice to tn tc) (b1 := .slice yo yn yc) (b2 := .int .u64 mf) (b3 := .int .u64 mh) (b4 := .int .i64 (max elg blg)) (b5 := .int .i64 (max enx bnx)) HP.out
                            refine hK.out _ _ hX7 ?_
                            clear hK hPc hPf
                            generalize (((((u7.setCell ⟨_, 0, none⟩ (.slice to tn tc)).setCell ⟨_, 1, none⟩ (.slice yo yn yc)).setCell ⟨_, 2, none⟩ (.int .u64 mf)).setCell ⟨_, 3, none⟩ (.int .u64 mh)).setCell ⟨_, 4, none⟩ (.int .i64 (max elg blg))).setCell ⟨_, 5, none⟩ (.int .i64 (max enx bnx)) = u8 at *
                            clear HP HT HD hE
                            refine WalkN.done (by kernel_rfl) ?_
                            have hX8 : Ext wd u8 := hX7
                            rw [List.nil_append, ← tcs_append] at hT7
                            rw [List.nil_append, ← ic_append] at hD7
                            have hPc := hP7.cells
                            have hAc := (hAd.below hX8).cells
                            have hVc := (hVd.below hX8)
                            go_wp2_with fail
                            refine (HP3'.out _ _ _ (HTV.out.up hX8) (hT7.sl.mono fun b h => h.2) (hD7.sl.mono fun b h => h.2)).mono ?_
                            rintro e w9 ⟨cv, rfl, hS9, hb9⟩
                            obtain ⟨co, cc, rfl, _, _, _⟩ := hS9.tabs
                            unfold vV
                            dsimp only at *
                            have hE10 : Below w9.heap.size w9 (w9.alloc (.cells #[.slice co bl.length cc, .int .u64 bf, .int .u64 bh, .int .i64 blg', .int .i64 bnx'] 25)) := (Below.refl _ _).alloc (Nat.le_refl _) _
                            have hC10 := (Blk.made w9 #[.slice co bl.length cc, .int .u64 bf, .int .u64 bh, .int .i64 blg', .int .i64 bnx'] 25).cells
                            have hV10 := ((hVc.below hb9).below hE10).cells
                            have hSC := hS9.up hE10
                            have hSB := ((HSV.out.up hX8).up hb9).up hE10
                            have hBF : Below w.heap.size w (w9.alloc (.cells #[.slice co bl.length cc, .int .u64 bf, .int .u64 bh, .int .i64 blg', .int .i64 bnx'] 25)) := ((hBd.trans (Below.mono hX8 hBd.size)).trans (hb9.mono (Nat.le_trans hBd.size hX8.size))).trans (hE10.mono (Nat.le_trans (Nat.le_trans hBd.size hX8.size) hb9.size))
                            clear hPc hAc
                            go_wp2_with fail
                            refine (sameV_ok (.slice xo bl.length xc) (.slice co bl.length cc) ⟨bl, bf, bh, blg', bnx'⟩ _ hSB hSC).mono ?_
                            rintro e w11 ⟨rfl, hb11⟩
                            go_wp2
                            go_ret
                            exact ⟨rfl, hBF.trans (hb11.mono hBF.size)⟩
                          · refine ⟨_, (by simp only [List.getElem?_toArray, List.getElem?_cons_succ, List.getElem?_cons_zero]; rfl), by rfl, fun K hK => ?_⟩
                            go_simp
                            have hA5 := Ext.alloc u5 (.cells #[.slice none 0 0, .slice none 0 0, .int .u64 0, .int .u64 0, .int .i64 0, .int .i64 0] 28)
                            have hO5 := Blk.made u5 #[.slice none 0 0, .slice none 0 0, .int .u64 0, .int .u64 0, .int .i64 0, .int .i64 0] 28
                            have hX5 := Ext.trans hE.out hA5
                            have hp := hE.out.size
                            have hD5 := HT.out.below hA5
                            have hP5 := HD.out.below hA5
                            refine hK.out _ _ hX5 ?_
                            clear hK
                            generalize u5.alloc (.cells #[.slice none 0 0, .slice none 0 0, .int .u64 0, .int .u64 0, .int .i64 0, .int .i64 0] 28) = u6 at *
                            have hE := Lib.hid hX5
                            have HP := Lib.hid hO5
                            have HT := Lib.hid hD5
                            have HD := Lib.hid hP5
                            clear hD5
                            clear hP5
                            clear hA5 hO5 hX5
                            refine WalkN.one 13 (by kernel_rfl) ?_
                            refine ⟨_, (by simp only [List.getElem?_toArray, List.getElem?_cons_succ, List.getElem?_cons_zero]; rfl), by rfl, fun K hK => ?_⟩
                            refine wp_own intsT (.tmp 81) (.tmp 83) rfl rfl HD.out rfl (HS4.out.same (Same.below hE.out)) (ic_one _) (by rw [List.nil_append]; omega) (by rw [List.nil_append]; omega) hE.out.size (fun v6 u7 hown hb hg => ?_)
                            have hX6 : Ext wd u7 := Below.trans hE.out hb
                            have hD6 := HT.out.aside HD.out (by decide) hg
                            have hP6 := HP.out.aside HD.out (by decide) hg
                            refine hK.out _ _ hX6 ?_
                            clear hK
                            simp only [Act.put, List.setIfInBounds_toArray, List.set_cons_zero, List.set_cons_succ]
                            have hE := Lib.hid hX6
                            have HD := Lib.hid hown
                            have HT := Lib.hid hD6
                            have HP := Lib.hid hP6
                            clear hP6
                            clear hown hb hg hX6 hD6
                            obtain ⟨to, tn, tc, rfl, _, _⟩ := HT.out.sl.len
                            obtain ⟨yo, yn, yc, rfl, _, _⟩ := HD.out.sl.len
                            ((refine WalkN.take 34 _ ?_ (by simp only [List.getElem?_toArray, List.getElem?_cons_succ, List.getElem?_cons_zero]; rfl) (by kernel_rfl) (by kernel_rfl) (by rfl) (fun W hW => ?_) ?_; rotate_left; · (go_simp; try with_reducible rfl)); simp only [Act.put, List.setIfInBounds_toArray, List.set_cons_zero, List.set_cons_succ])
                            refine WalkN.one 36 (by kernel_rfl) ?_
                            have hPc := HP.out.cells
                            have hPf := HP.out.free
                            refine ⟨_, (by simp only [List.getElem?_toArray, List.getElem?_cons_succ, List.getElem?_cons_zero]; rfl), by rfl, fun K hK => ?_⟩
                            go_simp
                            have hX7 := below_set6 (b0 := .slice to tn tc) (b1 := .slice yo yn yc) (b2 := .int .u64 mf) (b3 := .int .u64 mh) (b4 := .int .i64 (max elg blg)) (b5 := .int .i64 (max enx bnx)) hE.out hp
                            have hT7 := own_set6 (b0 := .slice to tn tc) (b1 := .slice yo yn yc) (b2 := .int .u64 mf) (b3 := .int .u64 mh) (b4 := .int .i64 (max elg blg)) (b5 := .int .i64 (max enx bnx)) HT.out HP.out (by decide)
                            have hD7 := own_set6 (b0 := .slice to tn tc) (b1 := .slice yo yn yc) (b2 := .int .u64 mf) (b3 := .int .u64 mh) (b4 := .int .i64 (max elg blg)) (b5 := .int .i64 (max enx bnx)) HD.out HP.out (by decide)
                            have hP7 := blk_set6 (b0 := .slice to tn tc) (b1 := .slice yo yn yc) (b2 := .int .u64 mf) (b3 := .int .u64 mh) (b4 := .int .i64 (max elg blg)) (b5 := .int .i64 (max enx bnx)) HP.out
                            refine hK.out _ _ hX7 ?_
                            clear hK hPc hPf
                            generalize (((((u7.setCell ⟨_, 0, none⟩ (.slice to tn tc)).setCell ⟨_, 1, none⟩ (.slice yo yn yc)).setCell ⟨_, 2, none⟩ (.int .u64 mf)).setCell ⟨_, 3, none⟩ (.int .u64 mh)).setCell ⟨_, 4, none⟩ (.int .i64 (max elg blg))).setCell ⟨_, 5, none⟩ (.int .i64 (max enx bnx)) = u8 at *
                            clear HP HT HD hE
                            refine WalkN.done (by kernel_rfl) ?_
                            have hX8 : Ext wd u8 := hX7
                            rw [List.nil_append, ← tcs_append] at hT7
                            rw [List.nil_append, ← ic_append] at hD7
                            have hPc := hP7.cells
                            have hAc := (hAd.below hX8).cells
                            have hVc := (hVd.below hX8)
                            go_wp2_with fail
                            refine (HP3'.out _ _ _ (HTV.out.up hX8) (hT7.sl.mono fun b h => h.2) (hD7.sl.mono fun b h => h.2)).mono ?_
                            rintro e w9 ⟨cv, rfl, hS9, hb9⟩
                            obtain ⟨co, cc, rfl, _, _, _⟩ := hS9.tabs
                            unfold vV
                            dsimp only at *
                            have hE10 : Below w9.heap.size w9 (w9.alloc (.cells #[.slice co bl.length cc, .int .u64 bf, .int .u64 bh, .int .i64 blg', .int .i64 bnx'] 25)) := (Below.refl _ _).alloc (Nat.le_refl _) _
                            have hC10 := (Blk.made w9 #[.slice co bl.length cc, .int .u64 bf, .int .u64 bh, .int .i64 blg', .int .i64 bnx'] 25).cells
                            have hV10 := ((hVc.below hb9).below hE10).cells
                            have hSC := hS9.up hE10
                            have hSB := ((HSV.out.up hX8).up hb9).up hE10
                            have hBF : Below w.heap.size w (w9.alloc (.cells #[.slice co bl.length cc, .int .u64 bf, .int .u64 bh, .int .i64 blg', .int .i64 bnx'] 25)) := ((hBd.trans (Below.mono hX8 hBd.size)).trans (hb9.mono (Nat.le_trans hBd.size hX8.size))).trans (hE10.mono (Nat.le_trans (Nat.le_trans hBd.size hX8.size) hb9.size))
                            clear hPc hAc
                            go_wp2_with fail
                            refine (sameV_ok (.slice xo bl.length xc) (.slice co bl.length cc) ⟨bl, bf, bh, blg', bnx'⟩ _ hSB hSC).mono ?_
                            rintro e w11 ⟨rfl, hb11⟩
                            go_wp2
                            go_ret
                            exact ⟨rfl, hBF.trans (hb11.mono hBF.size)⟩
                        · refine ⟨_, (by simp only [List.getElem?_toArray, List.getElem?_cons_succ, List.getElem?_cons_zero]; rfl), by rfl, fun K hK => ?_⟩
                          go_simp
                          have hA4 := Ext.alloc u4 (.cells #[.slice none 0 0, .slice none 0 0, .int .u64 0, .int .u64 0, .int .i64 0, .int .i64 0] 28)
                          have hO4 := Blk.made u4 #[.slice none 0 0, .slice none 0 0, .int .u64 0, .int .u64 0, .int .i64 0, .int .i64 0] 28
                          have hX4 := Ext.trans hE.out hA4
                          have hp := hE.out.size
                          have hD4 := HT.out.below hA4
                          have hP4 := HD.out.below hA4
                          refine hK.out _ _ hX4 ?_
                          clear hK
                          generalize u4.alloc (.cells #[.slice none 0 0, .slice none 0 0, .int .u64 0, .int .u64 0, .int .i64 0, .int .i64 0] 28) = u5 at *
                          have hE := Lib.hid hX4
                          have HP := Lib.hid hO4
                          have HT := Lib.hid hD4
                          have HD := Lib.hid hP4
                          clear hD4
                          clear hP4
                          clear hA4 hO4 hX4
                          refine WalkN.one 10 (by kernel_rfl) ?_
                          refine ⟨_, (by simp only [List.getElem?_toArray, List.getElem?_cons_succ, List.getElem?_cons_zero]; rfl), by rfl, fun K hK => ?_⟩
                          refine wp_own intsT (.tmp 78) (.tmp 80) rfl rfl HD.out rfl (HS3.out.same (Same.below hE.out)) (ic_one _) (by rw [List.length_nil]; omega) (by rw [List.length_nil]; omega) hE.out.size (fun v5 u6 hown hb hg => ?_)
                          have hX5 : Ext wd u6 := Below.trans hE.out hb
                          have hD5 := HT.out.aside HD.out (by decide) hg
                          have hP5 := HP.out.aside HD.out (by decide) hg
                          refine hK.out _ _ hX5 ?_
                          clear hK
                          simp only [Act.put, List.setIfInBounds_toArray, List.set_cons_zero, List.set_cons_succ]
                          have hE := Lib.hid hX5
                          have HD := Lib.hid hown
                          have HT := Lib.hid hD5
                          have HP := Lib.hid hP5
                          clear hP5
                          clear hown hb hg hX5 hD5
                          refine WalkN.one 13 (by kernel_rfl) ?_
                          refine ⟨_, (by simp only [List.getElem?_toArray, List.getElem?_cons_succ, List.getElem?_cons_zero]; rfl), by rfl, fun K hK => ?_⟩
                          refine wp_own intsT (.tmp 81) (.tmp 83) rfl rfl HD.out rfl (HS4.out.same (Same.below hE.out)) (ic_one _) (by rw [List.nil_append]; omega) (by rw [List.nil_append]; omega) hE.out.size (fun v6 u7 hown hb hg => ?_)
                          have hX6 : Ext wd u7 := Below.trans hE.out hb
                          have hD6 := HT.out.aside HD.out (by decide) hg
                          have hP6 := HP.out.aside HD.out (by decide) hg
                          refine hK.out _ _ hX6 ?_
                          clear hK
                          simp only [Act.put, List.setIfInBounds_toArray, List.set_cons_zero, List.set_cons_succ]
                          have hE := Lib.hid hX6
                          have HD := Lib.hid hown
                          have HT := Lib.hid hD6
                          have HP := Lib.hid hP6
                          clear hP6
                          clear hown hb hg hX6 hD6
                          obtain ⟨to, tn, tc, rfl, _, _⟩ := HT.out.sl.len
                          obtain ⟨yo, yn, yc, rfl, _, _⟩ := HD.out.sl.len
                          ((refine WalkN.take 34 _ ?_ (by simp only [List.getElem?_toArray, List.getElem?_cons_succ, List.getElem?_cons_zero]; rfl) (by kernel_rfl) (by kernel_rfl) (by rfl) (fun W hW => ?_) ?_; rotate_left; · (go_simp; try with_reducible rfl)); simp only [Act.put, List.setIfInBounds_toArray, List.set_cons_zero, List.set_cons_succ])
                          refine WalkN.one 36 (by kernel_rfl) ?_
                          have hPc := HP.out.cells
                          have hPf := HP.out.free
                          refine ⟨_, (by simp only [List.getElem?_toArray, List.getElem?_cons_succ, List.getElem?_cons_zero]; rfl), by rfl, fun K hK => ?_⟩
                          go_simp
                          have hX7 := below_set6 (b0 := .slice to tn tc) (b1 := .slice yo yn yc) (b2 := .int .u64 mf) (b3 := .int .u64 mh) (b4 := .int .i64 (max elg blg)) (b5 := .int .i64 (max enx bnx)) hE.out hp
                          have hT7 := own_set6 (b0 := .slice to tn tc) (b1 := .slice yo yn yc) (b2 := .int .u64 mf) (b3 := .int .u64 mh) (b4 := .int .i64 (max elg blg)) (b5 := .int .i64 (max enx bnx)) HT.out HP.out (by decide)
                          have hD7 := own_set6 (b0 := .slice to tn tc) (b1 := .slice yo yn yc) (b2 := .int .u64 mf) (b3 := .int .u64 mh) (b4 := .int .i64 (max elg blg)) (b5 := .int .i64 (max enx bnx)) HD.out HP.out (by decide)
                          have hP7 := blk_set6 (b0 := .slice to tn tc) (b1 := .slice yo yn yc) (b2 := .int .u64 mf) (b3 := .int .u64 mh) (b4 := .int .i64 (max elg blg)) (b5 := .int .i64 (max enx bnx)) HP.out
                          refine hK.out _ _ hX7 ?_
                          clear hK hPc hPf
                          generalize (((((u7.setCell ⟨_, 0, none⟩ (.slice to tn tc)).setCell ⟨_, 1, none⟩ (.slice yo yn yc)).setCell ⟨_, 2, none⟩ (.int .u64 mf)).setCell ⟨_, 3, none⟩ (.int .u64 mh)).setCell ⟨_, 4, none⟩ (.int .i64 (max elg blg))).setCell ⟨_, 5, none⟩ (.int .i64 (max enx bnx)) = u8 at *
                          clear HP HT HD hE
                          refine WalkN.done (by kernel_rfl) ?_
                          have hX8 : Ext wd u8 := hX7
                          rw [List.nil_append, ← tcs_append] at hT7
                          rw [List.nil_append, ← ic_append] at hD7
                          have hPc := hP7.cells
                          have hAc := (hAd.below hX8).cells
                          have hVc := (hVd.below hX8)
                          go_wp2_with fail
                          refine (HP3'.out _ _ _ (HTV.out.up hX8) (hT7.sl.mono fun b h => h.2) (hD7.sl.mono fun b h => h.2)).mono ?_
                          rintro e w9 ⟨cv, rfl, hS9, hb9⟩
                          obtain ⟨co, cc, rfl, _, _, _⟩ := hS9.tabs
                          unfold vV
                          dsimp only at *
                          have hE10 : Below w9.heap.size w9 (w9.alloc (.cells #[.slice co bl.length cc, .int .u64 bf, .int .u64 bh, .int .i64 blg', .int .i64 bnx'] 25)) := (Below.refl _ _).alloc (Nat.le_refl _) _
                          have hC10 := (Blk.made w9 #[.slice co bl.length cc, .int .u64 bf, .int .u64 bh, .int .i64 blg', .int .i64 bnx'] 25).cells
                          have hV10 := ((hVc.below hb9).below hE10).cells
                          have hSC := hS9.up hE10
                          have hSB := ((HSV.out.up hX8).up hb9).up hE10
                          have hBF : Below w.heap.size w (w9.alloc (.cells #[.slice co bl.length cc, .int .u64 bf, .int .u64 bh, .int .i64 blg', .int .i64 bnx'] 25)) := ((hBd.trans (Below.mono hX8 hBd.size)).trans (hb9.mono (Nat.le_trans hBd.size hX8.size))).trans (hE10.mono (Nat.le_trans (Nat.le_trans hBd.size hX8.size) hb9.size))
                          clear hPc hAc
                          go_wp2_with fail
                          refine (sameV_ok (.slice xo bl.length xc) (.slice co bl.length cc) ⟨bl, bf, bh, blg', bnx'⟩ _ hSB hSC).mono ?_
                          rintro e w11 ⟨rfl, hb11⟩
                          go_wp2
                          go_ret
                          exact ⟨rfl, hBF.trans (hb11.mono hBF.size)⟩
                      · refine ⟨_, (by simp only [List.getElem?_toArray, List.getElem?_cons_succ, List.getElem?_cons_zero]; rfl), by rfl, fun K hK => ?_⟩
                        go_simp
                        have hA3 := Ext.alloc u3 (.cells #[.slice none 0 0, .slice none 0 0, .int .u64 0, .int .u64 0, .int .i64 0, .int .i64 0] 28)
                        have hO3 := Blk.made u3 #[.slice none 0 0, .slice none 0 0, .int .u64 0, .int .u64 0, .int .i64 0, .int .i64 0] 28
                        have hX3 := Ext.trans hE.out hA3
                        have hp := hE.out.size
                        have hD3 := HT.out.below hA3
                        have hP3 := HD.out.below hA3
                        refine hK.out _ _ hX3 ?_
                        clear hK
                        generalize u3.alloc (.cells #[.slice none 0 0, .slice none 0 0, .int .u64 0, .int .u64 0, .int .i64 0, .int .i64 0] 28) = u4 at *
                        have hE := Lib.hid hX3
                        have HP := Lib.hid hO3
                        have HT := Lib.hid hD3
                        have HD := Lib.hid hP3
                        clear hD3
                        clear hP3
                        clear hA3 hO3 hX3
                        refine WalkN.one 6 (by kernel_rfl) ?_
                        refine ⟨_, (by simp only [List.getElem?_toArray, List.getElem?_cons_succ, List.getElem?_cons_zero]; rfl), by rfl, fun K hK => ?_⟩
                        refine wp_own tabsT (.tmp 74) (.tmp 76) rfl rfl HT.out rfl (HS2.out.same (Same.below hE.out)) (tcs_one _) (by rw [List.nil_append]; omega) (by rw [List.nil_append]; omega) hE.out.size (fun v4 u5 hown hb hg => ?_)
                        have hX4 : Ext wd u5 := Below.trans hE.out hb
                        have hD4 := HD.out.aside HT.out (by decide) hg
                        have hP4 := HP.out.aside HT.out (by decide) hg
                        refine hK.out _ _ hX4 ?_
                        clear hK
                        simp only [Act.put, List.setIfInBounds_toArray, List.set_cons_zero, List.set_cons_succ]
                        have hE := Lib.hid hX4
                        have HT := Lib.hid hown
                        have HD := Lib.hid hD4
                        have HP := Lib.hid hP4
                        clear hD4
                        clear hP4
                        clear hown hb hg hX4
                        refine WalkN.one 10 (by kernel_rfl) ?_
                        refine ⟨_, (by simp only [List.getElem?_toArray, List.getElem?_cons_succ, List.getElem?_cons_zero]; rfl), by rfl, fun K hK => ?_⟩
                        refine wp_own intsT (.tmp 78) (.tmp 80) rfl rfl HD.out rfl (HS3.out.same (Same.below hE.out)) (ic_one _) (by rw [List.length_nil]; omega) (by rw [List.length_nil]; omega) hE.out.size (fun v5 u6 hown hb hg => ?_)
                        have hX5 : Ext wd u6 := Below.trans hE.out hb
                        have hD5 := HT.out.aside HD.out (by decide) hg
                        have hP5 := HP.out.aside HD.out (by decide) hg
                        refine hK.out _ _ hX5 ?_
                        clear hK
                        simp only [Act.put, List.setIfInBounds_toArray, List.set_cons_zero, List.set_cons_succ]
                        have hE := Lib.hid hX5
                        have HD := Lib.hid hown
                        have HT := Lib.hid hD5
                        have HP := Lib.hid hP5
                        clear hP5
                        clear hown hb hg hX5 hD5
                        refine WalkN.one 13 (by kernel_rfl) ?_
                        refine ⟨_, (by simp only [List.getElem?_toArray, List.getElem?_cons_succ, List.getElem?_cons_zero]; rfl), by rfl, fun K hK => ?_⟩
                        refine wp_own intsT (.tmp 81) (.tmp 83) rfl rfl HD.out rfl (HS4.out.same (Same.below hE.out)) (ic_one _) (by rw [List.nil_append]; omega) (by rw [List.nil_append]; omega) hE.out.size (fun v6 u7 hown hb hg => ?_)
                        have hX6 : Ext wd u7 := Below.trans hE.out hb
                        have hD6 := HT.out.aside HD.out (by decide) hg
                        have hP6 := HP.out.aside HD.out (by decide) hg
                        refine hK.out _ _ hX6 ?_
                        clear hK
                        simp only [Act.put, List.setIfInBounds_toArray, List.set_cons_zero, List.set_cons_succ]
                        have hE := Lib.hid hX6
                        have HD := Lib.hid hown
                        have HT := Lib.hid hD6
                        have HP := Lib.hid hP6
                        clear hP6
                        clear hown hb hg hX6 hD6
                        obtain ⟨to, tn, tc, rfl, _, _⟩ := HT.out.sl.len
                        obtain ⟨yo, yn, yc, rfl, _, _⟩ := HD.out.sl.len
                        ((refine WalkN.take 34 _ ?_ (by simp only [List.getElem?_toArray, List.getElem?_cons_succ, List.getElem?_cons_zero]; rfl) (by kernel_rfl) (by kernel_rfl) (by rfl) (fun W hW => ?_) ?_; rotate_left; · (go_simp; try with_reducible rfl)); simp only [Act.put, List.setIfInBounds_toArray, List.set_cons_zero, List.set_cons_succ])
                        refine WalkN.one 36 (by kernel_rfl) ?_
                        have hPc := HP.out.cells
                        have hPf := HP.out.free
                        refine ⟨_, (by simp only [List.getElem?_toArray, List.getElem?_cons_succ, List.getElem?_cons_zero]; rfl), by rfl, fun K hK => ?_⟩
                        go_simp
                        have hX7 := below_set6 (b0 := .slice to tn tc) (b1 := .slice yo yn yc) (b2 := .int .u64 mf) (b3 := .int .u64 mh) (b4 := .int .i64 (max elg blg)) (b5 := .int .i64 (max enx bnx)) hE.out hp
                        have hT7 := own_set6 (b0 := .slice to tn tc) (b1 := .slice yo yn yc) (b2 := .int .u64 mf) (b3 := .int .u64 mh) (b4 := .int .i64 (max elg blg)) (b5 := .int .i64 (max enx bnx)) HT.out HP.out (by decide)
                        have hD7 := own_set6 (b0 := .slice to tn tc) (b1 := .slice yo yn yc) (b2 := .int .u64 mf) (b3 := .int .u64 mh) (b4 := .int .i64 (max elg blg)) (b5 := .int .i64 (max enx bnx)) HD.out HP.out (by decide)
                        have hP7 := blk_set6 (b0 := .slice to tn tc) (b1 := .slice yo yn yc) (b2 := .int .u64 mf) (b3 := .int .u64 mh) (b4 := .int .i64 (max elg blg)) (b5 := .int .i64 (max enx bnx)) HP.out
                        refine hK.out _ _ hX7 ?_
                        clear hK hPc hPf
                        generalize (((((u7.setCell ⟨_, 0, none⟩ (.slice to tn tc)).setCell ⟨_, 1, none⟩ (.slice yo yn yc)).setCell ⟨_, 2, none⟩ (.int .u64 mf)).setCell ⟨_, 3, none⟩ (.int .u64 mh)).setCell ⟨_, 4, none⟩ (.int .i64 (max elg blg))).setCell ⟨_, 5, none⟩ (.int .i64 (max enx bnx)) = u8 at *
                        clear HP HT HD hE
                        refine WalkN.done (by kernel_rfl) ?_
                        have hX8 : Ext wd u8 := hX7
                        rw [List.nil_append, ← tcs_append] at hT7
                        rw [List.nil_append, ← ic_append] at hD7
                        have hPc := hP7.cells
                        have hAc := (hAd.below hX8).cells
                        have hVc := (hVd.below hX8)
                        go_wp2_with fail
                        refine (HP3'.out _ _ _ (HTV.out.up hX8) (hT7.sl.mono fun b h => h.2) (hD7.sl.mono fun b h => h.2)).mono ?_
                        rintro e w9 ⟨cv, rfl, hS9, hb9⟩
                        obtain ⟨co, cc, rfl, _, _, _⟩ := hS9.tabs
                        unfold vV
                        dsimp only at *
                        have hE10 : Below w9.heap.size w9 (w9.alloc (.cells #[.slice co bl.length cc, .int .u64 bf, .int .u64 bh, .int .i64 blg', .int .i64 bnx'] 25)) := (Below.refl _ _).alloc (Nat.le_refl _) _
                        have hC10 := (Blk.made w9 #[.slice co bl.length cc, .int .u64 bf, .int .u64 bh, .int .i64 blg', .int .i64 bnx'] 25).cells
                        have hV10 := ((hVc.below hb9).below hE10).cells
                        have hSC := hS9.up hE10
                        have hSB := ((HSV.out.up hX8).up hb9).up hE10
                        have hBF : Below w.heap.size w (w9.alloc (.cells #[.slice co bl.length cc, .int .u64 bf, .int .u64 bh, .int .i64 blg', .int .i64 bnx'] 25)) := ((hBd.trans (Below.mono hX8 hBd.size)).trans (hb9.mono (Nat.le_trans hBd.size hX8.size))).trans (hE10.mono (Nat.le_trans (Nat.le_trans hBd.size hX8.size) hb9.size))
                        clear hPc hAc
                        go_wp2_with fail
                        refine (sameV_ok (.slice xo bl.length xc) (.slice co bl.length cc) ⟨bl, bf, bh, blg', bnx'⟩ _ hSB hSC).mono ?_
                        rintro e w11 ⟨rfl, hb11⟩
                        go_wp2
                        go_ret
                        exact ⟨rfl, hBF.trans (hb11.mono hBF.size)⟩
                    · refine ⟨_, (by simp only [List.getElem?_toArray, List.getElem?_cons_succ, List.getElem?_cons_zero]; rfl), by rfl, fun K hK => ?_⟩
                      go_simp
                      have hA2 := Ext.alloc u2 (.cells #[.slice none 0 0, .slice none 0 0, .int .u64 0, .int .u64 0, .int .i64 0, .int .i64 0] 28)
                      have hO2 := Blk.made u2 #[.slice none 0 0, .slice none 0 0, .int .u64 0, .int .u64 0, .int .i64 0, .int .i64 0] 28
                      have hX2 := Ext.trans hE.out hA2
                      have hp := hE.out.size
                      have hD2 := HT.out.below hA2
                      have hP2 := HD.out.below hA2
                      refine hK.out _ _ hX2 ?_
                      clear hK
                      generalize u2.alloc (.cells #[.slice none 0 0, .slice none 0 0, .int .u64 0, .int .u64 0, .int .i64 0, .int .i64 0] 28) = u3 at *
                      have hE := Lib.hid hX2
                      have HP := Lib.hid hO2
                      have HT := Lib.hid hD2
                      have HD := Lib.hid hP2
                      clear hD2
                      clear hP2
                      clear hA2 hO2 hX2
                      refine WalkN.one 3 (by kernel_rfl) ?_
                      refine ⟨_, (by simp only [List.getElem?_toArray, List.getElem?_cons_succ, List.getElem?_cons_zero]; rfl), by rfl, fun K hK => ?_⟩
                      refine wp_own tabsT (.tmp 71) (.tmp 73) rfl rfl HT.out rfl (HS1.out.same (Same.below hE.out)) (tcs_one _) (by rw [List.length_nil]; omega) (by rw [List.length_nil]; omega) hE.out.size (fun v3 u4 hown hb hg => ?_)
                      have hX3 : Ext wd u4 := Below.trans hE.out hb
                      have hD3 := HD.out.aside HT.out (by decide) hg
                      have hP3 := HP.out.aside HT.out (by decide) hg
                      refine hK.out _ _ hX3 ?_
                      clear hK
                      simp only [Act.put, List.setIfInBounds_toArray, List.set_cons_zero, List.set_cons_succ]
                      have hE := Lib.hid hX3
                      have HT := Lib.hid hown
                      have HD := Lib.hid hD3
                      have HP := Lib.hid hP3
                      clear hD3
                      clear hP3
                      clear hown hb hg hX3
                      refine WalkN.one 6 (by kernel_rfl) ?_
                      refine ⟨_, (by simp only [List.getElem?_toArray, List.getElem?_cons_succ, List.getElem?_cons_zero]; rfl), by rfl, fun K hK => ?_⟩
                      refine wp_own tabsT (.tmp 74) (.tmp 76) rfl rfl HT.out rfl (HS2.out.same (Same.below hE.out)) (tcs_one _) (by rw [List.nil_append]; omega) (by rw [List.nil_append]; omega) hE.out.size (fun v4 u5 hown hb hg => ?_)
                      have hX4 : Ext wd u5 := Below.trans hE.out hb
                      have hD4 := HD.out.aside HT.out (by decide) hg
                      have hP4 := HP.out.aside HT.out (by decide) hg
                      refine hK.out _ _ hX4 ?_
                      clear hK
                      simp only [Act.put, List.setIfInBounds_toArray, List.set_cons_zero, List.set_cons_succ]
                      have hE := Lib.hid hX4
                      have HT := Lib.hid hown
                      have HD := Lib.hid hD4
                      have HP := Lib.hid hP4
                      clear hD4
                      clear hP4
                      clear hown hb hg hX4
                      refine WalkN.one 10 (by kernel_rfl) ?_
                      refine ⟨_, (by simp only [List.getElem?_toArray, List.getElem?_cons_succ, List.getElem?_cons_zero]; rfl), by rfl, fun K hK => ?_⟩
                      refine wp_own intsT (.tmp 78) (.tmp 80) rfl rfl HD.out rfl (HS3.out.same (Same.below hE.out)) (ic_one _) (by rw [List.length_nil]; omega) (by rw [List.length_nil]; omega) hE.out.size (fun v5 u6 hown hb hg => ?_)
                      have hX5 : Ext wd u6 := Below.trans hE.out hb
                      have hD5 := HT.out.aside HD.out (by decide) hg
                      have hP5 := HP.out.aside HD.out (by decide) hg
                      refine hK.out _ _ hX5 ?_
                      clear hK
                      simp only [Act.put, List.setIfInBounds_toArray, List.set_cons_zero, List.set_cons_succ]
                      have hE := Lib.hid hX5
                      have HD := Lib.hid hown
                      have HT := Lib.hid hD5
                      have HP := Lib.hid hP5
                      clear hP5
                      clear hown hb hg hX5 hD5
                      refine WalkN.one 13 (by kernel_rfl) ?_
                      refine ⟨_, (by simp only [List.getElem?_toArray, List.getElem?_cons_succ, List.getElem?_cons_zero]; rfl), by rfl, fun K hK => ?_⟩
                      refine wp_own intsT (.tmp 81) (.tmp 83) rfl rfl HD.out rfl (HS4.out.same (Same.below hE.out)) (ic_one _) (by rw [List.nil_append]; omega) (by rw [List.nil_append]; omega) hE.out.size (fun v6 u7 hown hb hg => ?_)
                      have hX6 : Ext wd u7 := Below.trans hE.out hb
                      have hD6 := HT.out.aside HD.out (by decide) hg
                      have hP6 := HP.out.aside HD.out (by decide) hg
                      refine hK.out _ _ hX6 ?_
                      clear hK
                      simp only [Act.put, List.setIfInBounds_toArray, List.set_cons_zero, List.set_cons_succ]
                      have hE := Lib.hid hX6
                      have HD := Lib.hid hown
                      have HT := Lib.hid hD6
                      have HP := Lib.hid hP6
                      clear hP6
                      clear hown hb hg hX6 hD6
                      obtain ⟨to, tn, tc, rfl, _, _⟩ := HT.out.sl.len
                      obtain ⟨yo, yn, yc, rfl, _, _⟩ := HD.out.sl.len
                      ((refine WalkN.take 34 _ ?_ (by simp only [List.getElem?_toArray, List.getElem?_cons_succ, List.getElem?_cons_zero]; rfl) (by kernel_rfl) (by kernel_rfl) (by rfl) (fun W hW => ?_) ?_; rotate_left; · (go_simp; try with_reducible rfl)); simp only [Act.put, List.setIfInBounds_toArray, List.set_cons_zero, List.set_cons_succ])
                      refine WalkN.one 36 (by kernel_rfl) ?_
                      have hPc := HP.out.cells
                      have hPf := HP.out.free
                      refine ⟨_, (by simp only [List.getElem?_toArray, List.getElem?_cons_succ, List.getElem?_cons_zero]; rfl), by rfl, fun K hK => ?_⟩
                      go_simp
                      have hX7 := below_set6 (b0 := .slice to tn tc) (b1 := .slice yo yn yc) (b2 := .int .u64 mf) (b3 := .int .u64 mh) (b4 := .int .i64 (max elg blg)) (b5 := .int .i64 (max enx bnx)) hE.out hp
                      have hT7 := own_set6 (b0 := .slice to tn tc) (b1 := .slice yo yn yc) (b2 := .int .u64 mf) (b3 := .int .u64 mh) (b4 := .int .i64 (max elg blg)) (b5 := .int .i64 (max enx bnx)) HT.out HP.out (by decide)
                      have hD7 := own_set6 (b0 := .slice to tn tc) (b1 := .slice yo yn yc) (b2 := .int .u64 mf) (b3 := .int .u64 mh) (b4 := .int .i64 (max elg blg)) (b5 := .int .i64 (max enx bnx)) HD.out HP.out (by decide)
                      have hP7 := blk_set6 (b0 := .slice to tn tc) (b1 := .slice yo yn yc) (b2 := .int .u64 mf) (b3 := .int .u64 mh) (b4 := .int .i64 (max elg blg)) (b5 := .int .i64 (max enx bnx)) HP.out
                      refine hK.out _ _ hX7 ?_
                      clear hK hPc hPf
                      generalize (((((u7.setCell ⟨_, 0, none⟩ (.slice to tn tc)).setCell ⟨_, 1, none⟩ (.slice yo yn yc)).setCell ⟨_, 2, none⟩ (.int .u64 mf)).setCell ⟨_, 3, none⟩ (.int .u64 mh)).setCell ⟨_, 4, none⟩ (.int .i64 (max elg blg))).setCell ⟨_, 5, none⟩ (.int .i64 (max enx bnx)) = u8 at *
                      clear HP HT HD hE
                      refine WalkN.done (by kernel_rfl) ?_
                      have hX8 : Ext wd u8 := hX7
                      rw [List.nil_append, ← tcs_append] at hT7
                      rw [List.nil_append, ← ic_append] at hD7
                      have hPc := hP7.cells
                      have hAc := (hAd.below hX8).cells
                      have hVc := (hVd.below hX8)
                      go_wp2_with fail
                      refine (HP3'.out _ _ _ (HTV.out.up hX8) (hT7.sl.mono fun b h => h.2) (hD7.sl.mono fun b h => h.2)).mono ?_
                      rintro e w9 ⟨cv, rfl, hS9, hb9⟩
                      obtain ⟨co, cc, rfl, _, _, _⟩ := hS9.tabs
                      unfold vV
                      dsimp only at *
                      have hE10 : Below w9.heap.size w9 (w9.alloc (.cells #[.slice co bl.length cc, .int .u64 bf, .int .u64 bh, .int .i64 blg', .int .i64 bnx'] 25)) := (Below.refl _ _).alloc (Nat.le_refl _) _
                      have hC10 := (Blk.made w9 #[.slice co bl.length cc, .int .u64 bf, .int .u64 bh, .int .i64 blg', .int .i64 bnx'] 25).cells
                      have hV10 := ((hVc.below hb9).below hE10).cells
                      have hSC := hS9.up hE10
                      have hSB := ((HSV.out.up hX8).up hb9).up hE10
                      have hBF : Below w.heap.size w (w9.alloc (.cells #[.slice co bl.length cc, .int .u64 bf, .int .u64 bh, .int .i64 blg', .int .i64 bnx'] 25)) := ((hBd.trans (Below.mono hX8 hBd.size)).trans (hb9.mono (Nat.le_trans hBd.size hX8.size))).trans (hE10.mono (Nat.le_trans (Nat.le_trans hBd.size hX8.size) hb9.size))
                      clear hPc hAc
                      go_wp2_with fail
                      refine (sameV_ok (.slice xo bl.length xc) (.slice co bl.length cc) ⟨bl, bf, bh, blg', bnx'⟩ _ hSB hSC).mono ?_
                      rintro e w11 ⟨rfl, hb11⟩
                      go_wp2
                      go_ret
                      exact ⟨rfl, hBF.trans (hb11.mono hBF.size)⟩
                  · refine ⟨_, (by simp only [List.getElem?_toArray, List.getElem?_cons_succ, List.getElem?_cons_zero]; rfl), by rfl, fun K hK => ?_⟩
                    go_simp
                    have hA1 := Ext.alloc u1 (.cells #[.slice none 0 0, .slice none 0 0, .int .u64 0, .int .u64 0, .int .i64 0, .int .i64 0] 28)
                    have hO1 := Blk.made u1 #[.slice none 0 0, .slice none 0 0, .int .u64 0, .int .u64 0, .int .i64 0, .int .i64 0] 28
                    have hX1 := Ext.trans hE.out hA1
                    have hp := hE.out.size
                    have hP1 := HD.out.below hA1
                    refine hK.out _ _ hX1 ?_
                    clear hK
                    generalize u1.alloc (.cells #[.slice none 0 0, .slice none 0 0, .int .u64 0, .int .u64 0, .int .i64 0, .int .i64 0] 28) = u2 at *
                    have hE := Lib.hid hX1
                    have HP := Lib.hid hO1
                    have HD := Lib.hid hP1
                    clear hP1
                    clear hA1 hO1 hX1
                    refine WalkN.one 0 (by kernel_rfl) ?_
                    refine ⟨_, (by simp only [List.getElem?_toArray, List.getElem?_cons_zero]; rfl), by rfl, fun K hK => ?_⟩
                    go_simp
                    have hA2 := Ext.alloc u2 (.cells #[] 38)
                    have hO2 := Own.made u2 (B := wd.heap.size) hE.out.size 38 5
                    have hX2 := Ext.trans hE.out hA2
                    have hD2 := HD.out.below hA2
                    have hP2 := HP.out.below hA2
                    refine hK.out _ _ hX2 ?_
                    clear hK
                    generalize u2.alloc (.cells #[] 38) = u3 at *
                    have hE := Lib.hid hX2
                    have HT := Lib.hid hO2
                    have HD := Lib.hid hD2
                    have HP := Lib.hid hP2
                    clear hD2
                    clear hP2
                    clear hA2 hO2 hX2
                    refine WalkN.one 3 (by kernel_rfl) ?_
                    refine ⟨_, (by simp only [List.getElem?_toArray, List.getElem?_cons_succ, List.getElem?_cons_zero]; rfl), by rfl, fun K hK => ?_⟩
                    refine wp_own tabsT (.tmp 71) (.tmp 73) rfl rfl HT.out rfl (HS1.out.same (Same.below hE.out)) (tcs_one _) (by rw [List.length_nil]; omega) (by rw [List.length_nil]; omega) hE.out.size (fun v3 u4 hown hb hg => ?_)
                    have hX3 : Ext wd u4 := Below.trans hE.out hb
                    have hD3 := HD.out.aside HT.out (by decide) hg
                    have hP3 := HP.out.aside HT.out (by decide) hg
                    refine hK.out _ _ hX3 ?_
                    clear hK
                    simp only [Act.put, List.setIfInBounds_toArray, List.set_cons_zero, List.set_cons_succ]
                    have hE := Lib.hid hX3
                    have HT := Lib.hid hown
                    have HD := Lib.hid hD3
                    have HP := Lib.hid hP3
                    clear hD3
                    clear hP3
                    clear hown hb hg hX3
                    refine WalkN.one 6 (by kernel_rfl) ?_
                    refine ⟨_, (by simp only [List.getElem?_toArray, List.getElem?_cons_succ, List.getElem?_cons_zero]; rfl), by rfl, fun K hK => ?_⟩
                    refine wp_own tabsT (.tmp 74) (.tmp 76) rfl rfl HT.out rfl (HS2.out.same (Same.below hE.out)) (tcs_one _) (by rw [List.nil_append]; omega) (by rw [List.nil_append]; omega) hE.out.size (fun v4 u5 hown hb hg => ?_)
                    have hX4 : Ext wd u5 := Below.trans hE.out hb
                    have hD4 := HD.out.aside HT.out (by decide) hg
                    have hP4 := HP.out.aside HT.out (by decide) hg
                    refine hK.out _ _ hX4 ?_
                    clear hK
                    simp only [Act.put, List.setIfInBounds_toArray, List.set_cons_zero, List.set_cons_succ]
                    have hE := Lib.hid hX4
                    have HT := Lib.hid hown
                    have HD := Lib.hid hD4
                    have HP := Lib.hid hP4
                    clear hD4
                    clear hP4
                    clear hown hb hg hX4
                    refine WalkN.one 10 (by kernel_rfl) ?_
                    refine ⟨_, (by simp only [List.getElem?_toArray, List.getElem?_cons_succ, List.getElem?_cons_zero]; rfl), by rfl, fun K hK => ?_⟩
                    refine wp_own intsT (.tmp 78) (.tmp 80) rfl rfl HD.out rfl (HS3.out.same (Same.below hE.out)) (ic_one _) (by rw [List.length_nil]; omega) (by rw [List.length_nil]; omega) hE.out.size (fun v5 u6 hown hb hg => ?_)
                    have hX5 : Ext wd u6 := Below.trans hE.out hb
                    have hD5 := HT.out.aside HD.out (by decide) hg
                    have hP5 := HP.out.aside HD.out (by decide) hg
                    refine hK.out _ _ hX5 ?_
                    clear hK
                    simp only [Act.put, List.setIfInBounds_toArray, List.set_cons_zero, List.set_cons_succ]
                    have hE := Lib.hid hX5
                    have HD := Lib.hid hown
                    have HT := Lib.hid hD5
                    have HP := Lib.hid hP5
                    clear hP5
                    clear hown hb hg hX5 hD5
                    refine WalkN.one 13 (by kernel_rfl) ?_
                    refine ⟨_, (by simp only [List.getElem?_toArray, List.getElem?_cons_succ, List.getElem?_cons_zero]; rfl), by rfl, fun K hK => ?_⟩
                    refine wp_own intsT (.tmp 81) (.tmp 83) rfl rfl HD.out rfl (HS4.out.same (Same.below hE.out)) (ic_one _) (by rw [List.nil_append]; omega) (by rw [List.nil_append]; omega) hE.out.size (fun v6 u7 hown hb hg => ?_)
                    have hX6 : Ext wd u7 := Below.trans hE.out hb
                    have hD6 := HT.out.aside HD.out (by decide) hg
                    have hP6 := HP.out.aside HD.out (by decide) hg
                    refine hK.out _ _ hX6 ?_
                    clear hK
                    simp only [Act.put, List.setIfInBounds_toArray, List.set_cons_zero, List.set_cons_succ]
                    have hE := Lib.hid hX6
                    have HD := Lib.hid hown
                    have HT := Lib.hid hD6
                    have HP := Lib.hid hP6
                    clear hP6
                    clear hown hb hg hX6 hD6
                    obtain ⟨to, tn, tc, rfl, _, _⟩ := HT.out.sl.len
                    obtain ⟨yo, yn, yc, rfl, _, _⟩ := HD.out.sl.len
                    ((refine WalkN.take 34 _ ?_ (by simp only [List.getElem?_toArray, List.getElem?_cons_succ, List.getElem?_cons_zero]; rfl) (by kernel_rfl) (by kernel_rfl) (by rfl) (fun W hW => ?_) ?_; rotate_left; · (go_simp; try with_reducible rfl)); simp only [Act.put, List.setIfInBounds_toArray, List.set_cons_zero, List.set_cons_succ])
                    refine WalkN.one 36 (by kernel_rfl) ?_
                    have hPc := HP.out.cells
                    have hPf := HP.out.free
                    refine ⟨_, (by simp only [List.getElem?_toArray, List.getElem?_cons_succ, List.getElem?_cons_zero]; rfl), by rfl, fun K hK => ?_⟩
                    go_simp
                    have hX7 := below_set6 (b0 := .slice to tn tc) (b1 := .slice yo yn yc) (b2 := .int .u64 mf) (b3 := .int .u64 mh) (b4 := .int .i64 (max elg blg)) (b5 := .int .i64 (max enx bnx)) hE.out hp
                    have hT7 := own_set6 (b0 := .slice to tn tc) (b1 := .slice yo yn yc) (b2 := .int .u64 mf) (b3 := .int .u64 mh) (b4 := .int .i64 (max elg blg)) (b5 := .int .i64 (max enx bnx)) HT.out HP.out (by decide)
                    have hD7 := own_set6 (b0 := .slice to tn tc) (b1 := .slice yo yn yc) (b2 := .int .u64 mf) (b3 := .int .u64 mh) (b4 := .int .i64 (max elg blg)) (b5 := .int .i64 (max enx bnx)) HD.out HP.out (by decide)
                    have hP7 := blk_set6 (b0 := .slice to tn tc) (b1 := .slice yo yn yc) (b2 := .int .u64 mf) (b3 := .int .u64 mh) (b4 := .int .i64 (max elg blg)) (b5 := .int .i64 (max enx bnx)) HP.out
                    refine hK.out _ _ hX7 ?_
                    clear hK hPc hPf
                    generalize (((((u7.setCell ⟨_, 0, none⟩ (.slice to tn tc)).setCell ⟨_, 1, none⟩ (.slice yo yn yc)).setCell ⟨_, 2, none⟩ (.int .u64 mf)).setCell ⟨_, 3, none⟩ (.int .u64 mh)).setCell ⟨_, 4, none⟩ (.int .i64 (max elg blg))).setCell ⟨_, 5, none⟩ (.int .i64 (max enx bnx)) = u8 at *
                    clear HP HT HD hE
                    refine WalkN.done (by kernel_rfl) ?_
                    have hX8 : Ext wd u8 := hX7
                    rw [List.nil_append, ← tcs_append] at hT7
                    rw [List.nil_append, ← ic_append] at hD7
                    have hPc := hP7.cells
                    have hAc := (hAd.below hX8).cells
                    have hVc := (hVd.below hX8)
                    go_wp2_with fail
                    refine (HP3'.out _ _ _ (HTV.out.up hX8) (hT7.sl.mono fun b h => h.2) (hD7.sl.mono fun b h => h.2)).mono ?_
                    rintro e w9 ⟨cv, rfl, hS9, hb9⟩
                    obtain ⟨co, cc, rfl, _, _, _⟩ := hS9.tabs
                    unfold vV
                    dsimp only at *
                    have hE10 : Below w9.heap.size w9 (w9.alloc (.cells #[.slice co bl.length cc, .int .u64 bf, .int .u64 bh, .int .i64 blg', .int .i64 bnx'] 25)) := (Below.refl _ _).alloc (Nat.le_refl _) _
                    have hC10 := (Blk.made w9 #[.slice co bl.length cc, .int .u64 bf, .int .u64 bh, .int .i64 blg', .int .i64 bnx'] 25).cells
                    have hV10 := ((hVc.below hb9).below hE10).cells
                    have hSC := hS9.up hE10
                    have hSB := ((HSV.out.up hX8).up hb9).up hE10
                    have hBF : Below w.heap.size w (w9.alloc (.cells #[.slice co bl.length cc, .int .u64 bf, .int .u64 bh, .int .i64 blg', .int .i64 bnx'] 25)) := ((hBd.trans (Below.mono hX8 hBd.size)).trans (hb9.mono (Nat.le_trans hBd.size hX8.size))).trans (hE10.mono (Nat.le_trans (Nat.le_trans hBd.size hX8.size) hb9.size))
                    clear hPc hAc
                    go_wp2_with fail
                    refine (sameV_ok (.slice xo bl.length xc) (.slice co bl.length cc) ⟨bl, bf, bh, blg', bnx'⟩ _ hSB hSC).mono ?_
                    rintro e w11 ⟨rfl, hb11⟩
                    go_wp2
                    go_ret
                    exact ⟨rfl, hBF.trans (hb11.mono hBF.size)⟩
                · refine ⟨_, (by simp only [List.getElem?_toArray, List.getElem?_cons_succ, List.getElem?_cons_zero]; rfl), by rfl, fun K hK => ?_⟩
                  go_simp
                  have hA0 := Ext.alloc wd (.cells #[.slice none 0 0, .slice none 0 0, .int .u64 0, .int .u64 0, .int .i64 0, .int .i64 0] 28)
                  have hO0 := Blk.made wd #[.slice none 0 0, .slice none 0 0, .int .u64 0, .int .u64 0, .int .i64 0, .int .i64 0] 28
                  have hX0 := Ext.trans hE.out hA0
                  have hp := hE.out.size
                  refine hK.out _ _ hX0 ?_
                  clear hK
                  generalize wd.alloc (.cells #[.slice none 0 0, .slice none 0 0, .int .u64 0, .int .u64 0, .int .i64 0, .int .i64 0] 28) = u1 at *
                  have hE := Lib.hid hX0
                  have HP := Lib.hid hO0
                  clear hA0 hO0 hX0
                  refine WalkN.two 0 7 (by kernel_rfl) ?_ ?_
                  · refine ⟨_, (by simp only [List.getElem?_toArray, List.getElem?_cons_zero]; rfl), by rfl, fun K hK => ?_⟩
                    go_simp
                    have hA1 := Ext.alloc u1 (.cells #[] 38)
                    have hO1 := Own.made u1 (B := wd.heap.size) hE.out.size 38 5
                    have hX1 := Ext.trans hE.out hA1
                    have hP1 := HP.out.below hA1
                    refine hK.out _ _ hX1 ?_
                    clear hK
                    generalize u1.alloc (.cells #[] 38) = u2 at *
                    have hE := Lib.hid hX1
                    have HT := Lib.hid hO1
                    have HP := Lib.hid hP1
                    clear hP1
                    clear hA1 hO1 hX1
                    refine WalkN.two 3 7 (by kernel_rfl) ?_ ?_
                    · refine ⟨_, (by simp only [List.getElem?_toArray, List.getElem?_cons_succ, List.getElem?_cons_zero]; rfl), by rfl, fun K hK => ?_⟩
                      refine wp_own tabsT (.tmp 71) (.tmp 73) rfl rfl HT.out rfl (HS1.out.same (Same.below hE.out)) (tcs_one _) (by rw [List.length_nil]; omega) (by rw [List.length_nil]; omega) hE.out.size (fun v2 u3 hown hb hg => ?_)
                      have hX2 : Ext wd u3 := Below.trans hE.out hb
                      have hP2 := HP.out.aside HT.out (by decide) hg
                      refine hK.out _ _ hX2 ?_
                      clear hK
                      simp only [Act.put, List.setIfInBounds_toArray, List.set_cons_zero, List.set_cons_succ]
                      have hE := Lib.hid hX2
                      have HT := Lib.hid hown
                      have HP := Lib.hid hP2
                      clear hP2
                      clear hown hb hg hX2
                      refine WalkN.two 6 7 (by kernel_rfl) ?_ ?_
                      · refine ⟨_, (by simp only [List.getElem?_toArray, List.getElem?_cons_succ, List.getElem?_cons_zero]; rfl), by rfl, fun K hK => ?_⟩
                        refine wp_own tabsT (.tmp 74) (.tmp 76) rfl rfl HT.out rfl (HS2.out.same (Same.below hE.out)) (tcs_one _) (by rw [List.nil_append]; omega) (by rw [List.nil_append]; omega) hE.out.size (fun v3 u4 hown hb hg => ?_)
                        have hX3 : Ext wd u4 := Below.trans hE.out hb
                        have hP3 := HP.out.aside HT.out (by decide) hg
                        refine hK.out _ _ hX3 ?_
                        clear hK
                        simp only [Act.put, List.setIfInBounds_toArray, List.set_cons_zero, List.set_cons_succ]
                        have hE := Lib.hid hX3
                        have HT := Lib.hid hown
                        have HP := Lib.hid hP3
                        clear hP3
                        clear hown hb hg hX3
                        refine WalkN.one 7 (by kernel_rfl) ?_
                        refine ⟨_, (by simp only [List.getElem?_toArray, List.getElem?_cons_succ, List.getElem?_cons_zero]; rfl), by rfl, fun K hK => ?_⟩
                        go_simp
                        have hA4 := Ext.alloc u4 (.cells #[] 3)
                        have hO4 := Own.made u4 (B := wd.heap.size) hE.out.size 3 1
                        have hX4 := Ext.trans hE.out hA4
                        have hD4 := HT.out.below hA4
                        have hP4 := HP.out.below hA4
                        refine hK.out _ _ hX4 ?_
                        clear hK
                        generalize u4.alloc (.cells #[] 3) = u5 at *
                        have hE := Lib.hid hX4
                        have HD := Lib.hid hO4
                        have HT := Lib.hid hD4
                        have HP := Lib.hid hP4
                        clear hD4
                        clear hP4
                        clear hA4 hO4 hX4
                        refine WalkN.one 10 (by kernel_rfl) ?_
                        refine ⟨_, (by simp only [List.getElem?_toArray, List.getElem?_cons_succ, List.getElem?_cons_zero]; rfl), by rfl, fun K hK => ?_⟩
                        refine wp_own intsT (.tmp 78) (.tmp 80) rfl rfl HD.out rfl (HS3.out.same (Same.below hE.out)) (ic_one _) (by rw [List.length_nil]; omega) (by rw [List.length_nil]; omega) hE.out.size (fun v5 u6 hown hb hg => ?_)
                        have hX5 : Ext wd u6 := Below.trans hE.out hb
                        have hD5 := HT.out.aside HD.out (by decide) hg
                        have hP5 := HP.out.aside HD.out (by decide) hg
                        refine hK.out _ _ hX5 ?_
                        clear hK
                        simp only [Act.put, List.setIfInBounds_toArray, List.set_cons_zero, List.set_cons_succ]
                        have hE := Lib.hid hX5
                        have HD := Lib.hid hown
                        have HT := Lib.hid hD5
                        have HP := Lib.hid hP5
                        clear hP5
                        clear hown hb hg hX5 hD5
                        refine WalkN.one 13 (by kernel_rfl) ?_
                        refine ⟨_, (by simp only [List.getElem?_toArray, List.getElem?_cons_succ, List.getElem?_cons_zero]; rfl), by rfl, fun K hK => ?_⟩
                        refine wp_own intsT (.tmp 81) (.tmp 83) rfl rfl HD.out rfl (HS4.out.same (Same.below hE.out)) (ic_one _) (by rw [List.nil_append]; omega) (by rw [List.nil_append]; omega) hE.out.size (fun v6 u7 hown hb hg => ?_)
                        have hX6 : Ext wd u7 := Below.trans hE.out hb
                        have hD6 := HT.out.aside HD.out (by decide) hg
                        have hP6 := HP.out.aside HD.out (by decide) hg
                        refine hK.out _ _ hX6 ?_
                        clear hK
                        simp only [Act.put, List.setIfInBounds_toArray, List.set_cons_zero, List.set_cons_succ]
                        have hE := Lib.hid hX6
                        have HD := Lib.hid hown
                        have HT := Lib.hid hD6
                        have HP := Lib.hid hP6
                        clear hP6
                        clear hown hb hg hX6 hD6
                        obtain ⟨to, tn, tc, rfl, _, _⟩ := HT.out.sl.len
                        obtain ⟨yo, yn, yc, rfl, _, _⟩ := HD.out.sl.len
                        ((refine WalkN.take 34 _ ?_ (by simp only [List.getElem?_toArray, List.getElem?_cons_succ, List.getElem?_cons_zero]; rfl) (by kernel_rfl) (by kernel_rfl) (by rfl) (fun W hW => ?_) ?_; rotate_left; · (go_simp; try with_reducible rfl)); simp only [Act.put, List.setIfInBounds_toArray, List.set_cons_zero, List.set_cons_succ])
                        refine WalkN.one 36 (by kernel_rfl) ?_
                        have hPc := HP.out.cells
                        have hPf := HP.out.free
                        refine ⟨_, (by simp only [List.getElem?_toArray, List.getElem?_cons_succ, List.getElem?_cons_zero]; rfl), by rfl, fun K hK => ?_⟩
                        go_simp
                        have hX7 := below_set6 (b0 := .slice to tn tc) (b1 := .slice yo yn yc) (b2 := .int .u64 mf) (b3 := .int .u64 mh) (b4 := .int .i64 (max elg blg)) (b5 := .int .i64 (max enx bnx)) hE.out hp
                        have hT7 := own_set6 (b0 := .slice to tn tc) (b1 := .slice yo yn yc) (b2 := .int .u64 mf) (b3 := .int .u64 mh) (b4 := .int .i64 (max elg blg)) (b5 := .int .i64 (max enx bnx)) HT.out HP.out (by decide)
                        have hD7 := own_set6 (b0 := .slice to tn tc) (b1 := .slice yo yn yc) (b2 := .int .u64 mf) (b3 := .int .u64 mh) (b4 := .int .i64 (max elg blg)) (b5 := .int .i64 (max enx bnx)) HD.out HP.out (by decide)
                        have hP7 := blk_set6 (b0 := .slice to tn tc) (b1 := .slice yo yn yc) (b2 := .int .u64 mf) (b3 := .int .u64 mh) (b4 := .int .i64 (max elg blg)) (b5 := .int .i64 (max enx bnx)) HP.out
                        refine hK.out _ _ hX7 ?_
                        clear hK hPc hPf
                        generalize (((((u7.setCell ⟨_, 0, none⟩ (.slice to tn tc)).setCell ⟨_, 1, none⟩ (.slice yo yn yc)).setCell ⟨_, 2, none⟩ (.int .u64 mf)).setCell ⟨_, 3, none⟩ (.int .u64 mh)).setCell ⟨_, 4, none⟩ (.int .i64 (max elg blg))).setCell ⟨_, 5, none⟩ (.int .i64 (max enx bnx)) = u8 at *
                        clear HP HT HD hE
                        refine WalkN.done (by kernel_rfl) ?_
                        have hX8 : Ext wd u8 := hX7
                        rw [List.nil_append, ← tcs_append] at hT7
                        rw [List.nil_append, ← ic_append] at hD7
                        have hPc := hP7.cells
                        have hAc := (hAd.below hX8).cells
                        have hVc := (hVd.below hX8)
                        go_wp2_with fail
                        refine (HP3'.out _ _ _ (HTV.out.up hX8) (hT7.sl.mono fun b h => h.2) (hD7.sl.mono fun b h => h.2)).mono ?_
                        rintro e w9 ⟨cv, rfl, hS9, hb9⟩
                        obtain ⟨co, cc, rfl, _, _, _⟩ := hS9.tabs
                        unfold vV
                        dsimp only at *
                        have hE10 : Below w9.heap.size w9 (w9.alloc (.cells #[.slice co bl.length cc, .int .u64 bf, .int .u64 bh, .int .i64 blg', .int .i64 bnx'] 25)) := (Below.refl _ _).alloc (Nat.le_refl _) _
                        have hC10 := (Blk.made w9 #[.slice co bl.length cc, .int .u64 bf, .int .u64 bh, .int .i64 blg', .int .i64 bnx'] 25).cells
                        have hV10 := ((hVc.below hb9).below hE10).cells
                        have hSC := hS9.up hE10
                        have hSB := ((HSV.out.up hX8).up hb9).up hE10
                        have hBF : Below w.heap.size w (w9.alloc (.cells #[.slice co bl.length cc, .int .u64 bf, .int .u64 bh, .int .i64 blg', .int .i64 bnx'] 25)) := ((hBd.trans (Below.mono hX8 hBd.size)).trans (hb9.mono (Nat.le_trans hBd.size hX8.size))).trans (hE10.mono (Nat.le_trans (Nat.le_trans hBd.size hX8.size) hb9.size))
                        clear hPc hAc
                        go_wp2_with fail
                        refine (sameV_ok (.slice xo bl.length xc) (.slice co bl.length cc) ⟨bl, bf, bh, blg', bnx'⟩ _ hSB hSC).mono ?_
                        rintro e w11 ⟨rfl, hb11⟩
                        go_wp2
                        go_ret
                        exact ⟨rfl, hBF.trans (hb11.mono hBF.size)⟩
                      · refine ⟨_, (by simp only [List.getElem?_toArray, List.getElem?_cons_succ, List.getElem?_cons_zero]; rfl), by rfl, fun K hK => ?_⟩
                        go_simp
                        have hA3 := Ext.alloc u3 (.cells #[] 3)
                        have hO3 := Own.made u3 (B := wd.heap.size) hE.out.size 3 1
                        have hX3 := Ext.trans hE.out hA3
                        have hD3 := HT.out.below hA3
                        have hP3 := HP.out.below hA3
                        refine hK.out _ _ hX3 ?_
                        clear hK
                        generalize u3.alloc (.cells #[] 3) = u4 at *
                        have hE := Lib.hid hX3
                        have HD := Lib.hid hO3
                        have HT := Lib.hid hD3
                        have HP := Lib.hid hP3
                        clear hD3
                        clear hP3
                        clear hA3 hO3 hX3
                        refine WalkN.one 6 (by kernel_rfl) ?_
                        refine ⟨_, (by simp only [List.getElem?_toArray, List.getElem?_cons_succ, List.getElem?_cons_zero]; rfl), by rfl, fun K hK => ?_⟩
                        refine wp_own tabsT (.tmp 74) (.tmp 76) rfl rfl HT.out rfl (HS2.out.same (Same.below hE.out)) (tcs_one _) (by rw [List.nil_append]; omega) (by rw [List.nil_append]; omega) hE.out.size (fun v4 u5 hown hb hg => ?_)
                        have hX4 : Ext wd u5 := Below.trans hE.out hb
                        have hD4 := HD.out.aside HT.out (by decide) hg
                        have hP4 := HP.out.aside HT.out (by decide) hg
                        refine hK.out _ _ hX4 ?_
                        clear hK
                        simp only [Act.put, List.setIfInBounds_toArray, List.set_cons_zero, List.set_cons_succ]
                        have hE := Lib.hid hX4
                        have HT := Lib.hid hown
                        have HD := Lib.hid hD4
                        have HP := Lib.hid hP4
                        clear hD4
                        clear hP4
                        clear hown hb hg hX4
                        refine WalkN.one 10 (by kernel_rfl) ?_
                        refine ⟨_, (by simp only [List.getElem?_toArray, List.getElem?_cons_succ, List.getElem?_cons_zero]; rfl), by rfl, fun K hK => ?_⟩
                        refine wp_own intsT (.tmp 78) (.tmp 80) rfl rfl HD.out rfl (HS3.out.same (Same.below hE.out)) (ic_one _) (by rw [List.length_nil]; omega) (by rw [List.length_nil]; omega) hE.out.size (fun v5 u6 hown hb hg => ?_)
                        have hX5 : Ext wd u6 := Below.trans hE.out hb
                        have hD5 := HT.out.aside HD.out (by decide) hg
                        have hP5 := HP.out.aside HD.out (by decide) hg
                        refine hK.out _ _ hX5 ?_
                        clear hK
                        simp only [Act.put, List.setIfInBounds_toArray, List.set_cons_zero, List.set_cons_succ]
                        have hE := Lib.hid hX5
                        have HD := Lib.hid hown
                        have HT := Lib.hid hD5
                        have HP := Lib.hid hP5
                        clear hP5
                        clear hown hb hg hX5 hD5
                        refine WalkN.one 13 (by kernel_rfl) ?_
                        refine ⟨_, (by simp only [List.getElem?_toArray, List.getElem?_cons_succ, List.getElem?_cons_zero]; rfl), by rfl, fun K hK => ?_⟩
                        refine wp_own intsT (.tmp 81) (.tmp 83) rfl rfl HD.out rfl (HS4.out.same (Same.below hE.out)) (ic_one _) (by rw [List.nil_append]; omega) (by rw [List.nil_append]; omega) hE.out.size (fun v6 u7 hown hb hg => ?_)
                        have hX6 : Ext wd u7 := Below.trans hE.out hb
                        have hD6 := HT.out.aside HD.out (by decide) hg
                        have hP6 := HP.out.aside HD.out (by decide) hg
                        refine hK.out _ _ hX6 ?_
                        clear hK
                        simp only [Act.put, List.setIfInBounds_toArray, List.set_cons_zero, List.set_cons_succ]
                        have hE := Lib.hid hX6
                        have HD := Lib.hid hown
                        have HT := Lib.hid hD6
                        have HP := Lib.hid hP6
                        clear hP6
                        clear hown hb hg hX6 hD6
                        obtain ⟨to, tn, tc, rfl, _, _⟩ := HT.out.sl.len
                        obtain ⟨yo, yn, yc, rfl, _, _⟩ := HD.out.sl.len
                        ((refine WalkN.take 34 _ ?_ (by simp only [List.getElem?_toArray, List.getElem?_cons_succ, List.getElem?_cons_zero]; rfl) (by kernel_rfl) (by kernel_rfl) (by rfl) (fun W hW => ?_) ?_; rotate_left; · (go_simp; try with_reducible rfl)); simp only [Act.put, List.setIfInBounds_toArray, List.set_cons_zero, List.set_cons_succ])
                        refine WalkN.one 36 (by kernel_rfl) ?_
                        have hPc := HP.out.cells
                        have hPf := HP.out.free
                        refine ⟨_, (by simp only [List.getElem?_toArray, List.getElem?_cons_succ, List.getElem?_cons_zero]; rfl), by rfl, fun K hK => ?_⟩
                        go_simp
                        have hX7 := below_set6 (b0 := .slice to tn tc) (b1 := .slice yo yn yc) (b2 := .int .u64 mf) (b3 := .int .u64 mh) (b4 := .int .i64 (max elg blg)) (b5 := .int .i64 (max enx bnx)) hE.out hp
                        have hT7 := own_set6 (b0 := .slice to tn tc) (b1 := .slice yo yn yc) (b2 := .int .u64 mf) (b3 := .int .u64 mh) (b4 := .int .i64 (max elg blg)) (b5 := .int .i64 (max enx bnx)) HT.out HP.out (by decide)
                        have hD7 := own_set6 (b0 := .slice to tn tc) (b1 := .slice yo yn yc) (b2 := .int .u64 mf) (b3 := .int .u64 mh) (b4 := .int .i64 (max elg blg)) (b5 := .int .i64 (max enx bnx)) HD.out HP.out (by decide)
                        have hP7 := blk_set6 (b0 := .slice to tn tc) (b1 := .slice yo yn yc) (b2 := .int .u64 mf) (b3 := .int .u64 mh) (b4 := .int .i64 (max elg blg)) (b5 := .int .i64 (max enx bnx)) HP.out
                        refine hK.out _ _ hX7 ?_
                        clear hK hPc hPf
                        generalize (((((u7.setCell ⟨_, 0, none⟩ (.slice to tn tc)).setCell ⟨_, 1, none⟩ (.slice yo yn yc)).setCell ⟨_, 2, none⟩ (.int .u64 mf)).setCell ⟨_, 3, none⟩ (.int .u64 mh)).setCell ⟨_, 4, none⟩ (.int .i64 (max elg blg))).setCell ⟨_, 5, none⟩ (.int .i64 (max enx bnx)) = u8 at *
                        clear HP HT HD hE
                        refine WalkN.done (by kernel_rfl) ?_
                        have hX8 : Ext wd u8 := hX7
                        rw [List.nil_append, ← tcs_append] at hT7
                        rw [List.nil_append, ← ic_append] at hD7
                        have hPc := hP7.cells
                        have hAc := (hAd.below hX8).cells
                        have hVc := (hVd.below hX8)
                        go_wp2_with fail
                        refine (HP3'.out _ _ _ (HTV.out.up hX8) (hT7.sl.mono fun b h => h.2) (hD7.sl.mono fun b h => h.2)).mono ?_
                        rintro e w9 ⟨cv, rfl, hS9, hb9⟩
                        obtain ⟨co, cc, rfl, _, _, _⟩ := hS9.tabs
                        unfold vV
                        dsimp only at *
                        have hE10 : Below w9.heap.size w9 (w9.alloc (.cells #[.slice co bl.length cc, .int .u64 bf, .int .u64 bh, .int .i64 blg', .int .i64 bnx'] 25)) := (Below.refl _ _).alloc (Nat.le_refl _) _
                        have hC10 := (Blk.made w9 #[.slice co bl.length cc, .int .u64 bf, .int .u64 bh, .int .i64 blg', .int .i64 bnx'] 25).cells
                        have hV10 := ((hVc.below hb9).below hE10).cells
                        have hSC := hS9.up hE10
                        have hSB := ((HSV.out.up hX8).up hb9).up hE10
                        have hBF : Below w.heap.size w (w9.alloc (.cells #[.slice co bl.length cc, .int .u64 bf, .int .u64 bh, .int .i64 blg', .int .i64 bnx'] 25)) := ((hBd.trans (Below.mono hX8 hBd.size)).trans (hb9.mono (Nat.le_trans hBd.size hX8.size))).trans (hE10.mono (Nat.le_trans (Nat.le_trans hBd.size hX8.size) hb9.size))
                        clear hPc hAc
                        go_wp2_with fail
                        refine (sameV_ok (.slice xo bl.length xc) (.slice co bl.length cc) ⟨bl, bf, bh, blg', bnx'⟩ _ hSB hSC).mono ?_
                        rintro e w11 ⟨rfl, hb11⟩
                        go_wp2
                        go_ret
                        exact ⟨rfl, hBF.trans (hb11.mono hBF.size)⟩
                    · refine ⟨_, (by simp only [List.getElem?_toArray, List.getElem?_cons_succ, List.getElem?_cons_zero]; rfl), by rfl, fun K hK => ?_⟩
                      go_simp
                      have hA2 := Ext.alloc u2 (.cells #[] 3)
                      have hO2 := Own.made u2 (B := wd.heap.size) hE.out.size 3 1
                      have hX2 := Ext.trans hE.out hA2
                      have hD2 := HT.out.below hA2
                      have hP2 := HP.out.below hA2
                      refine hK.out _ _ hX2 ?_
                      clear hK
                      generalize u2.alloc (.cells #[] 3) = u3 at *
                      have hE := Lib.hid hX2
                      have HD := Lib.hid hO2
                      have HT := Lib.hid hD2
                      have HP := Lib.hid hP2
                      clear hD2
                      clear hP2
                      clear hA2 hO2 hX2
                      refine WalkN.one 3 (by kernel_rfl) ?_
                      refine ⟨_, (by simp only [List.getElem?_toArray, List.getElem?_cons_succ, List.getElem?_cons_zero]; rfl), by rfl, fun K hK => ?_⟩
                      refine wp_own tabsT (.tmp 71) (.tmp 73) rfl rfl HT.out rfl (HS1.out.same (Same.below hE.out)) (tcs_one _) (by rw [List.length_nil]; omega) (by rw [List.length_nil]; omega) hE.out.size (fun v3 u4 hown hb hg => ?_)
                      have hX3 : Ext wd u4 := Below.trans hE.out hb
                      have hD3 := HD.out.aside HT.out (by decide) hg
                      have hP3 := HP.out.aside HT.out (by decide) hg
                      refine hK.out _ _ hX3 ?_
                      clear hK
                      simp only [Act.put, List.setIfInBounds_toArray, List.set_cons_zero, List.set_cons_succ]
                      have hE := Lib.hid hX3
                      have HT := Lib.hid hown
                      have HD := Lib.hid hD3
                      have HP := Lib.hid hP3
                      clear hD3
                      clear hP3
                      clear hown hb hg hX3
                      refine WalkN.one 6 (by kernel_rfl) ?_
                      refine ⟨_, (by simp only [List.getElem?_toArray, List.getElem?_cons_succ, List.getElem?_cons_zero]; rfl), by rfl, fun K hK => ?_⟩
                      refine wp_own tabsT (.tmp 74) (.tmp 76) rfl rfl HT.out rfl (HS2.out.same (Same.below hE.out)) (tcs_one _) (by rw [List.nil_append]; omega) (by rw [List.nil_append]; omega) hE.out.size (fun v4 u5 hown hb hg => ?_)
                      have hX4 : Ext wd u5 := Below.trans hE.out hb
                      have hD4 := HD.out.aside HT.out (by decide) hg
                      have hP4 := HP.out.aside HT.out (by decide) hg
                      refine hK.out _ _ hX4 ?_
                      clear hK
                      simp only [Act.put, List.setIfInBounds_toArray, List.set_cons_zero, List.set_cons_succ]
                      have hE := Lib.hid hX4
                      have HT := Lib.hid hown
                      have HD := Lib.hid hD4
                      have HP := Lib.hid hP4
                      clear hD4
                      clear hP4
                      clear hown hb hg hX4
                      refine WalkN.one 10 (by kernel_rfl) ?_
                      refine ⟨_, (by simp only [List.getElem?_toArray, List.getElem?_cons_succ, List.getElem?_cons_zero]; rfl), by rfl, fun K hK => ?_⟩
                      refine wp_own intsT (.tmp 78) (.tmp 80) rfl rfl HD.out rfl (HS3.out.same (Same.below hE.out)) (ic_one _) (by rw [List.length_nil]; omega) (by rw [List.length_nil]; omega) hE.out.size (fun v5 u6 hown hb hg => ?_)
                      have hX5 : Ext wd u6 := Below.trans hE.out hb
                      have hD5 := HT.out.aside HD.out (by decide) hg
                      have hP5 := HP.out.aside HD.out (by decide) hg
                      refine hK.out _ _ hX5 ?_
                      clear hK
                      simp only [Act.put, List.setIfInBounds_toArray, List.set_cons_zero, List.set_cons_succ]
                      have hE := Lib.hid hX5
                      have HD := Lib.hid hown
                      have HT := Lib.hid hD5
                      have HP := Lib.hid hP5
                      clear hP5
                      clear hown hb hg hX5 hD5
                      refine WalkN.one 13 (by kernel_rfl) ?_
                      refine ⟨_, (by simp only [List.getElem?_toArray, List.getElem?_cons_succ, List.getElem?_cons_zero]; rfl), by rfl, fun K hK => ?_⟩
                      refine wp_own intsT (.tmp 81) (.tmp 83) rfl rfl HD.out rfl (HS4.out.same (Same.below hE.out)) (ic_one _) (by rw [List.nil_append]; omega) (by rw [List.nil_append]; omega) hE.out.size (fun v6 u7 hown hb hg => ?_)
                      have hX6 : Ext wd u7 := Below.trans hE.out hb
                      have hD6 := HT.out.aside HD.out (by decide) hg
                      have hP6 := HP.out.aside HD.out (by decide) hg
                      refine hK.out _ _ hX6 ?_
                      clear hK
                      simp only [Act.put, List.setIfInBounds_toArray, List.set_cons_zero, List.set_cons_succ]
                      have hE := Lib.hid hX6
                      have HD := Lib.hid hown
                      have HT := Lib.hid hD6
                      have HP := Lib.hid hP6
                      clear hP6
                      clear hown hb hg hX6 hD6
                      obtain ⟨to, tn, tc, rfl, _, _⟩ := HT.out.sl.len
                      obtain ⟨yo, yn, yc, rfl, _, _⟩ := HD.out.sl.len
                      ((refine WalkN.take 34 _ ?_ (by simp only [List.getElem?_toArray, List.getElem?_cons_succ, List.getElem?_cons_zero]; rfl) (by kernel_rfl) (by kernel_rfl) (by rfl) (fun W hW => ?_) ?_; rotate_left; · (go_simp; try with_reducible rfl)); simp only [Act.put, List.setIfInBounds_toArray, List.set_cons_zero, List.set_cons_succ])
                      refine WalkN.one 36 (by kernel_rfl) ?_
                      have hPc := HP.out.cells
                      have hPf := HP.out.free
                      refine ⟨_, (by simp only [List.getElem?_toArray, List.getElem?_cons_succ, List.getElem?_cons_zero]; rfl), by rfl, fun K hK => ?_⟩
                      go_simp
                      have hX7 := below_set6 (b0 := .slice to tn tc) (b1 := .slice yo yn yc) (b2 := .int .u64 mf) (b3 := .int .u64 mh) (b4 := .int .i64 (max elg blg)) (b5 := .int .i64 (max enx bnx)) hE.out hp
                      have hT7 := own_set6 (b0 := .slice to tn tc) (b1 := .slice yo yn yc) (b2 := .int .u64 mf) (b3 := .int .u64 mh) (b4 := .int .i64 (max elg blg)) (b5 := .int .i64 (max enx bnx)) HT.out HP.out (by decide)
                      have hD7 := own_set6 (b0 := .slice to tn tc) (b1 := .slice yo yn yc) (b2 := .int .u64 mf) (b3 := .int .u64 mh) (b4 := .int .i64 (max elg blg)) (b5 := .int .i64 (max enx bnx)) HD.out HP.out (by decide)
                      have hP7 := blk_set6 (b0 := .slice to tn tc) (b1 := .slice yo yn yc) (b2 := .int .u64 mf) (b3 := .int .u64 mh) (b4 := .int .i64 (max elg blg)) (b5 := .int .i64 (max enx bnx)) HP.out
                      refine hK.out _ _ hX7 ?_
                      clear hK hPc hPf
                      generalize (((((u7.setCell ⟨_, 0, none⟩ (.slice to tn tc)).setCell ⟨_, 1, none⟩ (.slice yo yn yc)).setCell ⟨_, 2, none⟩ (.int .u64 mf)).setCell ⟨_, 3, none⟩ (.int .u64 mh)).setCell ⟨_, 4, none⟩ (.int .i64 (max elg blg))).setCell ⟨_, 5, none⟩ (.int .i64 (max enx bnx)) = u8 at *
                      clear HP HT HD hE
                      refine WalkN.done (by kernel_rfl) ?_
                      have hX8 : Ext wd u8 := hX7
                      rw [List.nil_append, ← tcs_append] at hT7
                      rw [List.nil_append, ← ic_append] at hD7
                      have hPc := hP7.cells
                      have hAc := (hAd.below hX8).cells
                      have hVc := (hVd.below hX8)
                      go_wp2_with fail
                      refine (HP3'.out _ _ _ (HTV.out.up hX8) (hT7.sl.mono fun b h => h.2) (hD7.sl.mono fun b h => h.2)).mono ?_
                      rintro e w9 ⟨cv, rfl, hS9, hb9⟩
                      obtain ⟨co, cc, rfl, _, _, _⟩ := hS9.tabs
                      unfold vV
                      dsimp only at *
                      have hE10 : Below w9.heap.size w9 (w9.alloc (.cells #[.slice co bl.length cc, .int .u64 bf, .int .u64 bh, .int .i64 blg', .int .i64 bnx'] 25)) := (Below.refl _ _).alloc (Nat.le_refl _) _
                      have hC10 := (Blk.made w9 #[.slice co bl.length cc, .int .u64 bf, .int .u64 bh, .int .i64 blg', .int .i64 bnx'] 25).cells
                      have hV10 := ((hVc.below hb9).below hE10).cells
                      have hSC := hS9.up hE10
                      have hSB := ((HSV.out.up hX8).up hb9).up hE10
                      have hBF : Below w.heap.size w (w9.alloc (.cells #[.slice co bl.length cc, .int .u64 bf, .int .u64 bh, .int .i64 blg', .int .i64 bnx'] 25)) := ((hBd.trans (Below.mono hX8 hBd.size)).trans (hb9.mono (Nat.le_trans hBd.size hX8.size))).trans (hE10.mono (Nat.le_trans (Nat.le_trans hBd.size hX8.size) hb9.size))
                      clear hPc hAc
                      go_wp2_with fail
                      refine (sameV_ok (.slice xo bl.length xc) (.slice co bl.length cc) ⟨bl, bf, bh, blg', bnx'⟩ _ hSB hSC).mono ?_
                      rintro e w11 ⟨rfl, hb11⟩
                      go_wp2
                      go_ret
                      exact ⟨rfl, hBF.trans (hb11.mono hBF.size)⟩
                  · refine ⟨_, (by simp only [List.getElem?_toArray, List.getElem?_cons_succ, List.getElem?_cons_zero]; rfl), by rfl, fun K hK => ?_⟩
                    go_simp
                    have hA1 := Ext.alloc u1 (.cells #[] 3)
                    have hO1 := Own.made u1 (B := wd.heap.size) hE.out.size 3 1
                    have hX1 := Ext.trans hE.out hA1
                    have hP1 := HP.out.below hA1
                    refine hK.out _ _ hX1 ?_
                    clear hK
                    generalize u1.alloc (.cells #[] 3) = u2 at *
                    have hE := Lib.hid hX1
                    have HD := Lib.hid hO1
                    have HP := Lib.hid hP1
                    clear hP1
                    clear hA1 hO1 hX1
                    refine WalkN.one 0 (by kernel_rfl) ?_
                    refine ⟨_, (by simp only [List.getElem?_toArray, List.getElem?_cons_zero]; rfl), by rfl, fun K hK => ?_⟩
                    go_simp
                    have hA2 := Ext.alloc u2 (.cells #[] 38)
                    have hO2 := Own.made u2 (B := wd.heap.size) hE.out.size 38 5
                    have hX2 := Ext.trans hE.out hA2
                    have hD2 := HD.out.below hA2
                    have hP2 := HP.out.below hA2
                    refine hK.out _ _ hX2 ?_
                    clear hK
                    generalize u2.alloc (.cells #[] 38) = u3 at *
                    have hE := Lib.hid hX2
                    have HT := Lib.hid hO2
                    have HD := Lib.hid hD2
                    have HP := Lib.hid hP2
                    clear hD2
                    clear hP2
                    clear hA2 hO2 hX2
                    refine WalkN.one 3 (by kernel_rfl) ?_
                    refine ⟨_, (by simp only [List.getElem?_toArray, List.getElem?_cons_succ, List.getElem?_cons_zero]; rfl), by rfl, fun K hK => ?_⟩
                    refine wp_own tabsT (.tmp 71) (.tmp 73) rfl rfl HT.out rfl (HS1.out.same (Same.below hE.out)) (tcs_one _) (by rw [List.length_nil]; omega) (by rw [List.length_nil]; omega) hE.out.size (fun v3 u4 hown hb hg => ?_)
                    have hX3 : Ext wd u4 := Below.trans hE.out hb
                    have hD3 := HD.out.aside HT.out (by decide) hg
                    have hP3 := HP.out.aside HT.out (by decide) hg
                    refine hK.out _ _ hX3 ?_
                    clear hK
                    simp only [Act.put, List.setIfInBounds_toArray, List.set_cons_zero, List.set_cons_succ]
                    have hE := Lib.hid hX3
                    have HT := Lib.hid hown
                    have HD := Lib.hid hD3
                    have HP := Lib.hid hP3
                    clear hD3
                    clear hP3
                    clear hown hb hg hX3
                    refine WalkN.one 6 (by kernel_rfl) ?_
                    refine ⟨_, (by simp only [List.getElem?_toArray, List.getElem?_cons_succ, List.getElem?_cons_zero]; rfl), by rfl, fun K hK => ?_⟩
                    refine wp_own tabsT (.tmp 74) (.tmp 76) rfl rfl HT.out rfl (HS2.out.same (Same.below hE.out)) (tcs_one _) (by rw [List.nil_append]; omega) (by rw [List.nil_append]; omega) hE.out.size (fun v4 u5 hown hb hg => ?_)
                    have hX4 : Ext wd u5 := Below.trans hE.out hb
                    have hD4 := HD.out.aside HT.out (by decide) hg
                    have hP4 := HP.out.aside HT.out (by decide) hg
                    refine hK.out _ _ hX4 ?_
                    clear hK
                    simp only [Act.put, List.setIfInBounds_toArray, List.set_cons_zero, List.set_cons_succ]
                    have hE := Lib.hid hX4
                    have HT := Lib.hid hown
                    have HD := Lib.hid hD4
                    have HP := Lib.hid hP4
                    clear hD4
                    clear hP4
                    clear hown hb hg hX4
                    refine WalkN.one 10 (by kernel_rfl) ?_
                    refine ⟨_, (by simp only [List.getElem?_toArray, List.getElem?_cons_succ, List.getElem?_cons_zero]; rfl), by rfl, fun K hK => ?_⟩
                    refine wp_own intsT (.tmp 78) (.tmp 80) rfl rfl HD.out rfl (HS3.out.same (Same.below hE.out)) (ic_one _) (by rw [List.length_nil]; omega) (by rw [List.length_nil]; omega) hE.out.size (fun v5 u6 hown hb hg => ?_)
                    have hX5 : Ext wd u6 := Below.trans hE.out hb
                    have hD5 := HT.out.aside HD.out (by decide) hg
                    have hP5 := HP.out.aside HD.out (by decide) hg
                    refine hK.out _ _ hX5 ?_
                    clear hK
                    simp only [Act.put, List.setIfInBounds_toArray, List.set_cons_zero, List.set_cons_succ]
                    have hE := Lib.hid hX5
                    have HD := Lib.hid hown
                    have HT := Lib.hid hD5
                    have HP := Lib.hid hP5
                    clear hP5
                    clear hown hb hg hX5 hD5
                    refine WalkN.one 13 (by kernel_rfl) ?_
                    refine ⟨_, (by simp only [List.getElem?_toArray, List.getElem?_cons_succ, List.getElem?_cons_zero]; rfl), by rfl, fun K hK => ?_⟩
                    refine wp_own intsT (.tmp 81) (.tmp 83) rfl rfl HD.out rfl (HS4.out.same (Same.below hE.out)) (ic_one _) (by rw [List.nil_append]; omega) (by rw [List.nil_append]; omega) hE.out.size (fun v6 u7 hown hb hg => ?_)
                    have hX6 : Ext wd u7 := Below.trans hE.out hb
                    have hD6 := HT.out.aside HD.out (by decide) hg
                    have hP6 := HP.out.aside HD.out (by decide) hg
                    refine hK.out _ _ hX6 ?_
                    clear hK
                    simp only [Act.put, List.setIfInBounds_toArray, List.set_cons_zero, List.set_cons_succ]
                    have hE := Lib.hid hX6
                    have HD := Lib.hid hown
                    have HT := Lib.hid hD6
                    have HP := Lib.hid hP6
                    clear hP6
                    clear hown hb hg hX6 hD6
                    obtain ⟨to, tn, tc, rfl, _, _⟩ := HT.out.sl.len
                    obtain ⟨yo, yn, yc, rfl, _, _⟩ := HD.out.sl.len
                    ((refine WalkN.take 34 _ ?_ (by simp only [List.getElem?_toArray, List.getElem?_cons_succ, List.getElem?_cons_zero]; rfl) (by kernel_rfl) (by kernel_rfl) (by rfl) (fun W hW => ?_) ?_; rotate_left; · (go_simp; try with_reducible rfl)); simp only [Act.put, List.setIfInBounds_toArray, List.set_cons_zero, List.set_cons_succ])
                    refine WalkN.one 36 (by kernel_rfl) ?_
                    have hPc := HP.out.cells
                    have hPf := HP.out.free
                    refine ⟨_, (by simp only [List.getElem?_toArray, List.getElem?_cons_succ, List.getElem?_cons_zero]; rfl), by rfl, fun K hK => ?_⟩
                    go_simp
                    have hX7 := below_set6 (b0 := .slice to tn tc) (b1 := .slice yo yn yc) (b2 := .int .u64 mf) (b3 := .int .u64 mh) (b4 := .int .i64 (max elg blg)) (b5 := .int .i64 (max enx bnx)) hE.out hp
                    have hT7 := own_set6 (b0 := .slice to tn tc) (b1 := .slice yo yn yc) (b2 := .int .u64 mf) (b3 := .int .u64 mh) (b4 := .int .i64 (max elg blg)) (b5 := .int .i64 (max enx bnx)) HT.out HP.out (by decide)
                    have hD7 := own_set6 (b0 := .slice to tn tc) (b1 := .slice yo yn yc) (b2 := .int .u64 mf) (b3 := .int .u64 mh) (b4 := .int .i64 (max elg blg)) (b5 := .int .i64 (max enx bnx)) HD.out HP.out (by decide)
                    have hP7 := blk_set6 (b0 := .slice to tn tc) (b1 := .slice yo yn yc) (b2 := .int .u64 mf) (b3 := .int .u64 mh) (b4 := .int .i64 (max elg blg)) (b5 := .int .i64 (max enx bnx)) HP.out
                    refine hK.out _ _ hX7 ?_
                    clear hK hPc hPf
                    generalize (((((u7.setCell ⟨_, 0, none⟩ (.slice to tn tc)).setCell ⟨_, 1, none⟩ (.slice yo yn yc)).setCell ⟨_, 2, none⟩ (.int .u64 mf)).setCell ⟨_, 3, none⟩ (.int .u64 mh)).setCell ⟨_, 4, none⟩ (.int .i64 (max elg blg))).setCell ⟨_, 5, none⟩ (.int .i64 (max enx bnx)) = u8 at *
                    clear HP HT HD hE
                    refine WalkN.done (by kernel_rfl) ?_
                    have hX8 : Ext wd u8 := hX7
                    rw [List.nil_append, ← tcs_append] at hT7
                    rw [List.nil_append, ← ic_append] at hD7
                    have hPc := hP7.cells
                    have hAc := (hAd.below hX8).cells
                    have hVc := (hVd.below hX8)
                    go_wp2_with fail
                    refine (HP3'.out _ _ _ (HTV.out.up hX8) (hT7.sl.mono fun b h => h.2) (hD7.sl.mono fun b h => h.2)).mono ?_
                    rintro e w9 ⟨cv, rfl, hS9, hb9⟩
                    obtain ⟨co, cc, rfl, _, _, _⟩ := hS9.tabs
                    unfold vV
                    dsimp only at *
                    have hE10 : Below w9.heap.size w9 (w9.alloc (.cells #[.slice co bl.length cc, .int .u64 bf, .int .u64 bh, .int .i64 blg', .int .i64 bnx'] 25)) := (Below.refl _ _).alloc (Nat.le_refl _) _
                    have hC10 := (Blk.made w9 #[.slice co bl.length cc, .int .u64 bf, .int .u64 bh, .int .i64 blg', .int .i64 bnx'] 25).cells
                    have hV10 := ((hVc.below hb9).below hE10).cells
                    have hSC := hS9.up hE10
                    have hSB := ((HSV.out.up hX8).up hb9).up hE10
                    have hBF : Below w.heap.size w (w9.alloc (.cells #[.slice co bl.length cc, .int .u64 bf, .int .u64 bh, .int .i64 blg', .int .i64 bnx'] 25)) := ((hBd.trans (Below.mono hX8 hBd.size)).trans (hb9.mono (Nat.le_trans hBd.size hX8.size))).trans (hE10.mono (Nat.le_trans (Nat.le_trans hBd.size hX8.size) hb9.size))
                    clear hPc hAc
                    go_wp2_with fail
                    refine (sameV_ok (.slice xo bl.length xc) (.slice co bl.length cc) ⟨bl, bf, bh, blg', bnx'⟩ _ hSB hSC).mono ?_
                    rintro e w11 ⟨rfl, hb11⟩
                    go_wp2
                    go_ret
                    exact ⟨rfl, hBF.trans (hb11.mono hBF.size)⟩
              · have he2 : ((eb : Int) != 0) = true := by rw [bne_iff_ne]; omega
                clear HP3 HFIN HNO
                subst hea
                go_wp2
                go_ret
                exact ⟨rfl, hB9⟩
            · have he2 : ((ea : Int) != 0) = true := by rw [bne_iff_ne]; omega
              clear HP3 HFIN HNO
              go_wp2
              go_ret
              exact ⟨rfl, hB9⟩

end Go.Proofs.Ytkllfdfipkcddaa
