/- Lemmas for the claim, no condition. -/
import Derived.Test.YtipddhcfcehcaaaYT6
import Derived.Test.YtipddhcfcehcaaaYT5
namespace Go.Proofs.Ytipddhcfcehcaaa
open Go Go.RowKit

/-- How deep a part stands. -/
def innerD (k pk : Int) (d : Nat) : Nat := if k = 5 ∧ pk = 4 then d + 1 else d
mutual
/-- May a rule be, so deep? -/
def RT.textOk : RT → Nat → Bool
  | .mk k a b ps, d =>
    if k = 1 then decide (a.size = 0) && decide (b.size = 0) && decide (ps.length = 0)
    else if k = 2 then ownB a && decide (b.size = 0) && decide (ps.length = 0)
    else if k = 3 then ownB a && ownB b && decide (ps.length = 0)
    else if k = 4 ∨ k = 5 then decide (a.size = 0) && decide (b.size = 0) && decide (2 ≤ ps.length) && textL k ps d
    else false
def textL (k : Int) : List RT → Nat → Bool
  | [], _ => true
  | p :: ps, d => (decide (p.k ≠ k) && decide (innerD k p.k d ≤ 8) && p.textOk (innerD k p.k d)) && textL k ps d
end
def goodP (k : Int) (d : Nat) (p : RT) : Bool := decide (p.k ≠ k) && decide (innerD k p.k d ≤ 8) && p.textOk (innerD k p.k d)
theorem textL_eq (k : Int) (d : Nat) : ∀ l : List RT, textL k l d = l.all (goodP k d)
  | [] => by rw [textL]; rfl
  | r :: rs => by rw [textL, List.all_cons, textL_eq k d rs]; rfl

set_option maxRecDepth 100000 in
set_option maxHeartbeats 4000000 in
theorem text_group4 (ps : List RT) (d : Nat) (hd : d ≤ 8) (pv : Value) (w : World) (hat : RTAt (· < w.heap.size) w (.mk 4 ⟨#[]⟩ ⟨#[]⟩ ps) pv) (hsz : szL ps ≤ 1000000) (h2 : 2 ≤ ps.length)
    (ih : ∀ p ∈ ps, ∀ (pv : Value) (d : Nat) (w : World), RTAt (· < w.heap.size) w p pv → d ≤ 8 → Calls Try.prog 76 #[rV p pv, .int .i64 d] w fun e w' => ∃ s : ByteArray, e = .returned (.tuple #[.string s, .bool (p.textOk d)]) ∧ (p.textOk d = true → s.size + 5 ≤ 80 * p.sz) ∧ Below w.heap.size w w') :
    Calls Try.prog 76 #[rV (.mk 4 ⟨#[]⟩ ⟨#[]⟩ ps) pv, .int .i64 d] w fun e w' => ∃ s : ByteArray, e = .returned (.tuple #[.string s, .bool (ps.all (goodP 4 d))]) ∧ (ps.all (goodP 4 d) = true → s.size ≤ 80 * szL ps) ∧ Below w.heap.size w w' := by
  obtain ⟨ao, c, rfl, hlc, hcm, hcell⟩ := hat.rows
  dsimp only [RT.ps] at hlc hcell ⊢
  have HC := Lib.hid hcell
  have IH := Lib.hid ih
  have HSZ := Lib.hid hsz
  have hBX := Blk.made w #[.int .i64 4, .string ⟨#[]⟩, .string ⟨#[]⟩, .slice ao ps.length c] 72
  have HB0 := Lib.hid (show Below w.heap.size w (w.alloc (.cells #[.int .i64 4, .string ⟨#[]⟩, .string ⟨#[]⟩, .slice ao ps.length c] 72)) from (Below.refl _ _).alloc (Nat.le_refl _) _)
  have hbk := hBX.cells
  have hl2 : ¬ ((ps.length : Int) < 2) := by omega
  unfold rV
  dsimp only [RT.k, RT.a, RT.b]
  generalize hg : ps.all (goodP 4 d) = g
  have HG := Lib.hid hg.symm
  clear hat hcell ih hsz h2 hg
  go_enter Try.func76, Try.ntmps76
  go_wp2_with fail
  obtain ⟨w1, hw1⟩ : ∃ w1, w1 = w.alloc (.cells #[.int .i64 4, .string ⟨#[]⟩, .string ⟨#[]⟩, .slice ao ps.length c] 72) := ⟨_, rfl⟩
  rw [← hw1] at hBX HB0 ⊢
  have HBX0 := Lib.hid hBX
  clear hbk hl2 hw1 hBX
  go_loopw [6, 91] (fun ov ii wr => ∃ (i : Nat) (out : ByteArray), i ≤ ps.length ∧ ii = .int .i64 i ∧ ov = .string out ∧ (∀ j (hj : j < ps.length), j < i → goodP 4 d ps[j] = true) ∧ out.size ≤ 80 * szL (ps.take i) ∧ Below w1.heap.size w1 wr) (fun _ ii _ => ps.length - (intOf ii).toNat)
  case atStart => exact ⟨0, ⟨#[]⟩, by omega, rfl, rfl, fun _ _ h => absurd h (by omega), Nat.zero_le _, Below.refl _ _⟩
  case round =>
    obtain ⟨i, out, hi, rfl, rfl, hall, hos, hb1r⟩ := hrel
    have HALL := Lib.hid hall
    have hbel : Below w.heap.size w wr := HB0.out.trans (hb1r.mono HB0.out.size)
    clear hall
    by_cases hlt : i < ps.length
    · have HUP := Lib.hid (fun h => upto_succ (p := fun j hj => goodP 4 d ps[j] = true) HALL.out hlt h)
      have HBAD := Lib.hid (fun (h : goodP 4 d ps[i] = false) => (show g = false from by rw [HG.out]; exact List.all_eq_false.2 ⟨ps[i], List.getElem_mem hlt, by rw [h]; exact Bool.false_ne_true⟩))
      have hmem := List.getElem_mem hlt
      have hst := szL_take hlt
      have hle := szL_le ps (i + 1)
      have hsl := HSZ.out
      have HST := Lib.hid hst
      rw [hst] at hle
      obtain ⟨b, off, pv2, hbo, hb, c0, c1, c2, c3, hat2⟩ := HC.out i hlt
      cases hbo
      have d0 := (hbel.cell (p := ⟨b, off + i * 4, none⟩) hb).trans c0
      have d1 := (hbel.cell (p := ⟨b, off + i * 4 + 1, none⟩) hb).trans c1
      have d2 := (hbel.cell (p := ⟨b, off + i * 4 + 2, none⟩) hb).trans c2
      have d3 := (hbel.cell (p := ⟨b, off + i * 4 + 3, none⟩) hb).trans c3
      obtain ⟨ao2, c2', rfl, -⟩ := hat2.rows
      have hb1 := hbel.alloc hbel.size (.cells #[.int .i64 ps[i].k, .string ps[i].a, .string ps[i].b, .slice ao2 ps[i].ps.length c2'] 72)
      have hat3 := hat2.up hb1
      have hbx := (Blk.made wr #[.int .i64 ps[i].k, .string ps[i].a, .string ps[i].b, .slice ao2 ps[i].ps.length c2'] 72).cells
      have HB1 := Lib.hid hb1
      clear c0 c1 c2 c3 hat2 hb1 hbel
      have HB3R := Lib.hid (hb1r.alloc hb1r.size (.cells #[.int .i64 ps[i].k, .string ps[i].a, .string ps[i].b, .slice ao2 ps[i].ps.length c2'] 72))
      have hbq := (HBX0.out.below HB3R.out).cells
      clear hb1r hst
      by_cases hkk : ps[i].k = 4
      · have HF := Lib.hid (HBAD.out (by unfold goodP; simp [hkk]))
        clear HUP HBAD hmem hat3
        generalize ps[i] = p at *
        obtain ⟨pk, pa, pb, pps⟩ := p
        dsimp only [RT.k, RT.a, RT.b, RT.ps] at *
        subst hkk
        go_wp2_with fail
        go_ret2
        exact ⟨_, by rw [HF.out]; rfl, (fun h => by rw [HF.out] at h; cases h), HB1.out⟩
      have hpk4 : (ps[i].k == 4) = false := by rw [beq_eq_false_iff_ne]; exact hkk
      have hgood : goodP 4 d ps[i] = ps[i].textOk d := by unfold goodP innerD; simp [hkk, hd]
      have hdI : (d : Int) ≤ 8 := by omega
      have HR := Lib.hid (IH.out ps[i] hmem _ d _ hat3 (by omega))
      unfold rV at HR
      clear hat3
      generalize ps[i] = p at *



      cases hx : p.textOk d with
      | false =>
        rw [hx] at HR
        have HF := Lib.hid (HBAD.out (by rw [hgood, hx]))
        clear HBAD hgood
        go_wp2_with fail
        refine HR.out.mono ?_
        rintro e w5 ⟨s, rfl, -, hb5⟩
        have HB5 := Lib.hid (HB1.out.trans (hb5.mono HB1.out.size))
        clear HR hb5 hbx HB1 hbq d0 d1 d2 d3
        go_wp2_with fail
        go_ret2
        exact ⟨_, by rw [HF.out]; rfl, (fun h => by rw [HF.out] at h; cases h), HB5.out⟩
      | true =>
        rw [hx] at HR
        go_wp2_with fail
        refine HR.out.mono ?_
        rintro e w5 ⟨s, rfl, hsz, hb5⟩
        have HBR5 := Lib.hid (HB3R.out.trans (hb5.mono HB3R.out.size))
        replace hbq := (HBX0.out.below HBR5.out).cells
        have hS : s.size + 5 ≤ 80 * p.sz := by first | exact hsz rfl | exact hsz trivial
        clear HR hb5 hbx HB1 hsz HBAD d0 d1 d2 d3
        have hs1 : ¬ (9223372036854775807 < 1 + s.size) := by omega
        have hs2 : ¬ (9223372036854775807 < 1 + s.size + 1) := by omega
        have hs4 : ¬ (9223372036854775807 < out.size + 3) := by omega
        by_cases hi0 : i = 0
        · have hig : ¬ ((0 : Int) < (i : Int)) := by omega
          have hs3 : ¬ (9223372036854775807 < out.size + (s.size)) := by omega
          have HOZ := Lib.hid (show (out ++ s).size ≤ 80 * szL (ps.take (i + 1)) from by
            rw [HST.out]
            simp only [ByteArray.size_append]
            have h1 : (⟨#[40]⟩ : ByteArray).size = 1 := rfl
            have h2 : (⟨#[41]⟩ : ByteArray).size = 1 := rfl
            have h3 : (⟨#[32, 124, 32]⟩ : ByteArray).size = 3 := rfl
            omega)
          have HN := Lib.hid (HUP.out (by rw [hgood, hx]))
          clear hx hgood hS
          go_wp2_with fail
          go_roundw
          case rel => exact ⟨i + 1, _, by omega, by go_num, rfl, HN.out, HOZ.out, HBR5.out⟩
          case measure => simp [intOf]; omega
        · have hig : (0 : Int) < i := by omega
          have hs3 : ¬ (9223372036854775807 < out.size + 3 + (s.size)) := by omega
          have HOZ := Lib.hid (show (out ++ ⟨#[32, 124, 32]⟩ ++ s).size ≤ 80 * szL (ps.take (i + 1)) from by
            rw [HST.out]
            simp only [ByteArray.size_append]
            have h1 : (⟨#[40]⟩ : ByteArray).size = 1 := rfl
            have h2 : (⟨#[41]⟩ : ByteArray).size = 1 := rfl
            have h3 : (⟨#[32, 124, 32]⟩ : ByteArray).size = 3 := rfl
            omega)
          have HN := Lib.hid (HUP.out (by rw [hgood, hx]))
          clear hx hgood hS
          go_wp2_with fail
          go_roundw
          case rel => exact ⟨i + 1, _, by omega, by go_num, rfl, HN.out, HOZ.out, HBR5.out⟩
          case measure => simp [intOf]; omega
    · obtain rfl : i = ps.length := by omega
      rw [List.take_length] at hos
      have HF := Lib.hid (show g = true from by
        rw [HG.out, List.all_eq_true]
        intro x hx
        obtain ⟨j, hj, rfl⟩ := List.getElem_of_mem hx
        exact HALL.out j hj hj)
      have HOS := Lib.hid hos
      have HBE := Lib.hid hbel
      clear hbel hb1r hos
      go_wp2_with fail
      go_ret2
      exact ⟨_, by rw [HF.out]; rfl, fun _ => HOS.out, HBE.out⟩

set_option maxRecDepth 100000 in
set_option maxHeartbeats 4000000 in
theorem text_group5 (ps : List RT) (d : Nat) (hd : d ≤ 8) (pv : Value) (w : World) (hat : RTAt (· < w.heap.size) w (.mk 5 ⟨#[]⟩ ⟨#[]⟩ ps) pv) (hsz : szL ps ≤ 1000000) (h2 : 2 ≤ ps.length)
    (ih : ∀ p ∈ ps, ∀ (pv : Value) (d : Nat) (w : World), RTAt (· < w.heap.size) w p pv → d ≤ 8 → Calls Try.prog 76 #[rV p pv, .int .i64 d] w fun e w' => ∃ s : ByteArray, e = .returned (.tuple #[.string s, .bool (p.textOk d)]) ∧ (p.textOk d = true → s.size + 5 ≤ 80 * p.sz) ∧ Below w.heap.size w w') :
    Calls Try.prog 76 #[rV (.mk 5 ⟨#[]⟩ ⟨#[]⟩ ps) pv, .int .i64 d] w fun e w' => ∃ s : ByteArray, e = .returned (.tuple #[.string s, .bool (ps.all (goodP 5 d))]) ∧ (ps.all (goodP 5 d) = true → s.size ≤ 80 * szL ps) ∧ Below w.heap.size w w' := by
  obtain ⟨ao, c, rfl, hlc, hcm, hcell⟩ := hat.rows
  dsimp only [RT.ps] at hlc hcell ⊢
  have HC := Lib.hid hcell
  have IH := Lib.hid ih
  have HSZ := Lib.hid hsz
  have hBX := Blk.made w #[.int .i64 5, .string ⟨#[]⟩, .string ⟨#[]⟩, .slice ao ps.length c] 72
  have HB0 := Lib.hid (show Below w.heap.size w (w.alloc (.cells #[.int .i64 5, .string ⟨#[]⟩, .string ⟨#[]⟩, .slice ao ps.length c] 72)) from (Below.refl _ _).alloc (Nat.le_refl _) _)
  have hbk := hBX.cells
  have hl2 : ¬ ((ps.length : Int) < 2) := by omega
  unfold rV
  dsimp only [RT.k, RT.a, RT.b]
  generalize hg : ps.all (goodP 5 d) = g
  have HG := Lib.hid hg.symm
  clear hat hcell ih hsz h2 hg
  go_enter Try.func76, Try.ntmps76
  go_wp2_with fail
  obtain ⟨w1, hw1⟩ : ∃ w1, w1 = w.alloc (.cells #[.int .i64 5, .string ⟨#[]⟩, .string ⟨#[]⟩, .slice ao ps.length c] 72) := ⟨_, rfl⟩
  rw [← hw1] at hBX HB0 ⊢
  have HBX0 := Lib.hid hBX
  clear hbk hl2 hw1 hBX
  go_loopw [6, 91] (fun ov ii wr => ∃ (i : Nat) (out : ByteArray), i ≤ ps.length ∧ ii = .int .i64 i ∧ ov = .string out ∧ (∀ j (hj : j < ps.length), j < i → goodP 5 d ps[j] = true) ∧ out.size ≤ 80 * szL (ps.take i) ∧ Below w1.heap.size w1 wr) (fun _ ii _ => ps.length - (intOf ii).toNat)
  case atStart => exact ⟨0, ⟨#[]⟩, by omega, rfl, rfl, fun _ _ h => absurd h (by omega), Nat.zero_le _, Below.refl _ _⟩
  case round =>
    obtain ⟨i, out, hi, rfl, rfl, hall, hos, hb1r⟩ := hrel
    have HALL := Lib.hid hall
    have hbel : Below w.heap.size w wr := HB0.out.trans (hb1r.mono HB0.out.size)
    clear hall
    by_cases hlt : i < ps.length
    · have HUP := Lib.hid (fun h => upto_succ (p := fun j hj => goodP 5 d ps[j] = true) HALL.out hlt h)
      have HBAD := Lib.hid (fun (h : goodP 5 d ps[i] = false) => (show g = false from by rw [HG.out]; exact List.all_eq_false.2 ⟨ps[i], List.getElem_mem hlt, by rw [h]; exact Bool.false_ne_true⟩))
      have hmem := List.getElem_mem hlt
      have hst := szL_take hlt
      have hle := szL_le ps (i + 1)
      have hsl := HSZ.out
      have HST := Lib.hid hst
      rw [hst] at hle
      obtain ⟨b, off, pv2, hbo, hb, c0, c1, c2, c3, hat2⟩ := HC.out i hlt
      cases hbo
      have d0 := (hbel.cell (p := ⟨b, off + i * 4, none⟩) hb).trans c0
      have d1 := (hbel.cell (p := ⟨b, off + i * 4 + 1, none⟩) hb).trans c1
      have d2 := (hbel.cell (p := ⟨b, off + i * 4 + 2, none⟩) hb).trans c2
      have d3 := (hbel.cell (p := ⟨b, off + i * 4 + 3, none⟩) hb).trans c3
      obtain ⟨ao2, c2', rfl, -⟩ := hat2.rows
      have hb1 := hbel.alloc hbel.size (.cells #[.int .i64 ps[i].k, .string ps[i].a, .string ps[i].b, .slice ao2 ps[i].ps.length c2'] 72)
      have hat3 := hat2.up hb1
      have hbx := (Blk.made wr #[.int .i64 ps[i].k, .string ps[i].a, .string ps[i].b, .slice ao2 ps[i].ps.length c2'] 72).cells
      have HB1 := Lib.hid hb1
      clear c0 c1 c2 c3 hat2 hb1 hbel
      have HB3R := Lib.hid (hb1r.alloc hb1r.size (.cells #[.int .i64 ps[i].k, .string ps[i].a, .string ps[i].b, .slice ao2 ps[i].ps.length c2'] 72))
      have hbq := (HBX0.out.below HB3R.out).cells
      clear hb1r hst
      by_cases hkk : ps[i].k = 5
      · have HF := Lib.hid (HBAD.out (by unfold goodP; simp [hkk]))
        clear HUP HBAD hmem hat3
        generalize ps[i] = p at *
        obtain ⟨pk, pa, pb, pps⟩ := p
        dsimp only [RT.k, RT.a, RT.b, RT.ps] at *
        subst hkk
        go_wp2_with fail
        go_ret2
        exact ⟨_, by rw [HF.out]; rfl, (fun h => by rw [HF.out] at h; cases h), HB1.out⟩
      have hpk5 : (ps[i].k == 5) = false := by rw [beq_eq_false_iff_ne]; exact hkk
      by_cases h4 : ps[i].k = 4
      · have hpk4 : (ps[i].k == 4) = true := by rw [beq_iff_eq]; exact h4
        by_cases hd8 : d = 8
        · have HF := Lib.hid (HBAD.out (by unfold goodP innerD; simp [h4, hd8]))
          have hdI : ¬ ((d : Int) + 1 ≤ 8) := by omega
          clear HUP HBAD hmem hat3 hpk4 hpk5 hkk hd8
          generalize ps[i] = p at *
          simp only [h4] at d0 hbx HB1 hbq
          clear h4
          go_wp2_with fail
          go_ret2
          exact ⟨_, by rw [HF.out]; rfl, (fun h => by rw [HF.out] at h; cases h), HB1.out⟩
        · have hd9 : d + 1 ≤ 8 := by omega
          have hgood : goodP 5 d ps[i] = ps[i].textOk (d + 1) := by unfold goodP innerD; simp [h4]; omega
          have hdI : (d : Int) + 1 ≤ 8 := by omega
          have HR := Lib.hid (IH.out ps[i] hmem _ (d + 1) _ hat3 (by omega))
          unfold rV at HR
          clear hat3
          generalize ps[i] = p at *
          simp only [h4] at d0 hbx HB1 HB3R HR hbq
          rw [show ((d + 1 : Nat) : Int) = (d : Int) + 1 from rfl] at HR
          clear h4 hpk4 hpk5 hkk
          cases hx : p.textOk (d + 1) with
          | false =>
            rw [hx] at HR
            have HF := Lib.hid (HBAD.out (by rw [hgood, hx]))
            clear HBAD hgood
            go_wp2_with fail
            refine HR.out.mono ?_
            rintro e w5 ⟨s, rfl, -, hb5⟩
            have HB5 := Lib.hid (HB1.out.trans (hb5.mono HB1.out.size))
            clear HR hb5 hbx HB1 hbq d0 d1 d2 d3
            go_wp2_with fail
            go_ret2
            exact ⟨_, by rw [HF.out]; rfl, (fun h => by rw [HF.out] at h; cases h), HB5.out⟩
          | true =>
            rw [hx] at HR
            go_wp2_with fail
            refine HR.out.mono ?_
            rintro e w5 ⟨s, rfl, hsz, hb5⟩
            have HBR5 := Lib.hid (HB3R.out.trans (hb5.mono HB3R.out.size))
            replace hbq := (HBX0.out.below HBR5.out).cells
            have hS : s.size + 5 ≤ 80 * p.sz := by first | exact hsz rfl | exact hsz trivial
            clear HR hb5 hbx HB1 hsz HBAD d0 d1 d2 d3
            have hs1 : ¬ (9223372036854775807 < 1 + s.size) := by omega
            have hs2 : ¬ (9223372036854775807 < 1 + s.size + 1) := by omega
            have hs4 : ¬ (9223372036854775807 < out.size + 3) := by omega
            by_cases hi0 : i = 0
            · have hig : ¬ ((0 : Int) < (i : Int)) := by omega
              have hs3 : ¬ (9223372036854775807 < out.size + (1 + s.size + 1)) := by omega
              have HOZ := Lib.hid (show (out ++ (⟨#[40]⟩ ++ s ++ ⟨#[41]⟩)).size ≤ 80 * szL (ps.take (i + 1)) from by
                rw [HST.out]
                simp only [ByteArray.size_append]
                have h1 : (⟨#[40]⟩ : ByteArray).size = 1 := rfl
                have h2 : (⟨#[41]⟩ : ByteArray).size = 1 := rfl
                have h3 : (⟨#[32, 38, 32]⟩ : ByteArray).size = 3 := rfl
                omega)
              have HN := Lib.hid (HUP.out (by rw [hgood, hx]))
              clear hx hgood hS
              go_wp2_with fail
              go_roundw
              case rel => exact ⟨i + 1, _, by omega, by go_num, rfl, HN.out, HOZ.out, HBR5.out⟩
              case measure => simp [intOf]; omega
            · have hig : (0 : Int) < i := by omega
              have hs3 : ¬ (9223372036854775807 < out.size + 3 + (1 + s.size + 1)) := by omega
              have HOZ := Lib.hid (show (out ++ ⟨#[32, 38, 32]⟩ ++ (⟨#[40]⟩ ++ s ++ ⟨#[41]⟩)).size ≤ 80 * szL (ps.take (i + 1)) from by
                rw [HST.out]
                simp only [ByteArray.size_append]
                have h1 : (⟨#[40]⟩ : ByteArray).size = 1 := rfl
                have h2 : (⟨#[41]⟩ : ByteArray).size = 1 := rfl
                have h3 : (⟨#[32, 38, 32]⟩ : ByteArray).size = 3 := rfl
                omega)
              have HN := Lib.hid (HUP.out (by rw [hgood, hx]))
              clear hx hgood hS
              go_wp2_with fail
              go_roundw
              case rel => exact ⟨i + 1, _, by omega, by go_num, rfl, HN.out, HOZ.out, HBR5.out⟩
              case measure => simp [intOf]; omega
      · have hpk4 : (ps[i].k == 4) = false := by rw [beq_eq_false_iff_ne]; exact h4
        have hgood : goodP 5 d ps[i] = ps[i].textOk d := by unfold goodP innerD; simp [hkk, h4, hd]
        have hdI : (d : Int) ≤ 8 := by omega
        have HR := Lib.hid (IH.out ps[i] hmem _ d _ hat3 (by omega))
        unfold rV at HR
        clear hat3
        generalize ps[i] = p at *



        cases hx : p.textOk d with
        | false =>
          rw [hx] at HR
          have HF := Lib.hid (HBAD.out (by rw [hgood, hx]))
          clear HBAD hgood
          go_wp2_with fail
          refine HR.out.mono ?_
          rintro e w5 ⟨s, rfl, -, hb5⟩
          have HB5 := Lib.hid (HB1.out.trans (hb5.mono HB1.out.size))
          clear HR hb5 hbx HB1 hbq d0 d1 d2 d3
          go_wp2_with fail
          go_ret2
          exact ⟨_, by rw [HF.out]; rfl, (fun h => by rw [HF.out] at h; cases h), HB5.out⟩
        | true =>
          rw [hx] at HR
          go_wp2_with fail
          refine HR.out.mono ?_
          rintro e w5 ⟨s, rfl, hsz, hb5⟩
          have HBR5 := Lib.hid (HB3R.out.trans (hb5.mono HB3R.out.size))
          replace hbq := (HBX0.out.below HBR5.out).cells
          have hS : s.size + 5 ≤ 80 * p.sz := by first | exact hsz rfl | exact hsz trivial
          clear HR hb5 hbx HB1 hsz HBAD d0 d1 d2 d3
          have hs1 : ¬ (9223372036854775807 < 1 + s.size) := by omega
          have hs2 : ¬ (9223372036854775807 < 1 + s.size + 1) := by omega
          have hs4 : ¬ (9223372036854775807 < out.size + 3) := by omega
          by_cases hi0 : i = 0
          · have hig : ¬ ((0 : Int) < (i : Int)) := by omega
            have hs3 : ¬ (9223372036854775807 < out.size + (s.size)) := by omega
            have HOZ := Lib.hid (show (out ++ s).size ≤ 80 * szL (ps.take (i + 1)) from by
              rw [HST.out]
              simp only [ByteArray.size_append]
              have h1 : (⟨#[40]⟩ : ByteArray).size = 1 := rfl
              have h2 : (⟨#[41]⟩ : ByteArray).size = 1 := rfl
              have h3 : (⟨#[32, 38, 32]⟩ : ByteArray).size = 3 := rfl
              omega)
            have HN := Lib.hid (HUP.out (by rw [hgood, hx]))
            clear hx hgood hS
            go_wp2_with fail
            go_roundw
            case rel => exact ⟨i + 1, _, by omega, by go_num, rfl, HN.out, HOZ.out, HBR5.out⟩
            case measure => simp [intOf]; omega
          · have hig : (0 : Int) < i := by omega
            have hs3 : ¬ (9223372036854775807 < out.size + 3 + (s.size)) := by omega
            have HOZ := Lib.hid (show (out ++ ⟨#[32, 38, 32]⟩ ++ s).size ≤ 80 * szL (ps.take (i + 1)) from by
              rw [HST.out]
              simp only [ByteArray.size_append]
              have h1 : (⟨#[40]⟩ : ByteArray).size = 1 := rfl
              have h2 : (⟨#[41]⟩ : ByteArray).size = 1 := rfl
              have h3 : (⟨#[32, 38, 32]⟩ : ByteArray).size = 3 := rfl
              omega)
            have HN := Lib.hid (HUP.out (by rw [hgood, hx]))
            clear hx hgood hS
            go_wp2_with fail
            go_roundw
            case rel => exact ⟨i + 1, _, by omega, by go_num, rfl, HN.out, HOZ.out, HBR5.out⟩
            case measure => simp [intOf]; omega
    · obtain rfl : i = ps.length := by omega
      rw [List.take_length] at hos
      have HF := Lib.hid (show g = true from by
        rw [HG.out, List.all_eq_true]
        intro x hx
        obtain ⟨j, hj, rfl⟩ := List.getElem_of_mem hx
        exact HALL.out j hj hj)
      have HOS := Lib.hid hos
      have HBE := Lib.hid hbel
      clear hbel hb1r hos
      go_wp2_with fail
      go_ret2
      exact ⟨_, by rw [HF.out]; rfl, fun _ => HOS.out, HBE.out⟩

end Go.Proofs.Ytipddhcfcehcaaa
namespace Go.Proofs.Ytipddhcfcehcaaa
open Go Go.RowKit

/-- The sign between parts. -/
def sepT (k : Int) : ByteArray := if k = 4 then ⟨#[32, 124, 32]⟩ else ⟨#[32, 38, 32]⟩
mutual
/-- A rule's text. -/
def RT.text : RT → ByteArray
  | .mk k a b ps => if k = 1 then ⟨#[116, 104, 105, 115]⟩ else if k = 2 then a else if k = 3 then (a ++ ⟨#[45, 62]⟩) ++ b else firstT k ps
def firstT (k : Int) : List RT → ByteArray
  | [] => ByteArray.empty
  | p :: ps => (if k = 5 ∧ p.k = 4 then ⟨#[40]⟩ ++ p.text ++ ⟨#[41]⟩ else p.text) ++ restT k ps
def restT (k : Int) : List RT → ByteArray
  | [] => ByteArray.empty
  | p :: ps => sepT k ++ ((if k = 5 ∧ p.k = 4 then ⟨#[40]⟩ ++ p.text ++ ⟨#[41]⟩ else p.text) ++ restT k ps)
end
def txtP (k : Int) (p : RT) : ByteArray := if k = 5 ∧ p.k = 4 then ⟨#[40]⟩ ++ p.text ++ ⟨#[41]⟩ else p.text
def joinT (k : Int) (ps : List RT) : ByteArray := firstT k ps
theorem restT_snoc (k : Int) (p : RT) : ∀ l : List RT, restT k (l ++ [p]) = restT k l ++ sepT k ++ txtP k p
  | [] => by
    rw [List.nil_append, restT, restT, restT, ByteArray.append_empty, ByteArray.empty_append]
    rfl
  | q :: l => by
    rw [List.cons_append, restT, restT_snoc k p l, restT]
    simp only [ByteArray.append_assoc]
theorem joinT_take (k : Int) {l : List RT} {i : Nat} (hi : i < l.length) : joinT k (l.take (i + 1)) = if i = 0 then txtP k l[i] else joinT k (l.take i) ++ sepT k ++ txtP k l[i] := by
  rw [List.take_succ_eq_append_getElem hi]
  cases i with
  | zero =>
    rw [if_pos rfl, List.take_zero, List.nil_append]
    unfold joinT
    rw [firstT, restT, ByteArray.append_empty]
    rfl
  | succ i =>
    rw [if_neg (by omega)]
    cases l with
    | nil => simp at hi
    | cons q l =>
      rw [List.take_succ_cons, List.cons_append]
      unfold joinT
      rw [firstT, firstT, restT_snoc]
      simp only [ByteArray.append_assoc]
mutual
/-- How long its text is at most. -/
def RT.wt : RT → Nat | .mk _ a b ps => 10 + a.size + b.size + wtL ps
def wtL : List RT → Nat | [] => 0 | p :: ps => (8 + p.wt) + wtL ps
end
theorem wtL_append (a b : List RT) : wtL (a ++ b) = wtL a + wtL b := by
  induction a with
  | nil => simp [wtL]
  | cons x a ih => rw [List.cons_append, wtL, wtL, ih]; omega
theorem wtL_take {l : List RT} {i : Nat} (hi : i < l.length) : wtL (l.take (i + 1)) = wtL (l.take i) + (8 + l[i].wt) := by
  rw [List.take_succ_eq_append_getElem hi, wtL_append]
  simp [wtL]
theorem wtL_le (l : List RT) (i : Nat) : wtL (l.take i) ≤ wtL l := by
  conv => rhs; rw [← List.take_append_drop i l]
  rw [wtL_append]
  omega
set_option maxRecDepth 100000 in
set_option maxHeartbeats 8000000 in
theorem wparts_4 {B wb : Nat} {text : ByteArray} {w : World} (ps : List RT) (d : Nat) (hd : d ≤ 8) (pv : Value) (h : WrB w B wb text false) (hBw : B ≤ w.heap.size) (hat : RTAt (· < B) w (.mk 4 ⟨#[]⟩ ⟨#[]⟩ ps) pv) (hpos : 0 < text.size) (hlim : text.size + wtL ps ≤ 1099511627776)
    (ih : ∀ p ∈ ps, ∀ (pv : Value) (d : Nat) (w : World) (text : ByteArray), RTAt (· < B) w p pv → text.size + p.wt ≤ 1099511627776 → 0 < text.size → d ≤ 8 → WrB w B wb text false → B ≤ w.heap.size → Calls Try.prog 100 #[.pointer (some ⟨wb, 0, none⟩), rV p pv, .int .i64 d] w (WRes B wb w text (p.textOk d) p.text p.wt)) :
    Calls Try.prog 109 #[.pointer (some ⟨wb, 0, none⟩), rV (.mk 4 ⟨#[]⟩ ⟨#[]⟩ ps) pv, .string ⟨#[32, 124, 32]⟩, .int .i64 d] w (WRes B wb w text (ps.all (goodP 4 d)) (joinT 4 ps) (wtL ps)) := by
  obtain ⟨ao, c, rfl, hlc, hcm, hcell⟩ := hat.rows
  dsimp only [RT.ps] at hlc hcell ⊢
  have HC := Lib.hid hcell
  have IH := Lib.hid ih
  have HPOS := Lib.hid hpos
  have HB := Lib.hid h.1
  have HBW := Lib.hid hBw
  have HNX := Lib.hid (show w.heap.size ≠ wb from by have := h.lt; omega)
  have HLIM := Lib.hid hlim
  have hBX := Blk.made w #[.int .i64 4, .string ⟨#[]⟩, .string ⟨#[]⟩, .slice ao ps.length c] 72
  have HW1 := Lib.hid (h.up ((Below.refl _ w).alloc (Nat.le_refl _) (.cells #[.int .i64 4, .string ⟨#[]⟩, .string ⟨#[]⟩, .slice ao ps.length c] 72)))
  have HK1 := Lib.hid (WKept.of (b := wb) ((Below.refl _ w).alloc (Nat.le_refl _) (.cells #[.int .i64 4, .string ⟨#[]⟩, .string ⟨#[]⟩, .slice ao ps.length c] 72)) hBw)
  have hbk := hBX.cells
  unfold rV
  dsimp only [RT.k, RT.a, RT.b]
  generalize hg : ps.all (goodP 4 d) = g
  have HG := Lib.hid hg.symm
  clear hat hcell ih hpos h hBw hlim hg
  go_enter Try.func109, Try.ntmps109
  go_wp2_with fail
  obtain ⟨w1, hw1⟩ : ∃ w1, w1 = w.alloc (.cells #[.int .i64 4, .string ⟨#[]⟩, .string ⟨#[]⟩, .slice ao ps.length c] 72) := ⟨_, rfl⟩
  rw [← hw1] at hBX HW1 HK1 ⊢
  have HBX0 := Lib.hid hBX
  clear hbk hw1 hBX
  generalize hX : w.heap.size = X at *
  have HX := Lib.hid hX
  have HBW := Lib.hid (show B ≤ w.heap.size from by rw [HX.out]; exact HBW.out)
  clear hX
  go_loopw [13] (fun ii wr => ∃ (i : Nat) (t : ByteArray) (o : Bool), i ≤ ps.length ∧ ii = .int .i64 i ∧ o = !((ps.take i).all (goodP 4 d)) ∧ WrB wr B wb t o ∧ text.size ≤ t.size ∧ t.size ≤ text.size + wtL (ps.take i) ∧ (o = false → t = text ++ joinT 4 (ps.take i)) ∧ WKept B wb w1 wr) (fun ii _ => ps.length - (intOf ii).toNat)
  case atStart => exact ⟨0, text, false, by omega, rfl, rfl, HW1.out, Nat.le_refl _, Nat.le_add_right _ _, fun _ => by rw [List.take_zero]; exact (ByteArray.append_empty).symm, Kept.refl _ _⟩
  case round =>
    obtain ⟨i, t, o, hi, rfl, ho, hw, hs1, hs2, hj, hk⟩ := hrel
    have HO := Lib.hid ho
    have HW := Lib.hid hw
    have HJ := Lib.hid hj
    have HK := Lib.hid hk
    have HS := Lib.hid (And.intro hs1 hs2)
    clear HW1 ho hw hj hs1 hs2
    by_cases hlt : i < ps.length
    · have hbel : Below B w wr := (WKept.next HK1.out hk).below
      have HWT := Lib.hid (wtL_take hlt)
      have HWL := Lib.hid (show wtL (ps.take i) + (8 + ps[i].wt) ≤ wtL ps from by have := wtL_le ps (i + 1); rw [wtL_take hlt] at this; exact this)
      have HJT := Lib.hid (joinT_take 4 hlt)
      have HAT0 := fun (h : goodP 4 d ps[i] = false) => (show g = false from by rw [HG.out]; exact List.all_eq_false.2 ⟨ps[i], List.getElem_mem hlt, by rw [h]; exact Bool.false_ne_true⟩)
      have HBAD := Lib.hid (fun (h : goodP 4 d ps[i] = false) => HAT0 h)
      have HGT := Lib.hid (show (ps.take (i + 1)).all (goodP 4 d) = ((ps.take i).all (goodP 4 d) && goodP 4 d ps[i]) from by rw [List.take_succ_eq_append_getElem hlt, List.all_append]; simp)
      have hmem := List.getElem_mem hlt
      obtain ⟨bb, off, pv2, hbo, hb, c0, c1, c2, c3, hat2⟩ := HC.out i hlt
      cases hbo
      have hd0 := (hbel.cell (p := ⟨bb, off + i * 4, none⟩) hb).trans c0
      have hd1 := (hbel.cell (p := ⟨bb, off + i * 4 + 1, none⟩) hb).trans c1
      have hd2 := (hbel.cell (p := ⟨bb, off + i * 4 + 2, none⟩) hb).trans c2
      have hd3 := (hbel.cell (p := ⟨bb, off + i * 4 + 3, none⟩) hb).trans c3
      obtain ⟨ao2, c2', rfl, -⟩ := hat2.rows
      have HAT := Lib.hid hat2
      clear c0 c1 c2 c3 hat2 hbel HAT0
      generalize ps[i] = p at *
      have HP0 := Lib.hid (Blk.made wr #[.int .i64 p.k, .string p.a, .string p.b, .slice ao2 p.ps.length c2'] 72)
      have HNP := Lib.hid (show wr.heap.size ≠ wb from by have := HW.out.lt; omega)
      have hxlt : X < wr.heap.size := Nat.lt_of_lt_of_le HBX0.out.lt hk.size
      have HBR := Lib.hid (Nat.le_trans HBW.out (by rw [HX.out]; exact Nat.le_of_lt hxlt))
      have HKA := Lib.hid (WKept.next hk (WKept.of ((Below.refl _ wr).alloc (Nat.le_refl _) (.cells #[.int .i64 p.k, .string p.a, .string p.b, .slice ao2 p.ps.length c2'] 72)) HBR.out))
      have HXA := Lib.hid (HKA.out.box HBX0.out (by decide) HNX.out)
      have HWA := Lib.hid (HW.out.up ((Below.refl _ wr).alloc (Nat.le_refl _) (.cells #[.int .i64 p.k, .string p.a, .string p.b, .slice ao2 p.ps.length c2'] 72)))
      have hpa := HP0.out.cells
      have hxa := HXA.out.cells
      clear hk
      cases o with
      | true =>
        have hall : (ps.take i).all (goodP 4 d) = false := by have := HO.out; simpa using this
        have hig : (0 : Int) < (i : Int) := by
          have : i ≠ 0 := fun h => by rw [h] at hall; simp at hall
          omega
        have HF := Lib.hid (show g = false from by
          rw [HG.out]
          have := hall
          rw [← List.take_append_drop i ps, List.all_append, hall]
          rfl)
        have HSW := Lib.hid (writeString_any ⟨#[32, 124, 32]⟩ HWA.out (by have := HS.out; have := HLIM.out; have := HWL.out; show _ + 3 ≤ _; omega) (by show 0 < _ + 3; omega) (Nat.le_trans HBW.out (WKept.next HK1.out HKA.out).size))
        rw [HF.out]
        clear hall hmem
        go_wp2_with fail
        refine HSW.out.mono ?_
        rintro e wB ⟨rfl, hwB, hkB⟩
        have HKB := Lib.hid (WKept.next HKA.out (WKept.next hkB (WKept.flag (b := wb) HB.out (.bool true))))
        have HWC := Lib.hid (hwB.flag true)
        obtain ⟨eb, fb⟩ := hwB.odd2
        obtain ⟨ec, fc⟩ := HWC.out.odd2
        clear HSW hwB hkB hpa hxa hd0 hd1 hd2 hd3 hig
        go_wp2_with fail
        (try simp only [Exit.inBlock, Exit.then])
        refine bodyPost_ret (results_none rfl _ _ _) rfl ?_
        exact ⟨rfl, t ++ ⟨#[32, 124, 32]⟩, HWC.out, (by rw [ByteArray.size_append]; have := HS.out; omega), (by rw [ByteArray.size_append]; have := HS.out; have := HWL.out; show _ + 3 ≤ _; omega), (fun h => by cases h), WKept.next HK1.out HKB.out⟩
      | false =>
        have hall : (ps.take i).all (goodP 4 d) = true := by have := HO.out; simpa using this
        have HGD := Lib.hid (show (ps.take (i + 1)).all (goodP 4 d) = goodP 4 d p from by rw [HGT.out, hall, Bool.true_and])
        have HJ2 := Lib.hid (HJ.out rfl)
        clear hall
        by_cases hi0 : i = 0
        · have hig : ¬ ((0 : Int) < (i : Int)) := by omega
          obtain ⟨tB, htB⟩ : ∃ tB, tB = t := ⟨_, rfl⟩
          have HTB := Lib.hid (show text.size ≤ tB.size ∧ tB.size ≤ text.size + wtL (ps.take i) + 3 ∧ wtL (ps.take i) + (8 + p.wt) ≤ wtL ps from by rw [htB]; have := HS.out; have := HWL.out; omega)
          have HJB := Lib.hid (show tB ++ txtP 4 p = text ++ joinT 4 (ps.take (i + 1)) from by rw [htB, HJ2.out, HJT.out, if_pos hi0, hi0, List.take_zero]; show text ++ ByteArray.empty ++ _ = _; rw [ByteArray.append_empty])
          rw [← htB] at HWA
          clear htB hi0
          have HWB := Lib.hid HWA.out
          have HKB := Lib.hid HKA.out
          have HPB := Lib.hid HP0.out
          have HXB := Lib.hid HXA.out
          clear HWA HKA HP0 HXA hpa hxa HW HJ HO
          by_cases hkk : p.k = 4
          · have HF := Lib.hid (HBAD.out (by unfold goodP; simp [hkk]))
            obtain ⟨pk, pa, pb, pps⟩ := p
            dsimp only [RT.k, RT.a, RT.b, RT.ps] at *
            subst hkk
            have HWC := Lib.hid (HWB.out.flag true)
            have HPC := Lib.hid (HPB.out.other (a := ⟨wb, 2, none⟩) HNP.out (.bool true))
            have HXC := Lib.hid (HXB.out.other (a := ⟨wb, 2, none⟩) HNX.out (.bool true))
            have HKC := Lib.hid (WKept.next HKB.out (WKept.flag (b := wb) HB.out (.bool true)))
            have pbc := HPB.out.cells
            have xb := HXB.out.cells
            have pc := HPC.out.cells
            have xc := HXC.out.cells
            obtain ⟨eb, fb⟩ := HWB.out.odd2
            obtain ⟨ec, fc⟩ := HWC.out.odd2
            clear hmem
            go_wp2_with fail
            rw [HF.out]
            (try simp only [Exit.inBlock, Exit.then])
            refine bodyPost_ret (results_none rfl _ _ _) rfl ?_
            exact ⟨rfl, tB, HWC.out, (by have := HTB.out; omega), (by have := HTB.out; have := HWL.out; omega), (fun h => by cases h), WKept.next HK1.out HKC.out⟩
          · have hpk : (p.k == 4) = false := by rw [beq_eq_false_iff_ne]; exact hkk
            have hgood : goodP 4 d p = p.textOk d := by unfold goodP innerD; simp [hkk, hd]
            have HWC := Lib.hid (HWB.out.flag false)
            have HPC := Lib.hid (HPB.out.other (a := ⟨wb, 2, none⟩) HNP.out (.bool false))
            have HXC := Lib.hid (HXB.out.other (a := ⟨wb, 2, none⟩) HNX.out (.bool false))
            have HKC := Lib.hid (WKept.next HKB.out (WKept.flag (b := wb) HB.out (.bool false)))
            have pb := HPB.out.cells
            have xb := HXB.out.cells
            have pc := HPC.out.cells
            have xc := HXC.out.cells
            obtain ⟨eb, fb⟩ := HWB.out.odd2
            obtain ⟨ec, fc⟩ := HWC.out.odd2
            have HR := Lib.hid (IH.out p hmem _ d _ tB (HAT.out.same (Same.below (WKept.next HK1.out HKC.out).below)) (by have := HTB.out; have := HLIM.out; omega) (by have := HTB.out; have := HPOS.out; omega) hd HWC.out (Nat.le_trans HBW.out (WKept.next HK1.out HKC.out).size))
            unfold rV at HR
            clear hmem
            go_wp2_with fail
            refine HR.out.mono ?_
            rintro e wD ⟨rfl, tD, hwD, hs1, hs2, hadd, hkD⟩
            have HWD := Lib.hid hwD
            have HKD := Lib.hid (WKept.next HKC.out hkD)
            have HSD := Lib.hid (show text.size ≤ tD.size ∧ tD.size ≤ text.size + wtL (ps.take (i + 1)) from by have := HTB.out; have := HWT.out; omega)
            have HOD := Lib.hid (show (!(p.textOk d)) = !((ps.take (i + 1)).all (goodP 4 d)) from by rw [HGD.out, hgood])
            have HJD := Lib.hid (show (!(p.textOk d)) = false → tD = text ++ joinT 4 (ps.take (i + 1)) from fun h => by
              rw [← HJB.out, hadd (by simpa using h)]
              unfold txtP
              rw [if_neg (by simp)])
            clear pb xb pc xc eb fb ec fc
            clear HR hwD hs1 hs2 hadd hkD HWB HKB HPB HXB HWC HPC HXC HKC hgood hd0 hd1 hd2 hd3
            go_wp2_with fail
            go_roundw
            case rel => exact ⟨i + 1, tD, _, by omega, by go_num, HOD.out, HWD.out, HSD.out.1, HSD.out.2, HJD.out, HKD.out⟩
            case measure => simp [intOf]; omega
        · have hig : (0 : Int) < (i : Int) := by omega
          have HSW := Lib.hid (writeString_any ⟨#[32, 124, 32]⟩ HWA.out (by have := HS.out; have := HLIM.out; have := HWL.out; show _ + 3 ≤ _; omega) (by show 0 < _ + 3; omega) (Nat.le_trans HBW.out (WKept.next HK1.out HKA.out).size))
          have HJB0 := Lib.hid (show t ++ ⟨#[32, 124, 32]⟩ ++ txtP 4 p = text ++ joinT 4 (ps.take (i + 1)) from by rw [HJ2.out, HJT.out, if_neg hi0]; simp only [ByteArray.append_assoc]; rfl)
          clear hi0
          go_wp2_with fail
          refine HSW.out.mono ?_
          rintro e wB ⟨rfl, hwB, hkB⟩
          have HKB := Lib.hid (WKept.next HKA.out hkB)
          have HPB := Lib.hid (hkB.box HP0.out (by decide) HNP.out)
          have HXB := Lib.hid (hkB.box HXA.out (by decide) HNX.out)
          have hsB : (t ++ ⟨#[32, 124, 32]⟩).size = t.size + 3 := by rw [ByteArray.size_append]; rfl
          obtain ⟨tB, htB⟩ : ∃ tB, tB = t ++ ⟨#[32, 124, 32]⟩ := ⟨_, rfl⟩
          rw [← htB] at hwB HJB0 hsB
          have HWB := Lib.hid hwB
          have HJB := Lib.hid HJB0.out
          have HTB := Lib.hid (show text.size ≤ tB.size ∧ tB.size ≤ text.size + wtL (ps.take i) + 3 ∧ wtL (ps.take i) + (8 + p.wt) ≤ wtL ps from by rw [hsB]; have := HS.out; have := HWL.out; omega)
          clear HSW hwB hkB htB hsB HJB0 HWA HKA HP0 HXA hpa hxa HW HJ HO hig
          by_cases hkk : p.k = 4
          · have HF := Lib.hid (HBAD.out (by unfold goodP; simp [hkk]))
            obtain ⟨pk, pa, pb, pps⟩ := p
            dsimp only [RT.k, RT.a, RT.b, RT.ps] at *
            subst hkk
            have HWC := Lib.hid (HWB.out.flag true)
            have HPC := Lib.hid (HPB.out.other (a := ⟨wb, 2, none⟩) HNP.out (.bool true))
            have HXC := Lib.hid (HXB.out.other (a := ⟨wb, 2, none⟩) HNX.out (.bool true))
            have HKC := Lib.hid (WKept.next HKB.out (WKept.flag (b := wb) HB.out (.bool true)))
            have pbc := HPB.out.cells
            have xb := HXB.out.cells
            have pc := HPC.out.cells
            have xc := HXC.out.cells
            obtain ⟨eb, fb⟩ := HWB.out.odd2
            obtain ⟨ec, fc⟩ := HWC.out.odd2
            clear hmem
            go_wp2_with fail
            rw [HF.out]
            (try simp only [Exit.inBlock, Exit.then])
            refine bodyPost_ret (results_none rfl _ _ _) rfl ?_
            exact ⟨rfl, tB, HWC.out, (by have := HTB.out; omega), (by have := HTB.out; have := HWL.out; omega), (fun h => by cases h), WKept.next HK1.out HKC.out⟩
          · have hpk : (p.k == 4) = false := by rw [beq_eq_false_iff_ne]; exact hkk
            have hgood : goodP 4 d p = p.textOk d := by unfold goodP innerD; simp [hkk, hd]
            have HWC := Lib.hid (HWB.out.flag false)
            have HPC := Lib.hid (HPB.out.other (a := ⟨wb, 2, none⟩) HNP.out (.bool false))
            have HXC := Lib.hid (HXB.out.other (a := ⟨wb, 2, none⟩) HNX.out (.bool false))
            have HKC := Lib.hid (WKept.next HKB.out (WKept.flag (b := wb) HB.out (.bool false)))
            have pb := HPB.out.cells
            have xb := HXB.out.cells
            have pc := HPC.out.cells
            have xc := HXC.out.cells
            obtain ⟨eb, fb⟩ := HWB.out.odd2
            obtain ⟨ec, fc⟩ := HWC.out.odd2
            have HR := Lib.hid (IH.out p hmem _ d _ tB (HAT.out.same (Same.below (WKept.next HK1.out HKC.out).below)) (by have := HTB.out; have := HLIM.out; omega) (by have := HTB.out; have := HPOS.out; omega) hd HWC.out (Nat.le_trans HBW.out (WKept.next HK1.out HKC.out).size))
            unfold rV at HR
            clear hmem
            go_wp2_with fail
            refine HR.out.mono ?_
            rintro e wD ⟨rfl, tD, hwD, hs1, hs2, hadd, hkD⟩
            have HWD := Lib.hid hwD
            have HKD := Lib.hid (WKept.next HKC.out hkD)
            have HSD := Lib.hid (show text.size ≤ tD.size ∧ tD.size ≤ text.size + wtL (ps.take (i + 1)) from by have := HTB.out; have := HWT.out; omega)
            have HOD := Lib.hid (show (!(p.textOk d)) = !((ps.take (i + 1)).all (goodP 4 d)) from by rw [HGD.out, hgood])
            have HJD := Lib.hid (show (!(p.textOk d)) = false → tD = text ++ joinT 4 (ps.take (i + 1)) from fun h => by
              rw [← HJB.out, hadd (by simpa using h)]
              unfold txtP
              rw [if_neg (by simp)])
            clear pb xb pc xc eb fb ec fc
            clear HR hwD hs1 hs2 hadd hkD HWB HKB HPB HXB HWC HPC HXC HKC hgood hd0 hd1 hd2 hd3
            go_wp2_with fail
            go_roundw
            case rel => exact ⟨i + 1, tD, _, by omega, by go_num, HOD.out, HWD.out, HSD.out.1, HSD.out.2, HJD.out, HKD.out⟩
            case measure => simp [intOf]; omega
    · obtain rfl : i = ps.length := by omega
      rw [List.take_length] at HO HJ HS
      have HO2 := Lib.hid (show (!g) = o from by rw [HG.out]; exact HO.out.symm)
      have HKE := Lib.hid (WKept.next HK1.out hk)
      have HJE := Lib.hid (show g = true → t = text ++ joinT 4 ps from fun h => HJ.out (by rw [← HO2.out, h]; rfl))
      have HW2 := Lib.hid HW.out
      clear hk HJ HW HO
      go_wp2_with fail
      go_end0
      exact ⟨rfl, t, by rw [HO2.out]; exact HW2.out, HS.out.1, HS.out.2, HJE.out, HKE.out⟩

end Go.Proofs.Ytipddhcfcehcaaa
