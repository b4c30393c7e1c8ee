/- Lemmas for the claim, no condition. -/
import Derived.Test.YtjdigpfipmckhaaGreatYReWalks2
namespace Go.Proofs.YtjdigpfipmckhaaGreat
open Go Go.RowKit
def headOk (ts : List TyS) (t : TyS) (k : Int) (a b : ByteArray) : Bool := !((k == 2 && !hasT t a) || (k == 3 && (!hasT t a || !anyT ts b)))
mutual
def RT.named (ts : List TyS) (t : TyS) : RT → Bool | .mk k a b ps => headOk ts t k a b && namedL ts t ps
def namedL (ts : List TyS) (t : TyS) : List RT → Bool | [] => true | r :: rs => r.named ts t && namedL ts t rs
end
theorem namedL_eq (ts : List TyS) (t : TyS) : ∀ l : List RT, namedL ts t l = l.all fun r => r.named ts t
  | [] => rfl
  | r :: rs => by rw [namedL, List.all_cons, namedL_eq ts t rs]
theorem RT.named_eq (ts : List TyS) (t : TyS) (r : RT) : r.named ts t = (!((r.k == 2 && !hasT t r.a) || (r.k == 3 && (!hasT t r.a || !anyT ts r.b))) && r.ps.all fun r => r.named ts t) := by
  obtain ⟨k, a, b, ps⟩ := r
  rw [RT.named, namedL_eq]
  rfl
set_option maxRecDepth 100000 in
set_option maxHeartbeats 4000000 in
theorem named06_any (ts : List TyS) (t : TyS) (tv rv : Value) (r : RT) : ∀ (pv : Value) (w : World), TysAt (· < w.heap.size) w ts tv → RelsAt (· < w.heap.size) w t.rels rv → RTAt (· < w.heap.size) w r pv → Calls Tryz.prog 62 #[.agg #[tv], .agg #[.string t.name, rv], rV r pv] w fun e w' => e = .returned (.bool (r.named ts t)) ∧ Below w.heap.size w w' := by
  induction r using RT.ind with
  | h r ih =>
  intro pv w hts hrs hat
  obtain ⟨ao, c, rfl, hlc, hcm, hcell⟩ := hat.rows
  obtain ⟨to, tc, htv, -⟩ := hts.rows
  obtain ⟨ro, rc, hrv, -⟩ := hrs.rows
  have HC := Lib.hid hcell
  have HI := Lib.hid ih
  have HTS := Lib.hid hts
  have HRS := Lib.hid hrs
  have HE := Lib.hid (r.named_eq ts t)
  have HT := Lib.hid (fun (w' : World) (hb : Below w.heap.size w w') => has_any t rv r.a w' (hrs.up hb))
  have HA := Lib.hid (fun (w' : World) (hb : Below w.heap.size w w') => anywhere_any ts tv r.b w' (hts.up hb))
  clear hat hcell ih hts hrs
  generalize r.named ts t = g at *
  unfold rV
  generalize r.ps = ps at *
  generalize r.k = k at *
  generalize r.a = ra at *
  generalize r.b = rb at *
  generalize hasT t ra = ha at *
  generalize anyT ts rb = hb at *
  obtain ⟨w3, hw3⟩ : ∃ w3, w3 = ((w.alloc (.cells #[tv] 24)).alloc (.cells #[.string t.name, rv] 95)).alloc (.cells #[.int .i64 k, .string ra, .string rb, .slice ao ps.length c] 98) := ⟨_, rfl⟩
  have hS3 : Blk w3 w.heap.size #[tv] 24 := by rw [hw3]; exact ((Blk.made w #[tv] 24).alloc _).alloc _
  have hT3 : Blk w3 (w.heap.size + 1) #[.string t.name, rv] 95 := by rw [hw3]; exact (Blk.made' (w := w.alloc (.cells #[tv] 24)) (B := w.heap.size + 1) (by simp) #[.string t.name, rv] 95).alloc _
  have hR3 : Blk w3 (w.heap.size + 2) #[.int .i64 k, .string ra, .string rb, .slice ao ps.length c] 98 := by rw [hw3]; exact Blk.made' (w := (w.alloc (.cells #[tv] 24)).alloc (.cells #[.string t.name, rv] 95)) (B := w.heap.size + 2) (by simp) #[.int .i64 k, .string ra, .string rb, .slice ao ps.length c] 98
  have hb3 : Below w.heap.size w w3 := by rw [hw3]; exact (((Below.refl _ _).alloc (Nat.le_refl _) _).alloc (by simp) _).alloc (by simp; omega) _
  subst htv hrv
  have HS3 := Lib.hid hS3
  have HT3 := Lib.hid hT3
  have HR3 := Lib.hid hR3
  have HB3 := Lib.hid hb3
  have HW3 := Lib.hid hw3
  clear hS3 hT3 hR3 hb3 hw3
  have hch : (k = 2 ∧ ha = false) ∨ (k = 2 ∧ ha = true) ∨ (k = 3 ∧ ha = false) ∨ (k = 3 ∧ ha = true ∧ hb = false) ∨ (k = 3 ∧ ha = true ∧ hb = true) ∨ (k ≠ 2 ∧ k ≠ 3) := by
    cases ha <;> cases hb <;> simp <;> omega
  have HCE := Lib.hid (show ∀ W, Below w3.heap.size w3 W → (∀ i, W.cell? ⟨w.heap.size, i, none⟩ = (#[.slice to ts.length tc] : Array Value)[i]?) ∧ (∀ i, W.cell? ⟨w.heap.size + 1, i, none⟩ = (#[.string t.name, .slice ro t.rels.length rc] : Array Value)[i]?) ∧ (∀ i, W.cell? ⟨w.heap.size + 2, i, none⟩ = (#[.int .i64 k, .string ra, .string rb, .slice ao ps.length c] : Array Value)[i]?) from fun W hW => ⟨(HS3.out.below hW).cells, (HT3.out.below hW).cells, (HR3.out.below hW).cells⟩)
  obtain ⟨cS, cT, cR⟩ := HCE.out w3 (Below.refl _ _)
  rw [HW3.out] at cS cT cR
  go_enter Tryz.func62, Tryz.ntmps62
  rcases hch with ⟨rfl, rfl⟩ | ⟨rfl, rfl⟩ | ⟨rfl, rfl⟩ | ⟨rfl, rfl, rfl⟩ | ⟨rfl, rfl, rfl⟩ | ⟨h2, h3⟩
  · have HG := Lib.hid (show g = false from by rw [HE.out]; rfl)
    go_wp2_with fail
    rw [← HW3.out]
    clear cS cT cR
    refine (HT.out w3 HB3.out).mono ?_
    rintro e w4 ⟨rfl, hb4⟩
    obtain ⟨cS, cT, cR⟩ := HCE.out w4 hb4
    have HBE := Lib.hid (HB3.out.trans (hb4.mono HB3.out.size))
    clear hb4
    go_wp2_with fail
    go_ret
    exact ⟨by rw [HG.out]; rfl, HBE.out⟩
  · have HG := Lib.hid (show g = ps.all fun r => r.named ts t from by rw [HE.out]; simp)
    go_wp2_with fail
    rw [← HW3.out]
    clear cS cT cR
    refine (HT.out w3 HB3.out).mono ?_
    rintro e w4 ⟨rfl, hb4⟩
    obtain ⟨cS, cT, cR⟩ := HCE.out w4 hb4
    have HBL := Lib.hid hb4
    clear hb4
    go_wp2_with fail
    try rw [← HW3.out]
    clear cS cT cR
    go_loopw [41] (fun ii wr => ∃ i : Nat, i ≤ ps.length ∧ ii = .int .i64 i ∧ (∀ j (hj : j < ps.length), j < i → ps[j].named ts t = true) ∧ Below w3.heap.size w3 wr) (fun ii _ => ps.length - (intOf ii).toNat)
    case atStart => exact ⟨0, by omega, rfl, fun _ _ h => absurd h (by omega), HBL.out⟩
    case round =>
      obtain ⟨i, hi, rfl, hall, hb3r⟩ := hrel
      have HALL := Lib.hid hall
      have hbel : Below w.heap.size w wr := HB3.out.trans (hb3r.mono HB3.out.size)
      clear HBL hall
      by_cases hlt : i < ps.length
      · have HUP := fun h => Lib.hid (upto_succ (p := fun j hj => ps[j].named ts t = true) HALL.out hlt h)
        have HAN := fun (h : ps[i].named ts t = false) => Lib.hid (show g = false from by rw [HG.out]; exact List.all_eq_false.2 ⟨ps[i], List.getElem_mem hlt, by rw [h]; exact Bool.false_ne_true⟩)
        obtain ⟨b, off, pv2, hbo, hb, c0, c1, c2, c3, hat2⟩ := HC.out i hlt
        cases hbo
        have d0 := (hbel.cell (p := ⟨b, off + i * 4, none⟩) hb).trans c0
        have d1 := (hbel.cell (p := ⟨b, off + i * 4 + 1, none⟩) hb).trans c1
        have d2 := (hbel.cell (p := ⟨b, off + i * 4 + 2, none⟩) hb).trans c2
        have d3 := (hbel.cell (p := ⟨b, off + i * 4 + 3, none⟩) hb).trans c3
        obtain ⟨ao2, c2', rfl, -⟩ := hat2.rows
        have hb1 := hbel.alloc hbel.size (.cells #[.int .i64 ps[i].k, .string ps[i].a, .string ps[i].b, .slice ao2 ps[i].ps.length c2'] 98)
        have hat3 := hat2.up hb1
        have hbx := (Blk.made wr #[.int .i64 ps[i].k, .string ps[i].a, .string ps[i].b, .slice ao2 ps[i].ps.length c2'] 98).cells
        have HB1 := Lib.hid hb1
        clear c0 c1 c2 c3 hat2 hb1 hbel
        have HB3R := Lib.hid (hb3r.alloc hb3r.size (.cells #[.int .i64 ps[i].k, .string ps[i].a, .string ps[i].b, .slice ao2 ps[i].ps.length c2'] 98))
        obtain ⟨cS, cT, cR⟩ := HCE.out _ HB3R.out
        have HR := Lib.hid (HI.out ps[i] (List.getElem_mem hlt) _ _ (HTS.out.up HB1.out) (HRS.out.up HB1.out) hat3)
        unfold rV at HR
        clear hat3 hb3r
        generalize ps[i] = p at *
        cases hx : p.named ts t with
        | true =>
          rw [hx] at HR
          have HN := HUP hx
          clear HUP HAN hx
          go_wp2_with fail
          refine HR.out.mono ?_
          rintro e w6 ⟨rfl, hb6⟩
          have HB6 := Lib.hid (HB3R.out.trans (hb6.mono HB3R.out.size))
          clear HR hb6 hbx d0 d1 d2 d3 HB1 cS cT cR
          go_wp2_with fail
          go_roundw
          case rel => exact ⟨i + 1, by omega, by go_num, HN.out, HB6.out⟩
          case measure => simp [intOf]; omega
        | false =>
          rw [hx] at HR
          have HF := HAN hx
          clear HUP HAN hx
          go_wp2_with fail
          refine HR.out.mono ?_
          rintro e w6 ⟨rfl, hb6⟩
          have HB6 := Lib.hid (HB1.out.trans (hb6.mono HB1.out.size))
          clear HR hb6 hbx d0 d1 d2 d3 HB1 cS cT cR
          go_wp2_with fail
          go_ret
          exact ⟨by rw [HF.out]; rfl, HB6.out⟩
      · obtain rfl : i = ps.length := by omega
        have HF := Lib.hid (show g = true from by
          rw [HG.out, List.all_eq_true]
          intro x hx
          obtain ⟨j, hj, rfl⟩ := List.getElem_of_mem hx
          exact HALL.out j hj hj)
        have HBE := Lib.hid hbel
        clear hbel
        go_wp2_with fail
        go_ret
        exact ⟨by rw [HF.out]; rfl, HBE.out⟩
  · have HG := Lib.hid (show g = false from by rw [HE.out]; simp)
    go_wp2_with fail
    rw [← HW3.out]
    clear cS cT cR
    refine (HT.out w3 HB3.out).mono ?_
    rintro e w4 ⟨rfl, hb4⟩
    obtain ⟨cS, cT, cR⟩ := HCE.out w4 hb4
    have HBE := Lib.hid (HB3.out.trans (hb4.mono HB3.out.size))
    clear hb4
    go_wp2_with fail
    go_ret
    exact ⟨by rw [HG.out]; rfl, HBE.out⟩
  · have HG := Lib.hid (show g = false from by rw [HE.out]; simp)
    go_wp2_with fail
    rw [← HW3.out]
    clear cS cT cR
    refine (HT.out w3 HB3.out).mono ?_
    rintro e w4 ⟨rfl, hb4⟩
    obtain ⟨cS, cT, cR⟩ := HCE.out w4 hb4
    have HA4 := Lib.hid (HA.out w4 (HB3.out.trans (hb4.mono HB3.out.size)))
    go_wp2_with fail
    clear cS cT cR
    refine HA4.out.mono ?_
    rintro e w5 ⟨rfl, hb5⟩
    replace hb4 := hb4.trans (hb5.mono hb4.size)
    clear HA4 hb5
    obtain ⟨cS, cT, cR⟩ := HCE.out w5 hb4
    have HBE := Lib.hid (HB3.out.trans (hb4.mono HB3.out.size))
    clear hb4
    go_wp2_with fail
    go_ret
    exact ⟨by rw [HG.out]; rfl, HBE.out⟩
  · have HG := Lib.hid (show g = ps.all fun r => r.named ts t from by rw [HE.out]; simp)
    go_wp2_with fail
    rw [← HW3.out]
    clear cS cT cR
    refine (HT.out w3 HB3.out).mono ?_
    rintro e w4 ⟨rfl, hb4⟩
    obtain ⟨cS, cT, cR⟩ := HCE.out w4 hb4
    have HA4 := Lib.hid (HA.out w4 (HB3.out.trans (hb4.mono HB3.out.size)))
    go_wp2_with fail
    clear cS cT cR
    refine HA4.out.mono ?_
    rintro e w5 ⟨rfl, hb5⟩
    replace hb4 := hb4.trans (hb5.mono hb4.size)
    clear HA4 hb5
    obtain ⟨cS, cT, cR⟩ := HCE.out w5 hb4
    have HBL := Lib.hid hb4
    clear hb4
    go_wp2_with fail
    try rw [← HW3.out]
    clear cS cT cR
    go_loopw [41] (fun ii wr => ∃ i : Nat, i ≤ ps.length ∧ ii = .int .i64 i ∧ (∀ j (hj : j < ps.length), j < i → ps[j].named ts t = true) ∧ Below w3.heap.size w3 wr) (fun ii _ => ps.length - (intOf ii).toNat)
    case atStart => exact ⟨0, by omega, rfl, fun _ _ h => absurd h (by omega), HBL.out⟩
    case round =>
      obtain ⟨i, hi, rfl, hall, hb3r⟩ := hrel
      have HALL := Lib.hid hall
      have hbel : Below w.heap.size w wr := HB3.out.trans (hb3r.mono HB3.out.size)
      clear HBL hall
      by_cases hlt : i < ps.length
      · have HUP := fun h => Lib.hid (upto_succ (p := fun j hj => ps[j].named ts t = true) HALL.out hlt h)
        have HAN := fun (h : ps[i].named ts t = false) => Lib.hid (show g = false from by rw [HG.out]; exact List.all_eq_false.2 ⟨ps[i], List.getElem_mem hlt, by rw [h]; exact Bool.false_ne_true⟩)
        obtain ⟨b, off, pv2, hbo, hb, c0, c1, c2, c3, hat2⟩ := HC.out i hlt
        cases hbo
        have d0 := (hbel.cell (p := ⟨b, off + i * 4, none⟩) hb).trans c0
        have d1 := (hbel.cell (p := ⟨b, off + i * 4 + 1, none⟩) hb).trans c1
        have d2 := (hbel.cell (p := ⟨b, off + i * 4 + 2, none⟩) hb).trans c2
        have d3 := (hbel.cell (p := ⟨b, off + i * 4 + 3, none⟩) hb).trans c3
        obtain ⟨ao2, c2', rfl, -⟩ := hat2.rows
        have hb1 := hbel.alloc hbel.size (.cells #[.int .i64 ps[i].k, .string ps[i].a, .string ps[i].b, .slice ao2 ps[i].ps.length c2'] 98)
        have hat3 := hat2.up hb1
        have hbx := (Blk.made wr #[.int .i64 ps[i].k, .string ps[i].a, .string ps[i].b, .slice ao2 ps[i].ps.length c2'] 98).cells
        have HB1 := Lib.hid hb1
        clear c0 c1 c2 c3 hat2 hb1 hbel
        have HB3R := Lib.hid (hb3r.alloc hb3r.size (.cells #[.int .i64 ps[i].k, .string ps[i].a, .string ps[i].b, .slice ao2 ps[i].ps.length c2'] 98))
        obtain ⟨cS, cT, cR⟩ := HCE.out _ HB3R.out
        have HR := Lib.hid (HI.out ps[i] (List.getElem_mem hlt) _ _ (HTS.out.up HB1.out) (HRS.out.up HB1.out) hat3)
        unfold rV at HR
        clear hat3 hb3r
        generalize ps[i] = p at *
        cases hx : p.named ts t with
        | true =>
          rw [hx] at HR
          have HN := HUP hx
          clear HUP HAN hx
          go_wp2_with fail
          refine HR.out.mono ?_
          rintro e w6 ⟨rfl, hb6⟩
          have HB6 := Lib.hid (HB3R.out.trans (hb6.mono HB3R.out.size))
          clear HR hb6 hbx d0 d1 d2 d3 HB1 cS cT cR
          go_wp2_with fail
          go_roundw
          case rel => exact ⟨i + 1, by omega, by go_num, HN.out, HB6.out⟩
          case measure => simp [intOf]; omega
        | false =>
          rw [hx] at HR
          have HF := HAN hx
          clear HUP HAN hx
          go_wp2_with fail
          refine HR.out.mono ?_
          rintro e w6 ⟨rfl, hb6⟩
          have HB6 := Lib.hid (HB1.out.trans (hb6.mono HB1.out.size))
          clear HR hb6 hbx d0 d1 d2 d3 HB1 cS cT cR
          go_wp2_with fail
          go_ret
          exact ⟨by rw [HF.out]; rfl, HB6.out⟩
      · obtain rfl : i = ps.length := by omega
        have HF := Lib.hid (show g = true from by
          rw [HG.out, List.all_eq_true]
          intro x hx
          obtain ⟨j, hj, rfl⟩ := List.getElem_of_mem hx
          exact HALL.out j hj hj)
        have HBE := Lib.hid hbel
        clear hbel
        go_wp2_with fail
        go_ret
        exact ⟨by rw [HF.out]; rfl, HBE.out⟩
  · have hk2 : (k == 2) = false := by rw [beq_eq_false_iff_ne]; exact h2
    have hk3 : (k == 3) = false := by rw [beq_eq_false_iff_ne]; exact h3
    have HG := Lib.hid (show g = ps.all fun r => r.named ts t from by rw [HE.out, hk2, hk3]; simp)
    clear h2 h3
    have HBL := Lib.hid (Below.refl w3.heap.size w3)
    go_wp2_with fail
    try rw [← HW3.out]
    go_loopw [41] (fun ii wr => ∃ i : Nat, i ≤ ps.length ∧ ii = .int .i64 i ∧ (∀ j (hj : j < ps.length), j < i → ps[j].named ts t = true) ∧ Below w3.heap.size w3 wr) (fun ii _ => ps.length - (intOf ii).toNat)
    case atStart => exact ⟨0, by omega, rfl, fun _ _ h => absurd h (by omega), HBL.out⟩
    case round =>
      obtain ⟨i, hi, rfl, hall, hb3r⟩ := hrel
      have HALL := Lib.hid hall
      have hbel : Below w.heap.size w wr := HB3.out.trans (hb3r.mono HB3.out.size)
      clear HBL hall
      by_cases hlt : i < ps.length
      · have HUP := fun h => Lib.hid (upto_succ (p := fun j hj => ps[j].named ts t = true) HALL.out hlt h)
        have HAN := fun (h : ps[i].named ts t = false) => Lib.hid (show g = false from by rw [HG.out]; exact List.all_eq_false.2 ⟨ps[i], List.getElem_mem hlt, by rw [h]; exact Bool.false_ne_true⟩)
        obtain ⟨b, off, pv2, hbo, hb, c0, c1, c2, c3, hat2⟩ := HC.out i hlt
        cases hbo
        have d0 := (hbel.cell (p := ⟨b, off + i * 4, none⟩) hb).trans c0
        have d1 := (hbel.cell (p := ⟨b, off + i * 4 + 1, none⟩) hb).trans c1
        have d2 := (hbel.cell (p := ⟨b, off + i * 4 + 2, none⟩) hb).trans c2
        have d3 := (hbel.cell (p := ⟨b, off + i * 4 + 3, none⟩) hb).trans c3
        obtain ⟨ao2, c2', rfl, -⟩ := hat2.rows
        have hb1 := hbel.alloc hbel.size (.cells #[.int .i64 ps[i].k, .string ps[i].a, .string ps[i].b, .slice ao2 ps[i].ps.length c2'] 98)
        have hat3 := hat2.up hb1
        have hbx := (Blk.made wr #[.int .i64 ps[i].k, .string ps[i].a, .string ps[i].b, .slice ao2 ps[i].ps.length c2'] 98).cells
        have HB1 := Lib.hid hb1
        clear c0 c1 c2 c3 hat2 hb1 hbel
        have HB3R := Lib.hid (hb3r.alloc hb3r.size (.cells #[.int .i64 ps[i].k, .string ps[i].a, .string ps[i].b, .slice ao2 ps[i].ps.length c2'] 98))
        obtain ⟨cS, cT, cR⟩ := HCE.out _ HB3R.out
        have HR := Lib.hid (HI.out ps[i] (List.getElem_mem hlt) _ _ (HTS.out.up HB1.out) (HRS.out.up HB1.out) hat3)
        unfold rV at HR
        clear hat3 hb3r
        generalize ps[i] = p at *
        cases hx : p.named ts t with
        | true =>
          rw [hx] at HR
          have HN := HUP hx
          clear HUP HAN hx
          go_wp2_with fail
          refine HR.out.mono ?_
          rintro e w6 ⟨rfl, hb6⟩
          have HB6 := Lib.hid (HB3R.out.trans (hb6.mono HB3R.out.size))
          clear HR hb6 hbx d0 d1 d2 d3 HB1 cS cT cR
          go_wp2_with fail
          go_roundw
          case rel => exact ⟨i + 1, by omega, by go_num, HN.out, HB6.out⟩
          case measure => simp [intOf]; omega
        | false =>
          rw [hx] at HR
          have HF := HAN hx
          clear HUP HAN hx
          go_wp2_with fail
          refine HR.out.mono ?_
          rintro e w6 ⟨rfl, hb6⟩
          have HB6 := Lib.hid (HB1.out.trans (hb6.mono HB1.out.size))
          clear HR hb6 hbx d0 d1 d2 d3 HB1 cS cT cR
          go_wp2_with fail
          go_ret
          exact ⟨by rw [HF.out]; rfl, HB6.out⟩
      · obtain rfl : i = ps.length := by omega
        have HF := Lib.hid (show g = true from by
          rw [HG.out, List.all_eq_true]
          intro x hx
          obtain ⟨j, hj, rfl⟩ := List.getElem_of_mem hx
          exact HALL.out j hj hj)
        have HBE := Lib.hid hbel
        clear hbel
        go_wp2_with fail
        go_ret
        exact ⟨by rw [HF.out]; rfl, HBE.out⟩
end Go.Proofs.YtjdigpfipmckhaaGreat
namespace Go.Proofs.YtjdigpfipmckhaaGreat
open Go Go.RowKit
theorem wrap_hi (x : Int) : wrap64 x ≤ 9223372036854775807 := by unfold wrap64; omega
def fewR : List (ByteArray × RT) → Int → Option Int
  | [], left => some left
  | x :: rs, left => if left < 0 then none else fewR rs (x.2.small (left - ((x.1.size / 100 : Nat) : Int)))
def fewT : List TyS → Int → Bool
  | [], left => decide (0 ≤ left)
  | t :: ts, left => match fewR t.rels (wrap64 (wrap64 (left - 1) - ((t.name.size / 100 : Nat) : Int))) with
    | none => false
    | some l => fewT ts l
set_option maxRecDepth 100000 in
set_option maxHeartbeats 4000000 in
theorem few05_any (ts : List TyS) (tv : Value) (w : World) (h : TysAt (· < w.heap.size) w ts tv) (hok : ∀ t ∈ ts, t.Ok) : Calls Tryz.prog 13 #[.agg #[tv]] w fun e w' => e = .returned (.bool (fewT ts 200)) ∧ Below w.heap.size w w' := by
  obtain ⟨ao, c, rfl, hlc, hcm, hcell⟩ := h.rows
  have HC := Lib.hid hcell
  have HOK := Lib.hid hok
  generalize hg : fewT ts 200 = g
  have HG0 := Lib.hid hg.symm
  have hbk := (Blk.made w #[.slice ao ts.length c] 24).cells
  have HB0 := Lib.hid (show Below w.heap.size w (w.alloc (.cells #[.slice ao ts.length c] 24)) from (Below.refl _ _).alloc (Nat.le_refl _) _)
  clear h hcell hok hg
  go_enter Tryz.func13, Tryz.ntmps13
  go_wp2_with fail
  clear hbk
  go_loopw [3, 11] (fun lv ii wr => ∃ (i : Nat) (L : Int), i ≤ ts.length ∧ ii = .int .i64 i ∧ lv = .int .i64 L ∧ g = fewT (ts.drop i) L ∧ Below w.heap.size w wr) (fun _ ii _ => ts.length - (intOf ii).toNat)
  case atStart => exact ⟨0, 200, by omega, rfl, rfl, HG0.out, HB0.out⟩
  case round =>
    obtain ⟨i, L, hi, rfl, rfl, hgl, hbel⟩ := hrel
    clear HB0 HG0
    by_cases hlt : i < ts.length
    · rw [List.drop_eq_getElem_cons hlt, fewT] at hgl
      have hokt := HOK.out _ (List.getElem_mem hlt)
      obtain ⟨b, off, pv2, hbo, hb, c0, c1, hat2⟩ := HC.out i hlt
      cases hbo
      have d0 := (hbel.cell (p := ⟨b, off + i * 2, none⟩) hb).trans c0
      have d1 := (hbel.cell (p := ⟨b, off + i * 2 + 1, none⟩) hb).trans c1
      obtain ⟨ao2, c2', rfl, -⟩ := hat2.rows
      have hb1 := hbel.alloc hbel.size (.cells #[.string ts[i].name, .slice ao2 ts[i].rels.length c2'] 95)
      have hat3 := hat2.up hb1
      have HBT := Lib.hid (Blk.made wr #[.string ts[i].name, .slice ao2 ts[i].rels.length c2'] 95)
      have hbx := HBT.out.cells
      have HB1 := Lib.hid hb1
      clear c0 c1 hat2 hb1 hbel
      have HI1 := Lib.hid hlt
      generalize ts[i] = t at *
      obtain ⟨tn, rels⟩ := t
      dsimp only at *
      obtain ⟨hon, hor⟩ := hokt
      dsimp only at hon hor
      have hqn : ((tn.size : Int)).tdiv 100 = ((tn.size / 100 : Nat) : Int) := by rw [Int.tdiv_eq_ediv_of_nonneg (by omega)]; omega
      have hln : tn.size / 100 ≤ 92233720368547758 := by omega
      generalize tn.size / 100 = qn at *
      have hw4 : wrap64 (qn : Int) = (qn : Int) := wrap_in _ (by omega) (by omega)
      obtain ⟨L1, hL1⟩ : ∃ L1, L1 = wrap64 (wrap64 (L - 1) - (qn : Int)) := ⟨_, rfl⟩
      have hL1h : L1 ≤ 9223372036854775807 := by rw [hL1]; exact wrap_hi _
      rw [← hL1] at hgl
      have HL1 := Lib.hid hL1
      have HL1h := Lib.hid hL1h
      have HGL := Lib.hid hgl
      have HOR := Lib.hid hor
      obtain ⟨ao3, c3, hv3, hlc3, hcm3, hcell3⟩ := hat3.rows
      injection hv3 with hv31 hv32 hv33
      subst hv31 hv33
      have HC3 := Lib.hid hcell3
      clear hgl hL1 hL1h hor hon hln hat3 hcell3 hv32
      go_wp2_with fail
      clear hlt
      rw [← HL1.out]
      clear hbx d0 d1 hqn hw4 HL1
      obtain ⟨wq, hwq⟩ : ∃ wq, wq = wr.alloc (.cells #[.string tn, .slice ao2 rels.length c2'] 95) := ⟨_, rfl⟩
      rw [← hwq] at HB1 HC3 ⊢
      have HBQ := Lib.hid HB1.out
      clear hwq HB1
      go_loopw [3, 25] (fun mv jj wr => ∃ (j : Nat) (M : Int), j ≤ rels.length ∧ jj = .int .i64 j ∧ mv = .int .i64 M ∧ M ≤ 9223372036854775807 ∧ fewR rels L1 = fewR (rels.drop j) M ∧ Below wq.heap.size wq wr) (fun _ jj _ => rels.length - (intOf jj).toNat)
      case atStart => exact ⟨0, L1, by omega, rfl, rfl, HL1h.out, rfl, Below.refl _ _⟩
      case round =>
        obtain ⟨j, M, hj, rfl, rfl, hMh, hfr, hbq⟩ := hrel
        clear HL1h
        by_cases hlt : j < rels.length
        · rw [List.drop_eq_getElem_cons hlt] at hfr
          have hokr := HOR.out _ (List.getElem_mem hlt)
          have hbel := hbq
          obtain ⟨b, off, pv2, hbo, hb, c0, c1, c2, c3, c4, hat2⟩ := HC3.out j hlt
          cases hbo
          have d0 := (hbel.cell (p := ⟨b, off + j * 5, none⟩) hb).trans c0
          have d1 := (hbel.cell (p := ⟨b, off + j * 5 + 1, none⟩) hb).trans c1
          have d2 := (hbel.cell (p := ⟨b, off + j * 5 + 2, none⟩) hb).trans c2
          have d3 := (hbel.cell (p := ⟨b, off + j * 5 + 3, none⟩) hb).trans c3
          have d4 := (hbel.cell (p := ⟨b, off + j * 5 + 4, none⟩) hb).trans c4
          obtain ⟨ao2, c2', rfl, -⟩ := hat2.rows
          have hb1 := hbel.alloc hbel.size (.cells #[.string rels[j].1, .int .i64 rels[j].2.k, .string rels[j].2.a, .string rels[j].2.b, .slice ao2 rels[j].2.ps.length c2'] 100)
          have hat3 := hat2.up hb1
          have HBK := Lib.hid (Blk.made wr #[.string rels[j].1, .int .i64 rels[j].2.k, .string rels[j].2.a, .string rels[j].2.b, .slice ao2 rels[j].2.ps.length c2'] 100)
          have hbx := HBK.out.cells
          have HB1 := Lib.hid hb1
          clear c0 c1 c2 c3 c4 hat2 hb1 hbel
          generalize rels[j] = x at *
          obtain ⟨xn, p⟩ := x
          dsimp only at *
          rw [fewR] at hfr
          by_cases hneg : M < 0
          · rw [if_pos hneg] at hfr
            have HF := Lib.hid (show g = false from by rw [HGL.out, hfr])
            have HBE := Lib.hid (HBQ.out.trans (HB1.out.mono HBQ.out.size))
            clear hfr hat3 hokr hbq
            go_wp2_with fail
            go_ret
            exact ⟨by rw [HF.out]; rfl, HBE.out⟩
          · rw [if_neg hneg] at hfr
            obtain ⟨hox, hop⟩ := hokr
            obtain ⟨qx, hqx⟩ : ∃ qx : Nat, qx = xn.size / 100 := ⟨_, rfl⟩
            rw [← hqx] at hfr
            have hlx : qx ≤ 92233720368547758 := by rw [hqx]; omega
            have HQX := Lib.hid (show ((xn.size : Int)).tdiv 100 = (qx : Int) from by rw [hqx, Int.tdiv_eq_ediv_of_nonneg (by omega)]; omega)
            clear hqx hox
            have hlo : -2305843009213693952 ≤ M - (qx : Int) := by omega
            have hhi : M - (qx : Int) ≤ 9223372036854775807 := by omega
            have HR := Lib.hid (small_any p _ (M - (qx : Int)) _ hat3 hop hlo hhi)
            unfold rV at HR
            have HSM := Lib.hid (show p.small (M - (qx : Int)) ≤ 9223372036854775807 from by have := p.small_le (M - (qx : Int)); omega)
            have HFR := Lib.hid hfr
            have hqx := HQX.out
            have hw5 : wrap64 (M - (qx : Int)) = M - (qx : Int) := wrap_in _ (Int.le_trans (by decide) hlo) hhi
            have hw4 : wrap64 (qx : Int) = (qx : Int) := wrap_in _ (by clear hw5 hqx; omega) (by clear hw5 hqx; omega)
            clear hfr hat3 hop hlx hbq hlo hhi
            go_wp2_with fail
            refine HR.out.mono ?_
            rintro e w5 ⟨rfl, hb5⟩
            have HB5 := Lib.hid (HB1.out.trans (hb5.mono HB1.out.size))
            clear HR hb5 hbx d0 d1 d2 d3 d4 HB1 hqx hw4 hw5 HQX
            go_wp2_with fail
            go_roundw
            case rel => exact ⟨j + 1, p.small (M - (qx : Int)), by omega, by go_num, rfl, HSM.out, HFR.out, HB5.out⟩
            case measure => simp [intOf]; omega
        · obtain rfl : j = rels.length := by omega
          rw [List.drop_length, fewR] at hfr
          have HF := Lib.hid (show g = fewT (ts.drop (i + 1)) M from by rw [HGL.out, hfr])
          have HBE := Lib.hid (HBQ.out.trans (hbq.mono HBQ.out.size))
          have hlt2 := HI1.out
          clear hfr hbq
          go_wp2_with fail
          go_roundw
          case rel => exact ⟨i + 1, M, by omega, by go_num, rfl, HF.out, HBE.out⟩
          case measure => simp [intOf]; omega
    · obtain rfl : i = ts.length := by omega
      rw [List.drop_length, fewT] at hgl
      have HBE := Lib.hid hbel
      by_cases h0 : 0 ≤ L
      · rw [decide_eq_true h0] at hgl
        have HF := Lib.hid hgl
        clear hbel hgl
        go_wp2_with fail
        go_ret
        exact ⟨by rw [HF.out]; simp, HBE.out⟩
      · rw [decide_eq_false h0] at hgl
        have HF := Lib.hid hgl
        clear hbel hgl
        go_wp2_with fail
        go_ret
        exact ⟨by rw [HF.out]; simp, HBE.out⟩
end Go.Proofs.YtjdigpfipmckhaaGreat
