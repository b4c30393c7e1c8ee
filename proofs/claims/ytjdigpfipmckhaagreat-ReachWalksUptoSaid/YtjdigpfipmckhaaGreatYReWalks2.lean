/- Lemmas for the claim, no condition. -/
import Derived.Lib.Hide
import Derived.Test.YtjdigpfipmckhaaGreatYReWalks1
namespace Go.Proofs.YtjdigpfipmckhaaGreat
open Go Go.RowKit
theorem szL_le (l : List RT) (i : Nat) : szL (l.take i) ≤ szL l := by
  conv => rhs; rw [← List.take_append_drop i l]
  rw [szL_append]
  omega
set_option maxRecDepth 100000 in
set_option maxHeartbeats 2000000 in
theorem sizeR_any (r : RT) : ∀ (pv : Value) (w : World), RTAt (· < w.heap.size) w r pv → r.sz ≤ 1000000 → Calls Tryz.prog 104 #[rV r pv] w fun e w' => e = .returned (.int .i64 r.sz) ∧ Below w.heap.size w w' := by
  induction r using RT.ind with
  | h r ih =>
  intro pv w hat hs
  obtain ⟨ao, c, rfl, hlc, hcm, hcell⟩ := hat.rows
  rw [RT.sz_eq] at hs
  have HC := Lib.hid hcell
  have HI := Lib.hid ih
  have HSZ := Lib.hid r.sz_eq
  have hbk := (Blk.made w #[.int .i64 r.k, .string r.a, .string r.b, .slice ao r.ps.length c] 98).cells
  have hb0 : Below w.heap.size w (w.alloc (.cells #[.int .i64 r.k, .string r.a, .string r.b, .slice ao r.ps.length c] 98)) := (Below.refl _ _).alloc (Nat.le_refl _) _
  have HB0 := Lib.hid hb0
  have HS := Lib.hid hs
  clear hat hcell ih hb0 hs
  unfold rV
  rw [HSZ.out]
  clear HSZ
  generalize hps : r.ps = ps at *
  clear hps
  go_enter Tryz.func104, Tryz.ntmps104
  go_wp2_with fail
  clear hbk
  go_loopw [3, 9] (fun nn ii wr => ∃ i : Nat, i ≤ ps.length ∧ ii = .int .i64 i ∧ nn = .int .i64 ((1 + szL (ps.take i) : Nat) : Int) ∧ Below w.heap.size w wr) (fun _ ii _ => ps.length - (intOf ii).toNat)
  case atStart => exact ⟨0, by omega, rfl, by simp [szL], HB0.out⟩
  case round =>
    obtain ⟨i, hi, rfl, rfl, hbel⟩ := hrel
    clear HB0
    by_cases hlt : i < ps.length
    · obtain ⟨b, off, pv2, rfl, hb, c0, c1, c2, c3, hat2⟩ := HC.out i hlt
      have d0 := (hbel.cell (p := ⟨b, off + i * 4, none⟩) hb).trans c0
      have d1 := (hbel.cell (p := ⟨b, off + i * 4 + 1, none⟩) hb).trans c1
      have d2 := (hbel.cell (p := ⟨b, off + i * 4 + 2, none⟩) hb).trans c2
      have d3 := (hbel.cell (p := ⟨b, off + i * 4 + 3, none⟩) hb).trans c3
      obtain ⟨ao2, c2', rfl, -⟩ := hat2.rows
      have hst := szL_take hlt
      have hle := szL_le ps (i + 1)
      have hsl := HS.out
      have hb1 := hbel.alloc hbel.size (.cells #[.int .i64 ps[i].k, .string ps[i].a, .string ps[i].b, .slice ao2 ps[i].ps.length c2'] 98)
      have HR := Lib.hid (HI.out ps[i] (List.getElem_mem hlt) _ _ (hat2.up hb1) (by have := szL_mem (List.getElem_mem hlt); omega))
      unfold rV at HR
      have HB1 := Lib.hid hb1
      have hbx := (Blk.made wr #[.int .i64 ps[i].k, .string ps[i].a, .string ps[i].b, .slice ao2 ps[i].ps.length c2'] 98).cells
      have HST := Lib.hid hst
      rw [hst] at hle
      clear c0 c1 c2 c3 hat2 hb1 hbel hst
      generalize ps[i] = p at *
      generalize szL (ps.take i) = sa at *
      go_wp2_with fail
      refine HR.out.mono ?_
      rintro e w5 ⟨rfl, hb5⟩
      have HB5 := Lib.hid (HB1.out.trans (hb5.mono HB1.out.size))
      clear HR hb5 hbx d0 d1 d2 d3 HB1
      generalize p.sz = ms at *
      go_wp2_with fail
      go_roundw
      case rel => exact ⟨i + 1, by omega, by go_num, by rw [HST.out]; go_num, HB5.out⟩
      case measure => simp [intOf]; omega
    · obtain rfl : i = ps.length := by omega
      rw [List.take_length]
      have HBE := Lib.hid hbel
      clear hbel
      go_wp2_with fail
      go_ret
      exact ⟨rfl, HBE.out⟩
set_option maxRecDepth 100000 in
set_option maxHeartbeats 2000000 in
theorem size06_any (r : RT) : ∀ (pv : Value) (w : World), RTAt (· < w.heap.size) w r pv → r.sz ≤ 1000000 → Calls Tryz.prog 61 #[rV r pv] w fun e w' => e = .returned (.int .i64 r.sz) ∧ Below w.heap.size w w' := by
  induction r using RT.ind with
  | h r ih =>
  intro pv w hat hs
  obtain ⟨ao, c, rfl, hlc, hcm, hcell⟩ := hat.rows
  rw [RT.sz_eq] at hs
  have HC := Lib.hid hcell
  have HI := Lib.hid ih
  have HSZ := Lib.hid r.sz_eq
  have hbk := (Blk.made w #[.int .i64 r.k, .string r.a, .string r.b, .slice ao r.ps.length c] 98).cells
  have hb0 : Below w.heap.size w (w.alloc (.cells #[.int .i64 r.k, .string r.a, .string r.b, .slice ao r.ps.length c] 98)) := (Below.refl _ _).alloc (Nat.le_refl _) _
  have HB0 := Lib.hid hb0
  have HS := Lib.hid hs
  clear hat hcell ih hb0 hs
  unfold rV
  rw [HSZ.out]
  clear HSZ
  generalize hps : r.ps = ps at *
  clear hps
  go_enter Tryz.func61, Tryz.ntmps61
  go_wp2_with fail
  clear hbk
  go_loopw [3, 9] (fun nn ii wr => ∃ i : Nat, i ≤ ps.length ∧ ii = .int .i64 i ∧ nn = .int .i64 ((1 + szL (ps.take i) : Nat) : Int) ∧ Below w.heap.size w wr) (fun _ ii _ => ps.length - (intOf ii).toNat)
  case atStart => exact ⟨0, by omega, rfl, by simp [szL], HB0.out⟩
  case round =>
    obtain ⟨i, hi, rfl, rfl, hbel⟩ := hrel
    clear HB0
    by_cases hlt : i < ps.length
    · obtain ⟨b, off, pv2, rfl, hb, c0, c1, c2, c3, hat2⟩ := HC.out i hlt
      have d0 := (hbel.cell (p := ⟨b, off + i * 4, none⟩) hb).trans c0
      have d1 := (hbel.cell (p := ⟨b, off + i * 4 + 1, none⟩) hb).trans c1
      have d2 := (hbel.cell (p := ⟨b, off + i * 4 + 2, none⟩) hb).trans c2
      have d3 := (hbel.cell (p := ⟨b, off + i * 4 + 3, none⟩) hb).trans c3
      obtain ⟨ao2, c2', rfl, -⟩ := hat2.rows
      have hst := szL_take hlt
      have hle := szL_le ps (i + 1)
      have hsl := HS.out
      have hb1 := hbel.alloc hbel.size (.cells #[.int .i64 ps[i].k, .string ps[i].a, .string ps[i].b, .slice ao2 ps[i].ps.length c2'] 98)
      have HR := Lib.hid (HI.out ps[i] (List.getElem_mem hlt) _ _ (hat2.up hb1) (by have := szL_mem (List.getElem_mem hlt); omega))
      unfold rV at HR
      have HB1 := Lib.hid hb1
      have hbx := (Blk.made wr #[.int .i64 ps[i].k, .string ps[i].a, .string ps[i].b, .slice ao2 ps[i].ps.length c2'] 98).cells
      have HST := Lib.hid hst
      rw [hst] at hle
      clear c0 c1 c2 c3 hat2 hb1 hbel hst
      generalize ps[i] = p at *
      generalize szL (ps.take i) = sa at *
      go_wp2_with fail
      refine HR.out.mono ?_
      rintro e w5 ⟨rfl, hb5⟩
      have HB5 := Lib.hid (HB1.out.trans (hb5.mono HB1.out.size))
      clear HR hb5 hbx d0 d1 d2 d3 HB1
      generalize p.sz = ms at *
      go_wp2_with fail
      go_roundw
      case rel => exact ⟨i + 1, by omega, by go_num, by rw [HST.out]; go_num, HB5.out⟩
      case measure => simp [intOf]; omega
    · obtain rfl : i = ps.length := by omega
      rw [List.take_length]
      have HBE := Lib.hid hbel
      clear hbel
      go_wp2_with fail
      go_ret
      exact ⟨rfl, HBE.out⟩
end Go.Proofs.YtjdigpfipmckhaaGreat
namespace Go.Proofs.YtjdigpfipmckhaaGreat
open Go Go.RowKit
mutual
def RT.this : RT → Bool | .mk k _ _ ps => k == 1 || thisL ps
def thisL : List RT → Bool | [] => false | r :: rs => r.this || thisL rs
end
theorem thisL_eq : ∀ l : List RT, thisL l = l.any RT.this
  | [] => rfl
  | r :: rs => by rw [thisL, List.any_cons, thisL_eq rs]
theorem RT.this_eq (r : RT) : r.this = (r.k == 1 || r.ps.any RT.this) := by
  obtain ⟨k, a, b, ps⟩ := r
  rw [RT.this, thisL_eq]
  rfl
theorem wrap_in (x : Int) (h1 : -9223372036854775808 ≤ x) (h2 : x ≤ 9223372036854775807) : wrap64 x = x := by unfold wrap64; omega
mutual
def RT.small : RT → Int → Int | .mk _ a b ps, left => smallL ps (left - 1 - ((a.size / 100 : Nat) : Int) - ((b.size / 100 : Nat) : Int))
def smallL : List RT → Int → Int | [], left => left | r :: rs, left => if left < 0 then left else smallL rs (r.small left)
end
theorem RT.small_eq (r : RT) (left : Int) : r.small left = smallL r.ps (left - 1 - ((r.a.size / 100 : Nat) : Int) - ((r.b.size / 100 : Nat) : Int)) := by
  obtain ⟨k, a, b, ps⟩ := r
  rw [RT.small]
  rfl
mutual
theorem RT.small_le : ∀ (r : RT) (left : Int), r.small left ≤ left - 1
  | .mk _ a b ps, left => by
    rw [RT.small]
    have := smallL_le ps (left - 1 - ((a.size / 100 : Nat) : Int) - ((b.size / 100 : Nat) : Int))
    omega
theorem smallL_le : ∀ (l : List RT) (left : Int), smallL l left ≤ left
  | [], left => by rw [smallL]; omega
  | r :: rs, left => by
    rw [smallL]
    split
    · omega
    · have h1 := smallL_le rs (r.small left)
      have h2 := RT.small_le r left
      omega
end
set_option maxRecDepth 100000 in
set_option maxHeartbeats 2000000 in
theorem this06_any (r : RT) : ∀ (pv : Value) (w : World), RTAt (· < w.heap.size) w r pv → Calls Tryz.prog 168 #[rV r pv] w fun e w' => e = .returned (.bool r.this) ∧ Below w.heap.size w w' := by
  induction r using RT.ind with
  | h r ih =>
  intro pv w hat
  obtain ⟨ao, c, rfl, hlc, hcm, hcell⟩ := hat.rows
  have HC := Lib.hid hcell
  have HI := Lib.hid ih
  have hbk := (Blk.made w #[.int .i64 r.k, .string r.a, .string r.b, .slice ao r.ps.length c] 98).cells
  have hb0 : Below w.heap.size w (w.alloc (.cells #[.int .i64 r.k, .string r.a, .string r.b, .slice ao r.ps.length c] 98)) := (Below.refl _ _).alloc (Nat.le_refl _) _
  have HB0 := Lib.hid hb0
  clear hat hcell ih hb0
  have HE := Lib.hid r.this_eq
  unfold rV
  rw [HE.out]
  clear HE
  generalize r.ps = ps at *
  generalize r.k = k at *
  by_cases hk : k = 1
  · subst hk
    go_enter Tryz.func168, Tryz.ntmps168
    go_wp2_with fail
    go_ret
    exact ⟨rfl, HB0.out⟩
  have hkf : (k == 1) = false := by rw [beq_eq_false_iff_ne]; exact hk
  rw [hkf, Bool.false_or]
  clear hk
  go_enter Tryz.func168, Tryz.ntmps168
  go_wp2_with fail
  clear hbk
  go_loopw [11] (fun ii wr => ∃ i : Nat, i ≤ ps.length ∧ ii = .int .i64 i ∧ (∀ j (hj : j < ps.length), j < i → ps[j].this = false) ∧ Below w.heap.size w wr) (fun ii _ => ps.length - (intOf ii).toNat)
  case atStart => exact ⟨0, by omega, rfl, fun _ _ h => absurd h (by omega), HB0.out⟩
  case round =>
    obtain ⟨i, hi, rfl, hall, hbel⟩ := hrel
    have HALL := Lib.hid hall
    clear HB0 hall
    by_cases hlt : i < ps.length
    · have HUP := fun h => Lib.hid (upto_succ (p := fun j hj => ps[j].this = false) HALL.out hlt h)
      have HAN := fun (h : ps[i].this = true) => Lib.hid (show ps.any RT.this = true from List.any_eq_true.2 ⟨ps[i], List.getElem_mem hlt, h⟩)
      obtain ⟨b, off, pv2, hbo, hb, c0, c1, c2, c3, hat2⟩ := HC.out i hlt
      cases hbo
      have d0 := (hbel.cell (p := ⟨b, off + i * 4, none⟩) hb).trans c0
      have d1 := (hbel.cell (p := ⟨b, off + i * 4 + 1, none⟩) hb).trans c1
      have d2 := (hbel.cell (p := ⟨b, off + i * 4 + 2, none⟩) hb).trans c2
      have d3 := (hbel.cell (p := ⟨b, off + i * 4 + 3, none⟩) hb).trans c3
      obtain ⟨ao2, c2', rfl, -⟩ := hat2.rows
      have hb1 := hbel.alloc hbel.size (.cells #[.int .i64 ps[i].k, .string ps[i].a, .string ps[i].b, .slice ao2 ps[i].ps.length c2'] 98)
      have hat3 := hat2.up hb1
      have hbx := (Blk.made wr #[.int .i64 ps[i].k, .string ps[i].a, .string ps[i].b, .slice ao2 ps[i].ps.length c2'] 98).cells
      have HB1 := Lib.hid hb1
      clear c0 c1 c2 c3 hat2 hb1 hbel
      have HR := Lib.hid (HI.out ps[i] (List.getElem_mem hlt) _ _ hat3)
      unfold rV at HR
      clear hat3
      generalize ps[i] = p at *
      cases hpt : p.this with
      | true =>
        rw [hpt] at HR
        have HT := HAN hpt
        clear HUP HAN hpt
        go_wp2_with fail
        refine HR.out.mono ?_
        rintro e w5 ⟨rfl, hb5⟩
        have HB5 := Lib.hid (HB1.out.trans (hb5.mono HB1.out.size))
        clear HR hb5 hbx d0 d1 d2 d3 HB1
        go_wp2_with fail
        go_ret
        exact ⟨by rw [HT.out]; rfl, HB5.out⟩
      | false =>
        rw [hpt] at HR
        have HN := HUP hpt
        clear HUP HAN hpt
        go_wp2_with fail
        refine HR.out.mono ?_
        rintro e w5 ⟨rfl, hb5⟩
        have HB5 := Lib.hid (HB1.out.trans (hb5.mono HB1.out.size))
        clear HR hb5 hbx d0 d1 d2 d3 HB1
        go_wp2_with fail
        go_roundw
        case rel => exact ⟨i + 1, by omega, by go_num, HN.out, HB5.out⟩
        case measure => simp [intOf]; omega
    · obtain rfl : i = ps.length := by omega
      have HF := Lib.hid (show ps.any RT.this = false from by
        rw [List.any_eq_false]
        intro x hx
        obtain ⟨j, hj, rfl⟩ := List.getElem_of_mem hx
        rw [HALL.out j hj hj]
        exact Bool.false_ne_true)
      have HBE := Lib.hid hbel
      clear hbel
      go_wp2_with fail
      go_ret
      exact ⟨by rw [HF.out]; rfl, HBE.out⟩
set_option maxRecDepth 100000 in
set_option maxHeartbeats 2000000 in
theorem small_any (r : RT) : ∀ (pv : Value) (left : Int) (w : World), RTAt (· < w.heap.size) w r pv → r.Ok → -2305843009213693952 ≤ left → left ≤ 9223372036854775807 → Calls Tryz.prog 49 #[rV r pv, .int .i64 left] w fun e w' => e = .returned (.int .i64 (r.small left)) ∧ Below w.heap.size w w' := by
  induction r using RT.ind with
  | h r ih =>
  intro pv left w hat hok hlo hhi
  obtain ⟨-, hoa, hob, hop⟩ := r.ok_iff.1 hok
  obtain ⟨ao, c, rfl, hlc, hcm, hcell⟩ := hat.rows
  have HC := Lib.hid hcell
  have HI := Lib.hid ih
  have hbk := (Blk.made w #[.int .i64 r.k, .string r.a, .string r.b, .slice ao r.ps.length c] 98).cells
  have hb0 : Below w.heap.size w (w.alloc (.cells #[.int .i64 r.k, .string r.a, .string r.b, .slice ao r.ps.length c] 98)) := (Below.refl _ _).alloc (Nat.le_refl _) _
  have HB0 := Lib.hid hb0
  clear hat hcell ih hb0
  have HOP := Lib.hid hop
  have HE := Lib.hid (r.small_eq left)
  unfold rV
  rw [HE.out]
  clear HE hop hok
  generalize r.ps = ps at *
  generalize r.k = k at *
  generalize r.a = a at *
  generalize r.b = b at *
  have hqa : ((a.size : Int)).tdiv 100 = ((a.size / 100 : Nat) : Int) := by rw [Int.tdiv_eq_ediv_of_nonneg (by omega)]; omega
  have hqb : ((b.size : Int)).tdiv 100 = ((b.size / 100 : Nat) : Int) := by rw [Int.tdiv_eq_ediv_of_nonneg (by omega)]; omega
  have hla : a.size / 100 ≤ 92233720368547758 := by omega
  have hlb : b.size / 100 ≤ 92233720368547758 := by omega
  generalize a.size / 100 = qa at *
  generalize b.size / 100 = qb at *
  have HQA := Lib.hid hqa
  have HQB := Lib.hid hqb
  clear hqa hqb
  obtain ⟨L0, hL0⟩ : ∃ L0, L0 = left - 1 - (qa : Int) - (qb : Int) := ⟨_, rfl⟩
  have hL : L0 ≤ 9223372036854775807 := by omega
  have hw1 : wrap64 (left - 1) = left - 1 := wrap_in _ (by omega) (by omega)
  have hw2 : wrap64 (left - 1 - (qa : Int)) = left - 1 - (qa : Int) := wrap_in _ (by omega) (by omega)
  have hw3 : wrap64 (left - 1 - (qa : Int) - (qb : Int)) = L0 := by rw [hL0]; exact wrap_in _ (by omega) (by omega)
  have hw4 : wrap64 (qa : Int) = (qa : Int) := wrap_in _ (by omega) (by omega)
  have hw5 : wrap64 (qb : Int) = (qb : Int) := wrap_in _ (by omega) (by omega)
  rw [← hL0]
  have HW3 := Lib.hid hw3
  have HLL := Lib.hid hL
  clear hL0
  have hqa := HQA.out
  have hqb := HQB.out
  clear hL hlo hhi hla hlb hoa hob
  go_enter Tryz.func49, Tryz.ntmps49
  go_wp2_with fail
  clear hbk hw1 hw2 hw3 hw4 hw5 hqa hqb HQA HQB
  go_loopw [1, 22] (fun lv ii wr => ∃ (i : Nat) (L : Int), i ≤ ps.length ∧ ii = .int .i64 i ∧ lv = .int .i64 L ∧ L ≤ 9223372036854775807 ∧ smallL ps L0 = smallL (ps.drop i) L ∧ Below w.heap.size w wr) (fun _ ii _ => ps.length - (intOf ii).toNat)
  case atStart => exact ⟨0, L0, by omega, rfl, by rw [HW3.out], HLL.out, rfl, HB0.out⟩
  case round =>
    obtain ⟨i, L, hi, rfl, rfl, hLh, hsm, hbel⟩ := hrel
    clear HB0 HLL
    by_cases hlt : i < ps.length
    · rw [List.drop_eq_getElem_cons hlt, smallL] at hsm
      obtain ⟨b, off, pv2, hbo, hb, c0, c1, c2, c3, hat2⟩ := HC.out i hlt
      cases hbo
      have d0 := (hbel.cell (p := ⟨b, off + i * 4, none⟩) hb).trans c0
      have d1 := (hbel.cell (p := ⟨b, off + i * 4 + 1, none⟩) hb).trans c1
      have d2 := (hbel.cell (p := ⟨b, off + i * 4 + 2, none⟩) hb).trans c2
      have d3 := (hbel.cell (p := ⟨b, off + i * 4 + 3, none⟩) hb).trans c3
      obtain ⟨ao2, c2', rfl, -⟩ := hat2.rows
      have hb1 := hbel.alloc hbel.size (.cells #[.int .i64 ps[i].k, .string ps[i].a, .string ps[i].b, .slice ao2 ps[i].ps.length c2'] 98)
      have hat3 := hat2.up hb1
      have hbx := (Blk.made wr #[.int .i64 ps[i].k, .string ps[i].a, .string ps[i].b, .slice ao2 ps[i].ps.length c2'] 98).cells
      have HB1 := Lib.hid hb1
      clear c0 c1 c2 c3 hat2 hb1 hbel
      have hokp := HOP.out ps[i] (List.getElem_mem hlt)
      have hmem := List.getElem_mem hlt
      by_cases hneg : L < 0
      · rw [if_pos hneg] at hsm
        have HSM := Lib.hid hsm
        clear hsm hat3 hokp hmem
        generalize ps[i] = p at *
        go_wp2_with fail
        go_ret
        exact ⟨by rw [HSM.out]; rfl, HB1.out⟩
      · rw [if_neg hneg] at hsm
        have HR := Lib.hid (HI.out ps[i] hmem _ L _ hat3 hokp (by omega) hLh)
        unfold rV at HR
        have HSM := Lib.hid hsm
        have HLE := Lib.hid (show ps[i].small L ≤ 9223372036854775807 from by have := ps[i].small_le L; omega)
        clear hsm hat3 hokp hmem
        generalize ps[i] = p at *
        go_wp2_with fail
        refine HR.out.mono ?_
        rintro e w5 ⟨rfl, hb5⟩
        have HB5 := Lib.hid (HB1.out.trans (hb5.mono HB1.out.size))
        clear HR hb5 hbx d0 d1 d2 d3 HB1
        go_wp2_with fail
        go_roundw
        case rel => exact ⟨i + 1, p.small L, by omega, by go_num, rfl, HLE.out, HSM.out, HB5.out⟩
        case measure => simp [intOf]; omega
    · obtain rfl : i = ps.length := by omega
      rw [List.drop_length, smallL] at hsm
      have HSM := Lib.hid hsm
      have HBE := Lib.hid hbel
      clear hbel hsm
      go_wp2_with fail
      go_ret
      exact ⟨by rw [HSM.out]; rfl, HBE.out⟩
end Go.Proofs.YtjdigpfipmckhaaGreat
namespace Go.Proofs.YtjdigpfipmckhaaGreat
open Go Go.RowKit
theorem ba_size_ne {a : ByteArray} (h : a.size ≠ 0) : a.toList.isEmpty = false := by
  rw [ByteArray.toList_eq]
  cases h' : a.data.toList with
  | nil => exact absurd (by have := congrArg List.length h'; simpa using this) h
  | cons => rfl
theorem ba_size_eq {a : ByteArray} (h : a.size = 0) : a = ⟨#[]⟩ := by
  refine ByteArray.ext (Array.eq_empty_of_size_eq_zero h)
def okc (c : UInt8) : Bool := decide ((97 ≤ (c.toNat : Int) ∧ (c.toNat : Int) ≤ 122) ∨ (48 ≤ (c.toNat : Int) ∧ (c.toNat : Int) ≤ 57) ∨ (c.toNat : Int) = 95 ∨ (c.toNat : Int) = 45)
def isNm (s : ByteArray) : Bool := s.data.toList.all okc && (decide (1 ≤ s.size) && decide (s.size ≤ 32))
theorem isNm_bad {s : ByteArray} {i : Nat} (hi : i < s.size) (h : okc s[i] = false) : isNm s = false := by
  unfold isNm
  rw [Bool.and_eq_false_iff]
  left
  rw [List.all_eq_false]
  exact ⟨s[i], by rw [show s[i] = s.data.toList[i]'(by simpa using hi) from rfl]; exact List.getElem_mem _, by simpa using h⟩
theorem isNm_end {s : ByteArray} (h : ∀ j (hj : j < s.size), j < s.size → okc s[j] = true) : isNm s = (decide (1 ≤ s.size) && decide (s.size ≤ 32)) := by
  unfold isNm
  rw [show s.data.toList.all okc = true from ?_, Bool.true_and]
  rw [List.all_eq_true]
  intro x hx
  obtain ⟨j, hj, rfl⟩ := List.getElem_of_mem hx
  have hj' : j < s.size := by simpa using hj
  exact h j hj' hj'
set_option maxRecDepth 100000 in
set_option maxHeartbeats 1600000 in
theorem isName_any (s : ByteArray) (hs : s.size ≤ maxLen) (w : World) : Calls Tryz.prog 116 #[.string s] w fun e w' => e = .returned (.bool (isNm s)) ∧ w' = w := by
  have hsz : s.size ≤ 9223372036854775807 := by unfold maxLen at hs; omega
  clear hs
  go_enter Tryz.func116, Tryz.ntmps116
  go_wp2_with fail
  go_loopw [7] (fun ii wr => ∃ i : Nat, i ≤ s.size ∧ ii = .int .i64 i ∧ (∀ j (hj : j < s.size), j < i → okc s[j] = true) ∧ wr = w) (fun ii _ => s.size - (intOf ii).toNat)
  case atStart => exact ⟨0, by omega, rfl, fun _ _ h => absurd h (by omega), rfl⟩
  case round =>
    obtain ⟨i, hi, rfl, hall, rfl⟩ := hrel
    have HALL := Lib.hid hall
    clear hall
    by_cases hlt : i < s.size
    · go_wp2_with fail
      all_goals first
        | (refine ⟨⟨i + 1, by omega, by go_num, upto_succ (p := fun j hj => okc s[j] = true) HALL.out hlt ?_, trivial⟩, by simp [intOf]; omega⟩
           unfold okc
           rw [decide_eq_true_iff]
           try simp only [beq_iff_eq, beq_eq_false_iff_ne, ne_eq] at *
           omega)
        | (go_ret
           refine ⟨?_, rfl⟩
           rw [isNm_bad hlt (by
             unfold okc
             rw [decide_eq_false_iff_not]
             try simp only [beq_eq_false_iff_ne, ne_eq] at *
             omega)]
           rfl)
    · obtain rfl : i = s.size := by omega
      have HE := Lib.hid (isNm_end HALL.out)
      by_cases h0 : s.size = 0
      · obtain rfl := ba_size_eq h0
        clear h0
        go_wp2_with fail
        go_ret
        exact ⟨by rw [HE.out]; rfl, rfl⟩
      · have hne := ba_size_ne h0
        have h1 : 1 ≤ s.size := by omega
        have HE2 := Lib.hid (show isNm s = decide ((s.size : Int) ≤ 32) from by
          rw [HE.out, decide_eq_true h1, Bool.true_and]
          by_cases h : s.size ≤ 32
          · rw [decide_eq_true h, decide_eq_true (by omega)]
          · rw [decide_eq_false h, decide_eq_false (by omega)])
        clear HE h0 h1
        go_wp2_with fail
        go_ret
        exact ⟨by rw [HE2.out]; rfl, rfl⟩
set_option maxRecDepth 100000 in
set_option maxHeartbeats 1600000 in
theorem refName_any (s : ByteArray) (hs : s.size ≤ maxLen) (w : World) : Calls Tryz.prog 124 #[.string s] w fun e w' => e = .returned (.bool (isNm s)) ∧ w' = w := by
  have hsz : s.size ≤ 9223372036854775807 := by unfold maxLen at hs; omega
  clear hs
  go_enter Tryz.func124, Tryz.ntmps124
  go_wp2_with fail
  go_loopw [3] (fun ii wr => ∃ i : Nat, i ≤ s.size ∧ ii = .int .i64 i ∧ (∀ j (hj : j < s.size), j < i → okc s[j] = true) ∧ wr = w) (fun ii _ => s.size - (intOf ii).toNat)
  case atStart => exact ⟨0, by omega, rfl, fun _ _ h => absurd h (by omega), rfl⟩
  case round =>
    obtain ⟨i, hi, rfl, hall, rfl⟩ := hrel
    have HALL := Lib.hid hall
    clear hall
    by_cases hlt : i < s.size
    · go_wp2_with fail
      all_goals first
        | (refine ⟨⟨i + 1, by omega, by go_num, upto_succ (p := fun j hj => okc s[j] = true) HALL.out hlt ?_, trivial⟩, by simp [intOf]; omega⟩
           unfold okc
           rw [decide_eq_true_iff]
           (try simp at *) <;> omega)
        | (go_ret
           refine ⟨?_, rfl⟩
           rw [isNm_bad hlt (by
             unfold okc
             rw [decide_eq_false_iff_not]
             (try simp at *) <;> omega)]
           rfl)
    · obtain rfl : i = s.size := by omega
      have HE := Lib.hid (isNm_end HALL.out)
      by_cases h0 : s.size = 0
      · obtain rfl := ba_size_eq h0
        clear h0
        go_wp2_with fail
        go_ret
        exact ⟨by rw [HE.out]; rfl, rfl⟩
      · have h1 : 1 ≤ s.size := by omega
        have h2 : (1 : Int) ≤ (s.size : Int) := by omega
        have HE2 := Lib.hid (show isNm s = decide ((s.size : Int) ≤ 32) from by
          rw [HE.out, decide_eq_true h1, Bool.true_and]
          by_cases h : s.size ≤ 32
          · rw [decide_eq_true h, decide_eq_true (by omega)]
          · rw [decide_eq_false h, decide_eq_false (by omega)])
        clear HE h0 h1
        go_wp2_with fail
        go_ret
        exact ⟨by rw [HE2.out]; rfl, rfl⟩
def ownB (s : ByteArray) : Bool := isNm s && decide (s ≠ ⟨#[116, 104, 105, 115]⟩)
end Go.Proofs.YtjdigpfipmckhaaGreat
namespace Go.Proofs.YtjdigpfipmckhaaGreat
open Go Go.RowKit
def hasT (t : TyS) (n : ByteArray) : Bool := t.rels.any fun r => decide (r.1 = n)
def anyT (ts : List TyS) (n : ByteArray) : Bool := ts.any fun t => hasT t n
set_option maxRecDepth 100000 in
set_option maxHeartbeats 2000000 in
theorem own_any (s : ByteArray) (hs : s.size ≤ maxLen) (w : World) : Calls Tryz.prog 117 #[.string s] w fun e w' => e = .returned (.bool (ownB s)) ∧ w' = w := by
  have HN := Lib.hid (refName_any s hs w)
  clear hs
  go_enter Tryz.func117, Tryz.ntmps117
  go_wp2_with fail
  refine HN.out.mono ?_
  rintro e w2 ⟨rfl, rfl⟩
  clear HN
  cases h1 : isNm s with
  | false =>
    have HF := Lib.hid (show ownB s = false from by rw [ownB, h1]; rfl)
    clear h1
    go_wp2_with fail
    go_ret
    exact ⟨by rw [HF.out]; rfl, rfl⟩
  | true =>
    by_cases he : s = ⟨#[116, 104, 105, 115]⟩
    · have HF := Lib.hid (show ownB s = false from by rw [ownB, he]; simp)
      subst he
      clear h1
      go_wp2_with fail
      go_ret
      exact ⟨by rw [HF.out]; rfl, rfl⟩
    · have HF := Lib.hid (show ownB s = true from by rw [ownB, h1]; simp [he])
      have hne := ba_beq' he
      rw [← ByteArray.toList_eq, show (⟨#[116, 104, 105, 115]⟩ : ByteArray).data.toList = [116, 104, 105, 115] from rfl] at hne
      clear h1 he
      go_wp2_with fail
      go_ret
      exact ⟨by rw [HF.out]; rfl, rfl⟩
set_option maxRecDepth 100000 in
set_option maxHeartbeats 2000000 in
theorem has_any (t : TyS) (rv : Value) (n : ByteArray) (w : World) (h : RelsAt (· < w.heap.size) w t.rels rv) : Calls Tryz.prog 119 #[.agg #[.string t.name, rv], .string n] w fun e w' => e = .returned (.bool (hasT t n)) ∧ Below w.heap.size w w' := by
  obtain ⟨ao, c, rfl, hlc, hcm, hcell⟩ := h.rows
  have HC := Lib.hid hcell
  have HD := Lib.hid (show hasT t n = t.rels.any (fun r => decide (r.1 = n)) from rfl)
  generalize hasT t n = g at *
  generalize t.rels = l at *
  generalize t.name = nm at *
  have hbk := (Blk.made w #[.string nm, .slice ao l.length c] 95).cells
  have HB0 := Lib.hid (show Below w.heap.size w (w.alloc (.cells #[.string nm, .slice ao l.length c] 95)) from (Below.refl _ _).alloc (Nat.le_refl _) _)
  clear h hcell
  go_enter Tryz.func119, Tryz.ntmps119
  go_wp2_with fail
  clear hbk
  go_loopw [10] (fun ii wr => ∃ i : Nat, i ≤ l.length ∧ ii = .int .i64 i ∧ (∀ j (hj : j < l.length), j < i → l[j].1 ≠ n) ∧ Below w.heap.size w wr) (fun ii _ => l.length - (intOf ii).toNat)
  case atStart => exact ⟨0, by omega, rfl, fun _ _ h => absurd h (by omega), HB0.out⟩
  case round =>
    obtain ⟨i, hi, rfl, hall, hbel⟩ := hrel
    have HALL := Lib.hid hall
    clear HB0 hall
    by_cases hlt : i < l.length
    · have HUP := fun h => Lib.hid (upto_succ (p := fun j hj => l[j].1 ≠ n) HALL.out hlt h)
      have HAN := fun (h : l[i].1 = n) => Lib.hid (show g = true from by rw [HD.out]; exact List.any_eq_true.2 ⟨l[i], List.getElem_mem hlt, by simp [h]⟩)
      obtain ⟨b, off, pv2, hbo, hb, c0, c1, c2, c3, c4, hat2⟩ := HC.out i hlt
      cases hbo
      have d0 := (hbel.cell (p := ⟨b, off + i * 5, none⟩) hb).trans c0
      have d1 := (hbel.cell (p := ⟨b, off + i * 5 + 1, none⟩) hb).trans c1
      have d2 := (hbel.cell (p := ⟨b, off + i * 5 + 2, none⟩) hb).trans c2
      have d3 := (hbel.cell (p := ⟨b, off + i * 5 + 3, none⟩) hb).trans c3
      have d4 := (hbel.cell (p := ⟨b, off + i * 5 + 4, none⟩) hb).trans c4
      obtain ⟨ao2, c2', rfl, -⟩ := hat2.rows
      have hb1 := hbel.alloc hbel.size (.cells #[.string l[i].1, .int .i64 l[i].2.k, .string l[i].2.a, .string l[i].2.b, .slice ao2 l[i].2.ps.length c2'] 100)
      have hat3 := hat2.up hb1
      have HBK := Lib.hid (Blk.made wr #[.string l[i].1, .int .i64 l[i].2.k, .string l[i].2.a, .string l[i].2.b, .slice ao2 l[i].2.ps.length c2'] 100)
      have hbx := HBK.out.cells
      have HB1 := Lib.hid hb1
      clear c0 c1 c2 c3 c4 hat2 hb1 hbel
      clear hat3
      generalize l[i] = x at *
      obtain ⟨xn, p⟩ := x
      dsimp only at *
      by_cases he : xn = n
      · have HT := HAN he
        subst he
        clear HUP HAN
        go_wp2_with fail
        go_ret
        exact ⟨by rw [HT.out]; rfl, HB1.out⟩
      · have HN := HUP he
        have hne := ba_beq' he
        rw [← ByteArray.toList_eq, ← ByteArray.toList_eq] at hne
        clear HUP HAN he
        go_wp2_with fail
        go_roundw
        case rel => exact ⟨i + 1, by omega, by go_num, HN.out, HB1.out⟩
        case measure => simp [intOf]; omega
    · obtain rfl : i = l.length := by omega
      have HF := Lib.hid (show g = false from by
        rw [HD.out, List.any_eq_false]
        intro x hx
        obtain ⟨j, hj, rfl⟩ := List.getElem_of_mem hx
        have := HALL.out j hj hj
        simpa using this)
      have HBE := Lib.hid hbel
      clear hbel
      go_wp2_with fail
      go_ret
      exact ⟨by rw [HF.out]; rfl, HBE.out⟩
set_option maxRecDepth 100000 in
set_option maxHeartbeats 2000000 in
theorem anywhere_any (ts : List TyS) (tv : Value) (n : ByteArray) (w : World) (h : TysAt (· < w.heap.size) w ts tv) : Calls Tryz.prog 120 #[.agg #[tv], .string n] w fun e w' => e = .returned (.bool (anyT ts n)) ∧ Below w.heap.size w w' := by
  obtain ⟨ao, c, rfl, hlc, hcm, hcell⟩ := h.rows
  have HC := Lib.hid hcell
  have HD := Lib.hid (show anyT ts n = ts.any (fun t => hasT t n) from rfl)
  generalize anyT ts n = g at *
  have hbk := (Blk.made w #[.slice ao ts.length c] 24).cells
  have HB0 := Lib.hid (show Below w.heap.size w (w.alloc (.cells #[.slice ao ts.length c] 24)) from (Below.refl _ _).alloc (Nat.le_refl _) _)
  clear h hcell
  go_enter Tryz.func120, Tryz.ntmps120
  go_wp2_with fail
  clear hbk
  go_loopw [10] (fun ii wr => ∃ i : Nat, i ≤ ts.length ∧ ii = .int .i64 i ∧ (∀ j (hj : j < ts.length), j < i → hasT ts[j] n = false) ∧ Below w.heap.size w wr) (fun ii _ => ts.length - (intOf ii).toNat)
  case atStart => exact ⟨0, by omega, rfl, fun _ _ h => absurd h (by omega), HB0.out⟩
  case round =>
    obtain ⟨i, hi, rfl, hall, hbel⟩ := hrel
    have HALL := Lib.hid hall
    clear HB0 hall
    by_cases hlt : i < ts.length
    · have HUP := fun h => Lib.hid (upto_succ (p := fun j hj => hasT ts[j] n = false) HALL.out hlt h)
      have HAN := fun (h : hasT ts[i] n = true) => Lib.hid (show g = true from by rw [HD.out]; exact List.any_eq_true.2 ⟨ts[i], List.getElem_mem hlt, h⟩)
      obtain ⟨b, off, pv2, hbo, hb, c0, c1, hat2⟩ := HC.out i hlt
      cases hbo
      have d0 := (hbel.cell (p := ⟨b, off + i * 2, none⟩) hb).trans c0
      have d1 := (hbel.cell (p := ⟨b, off + i * 2 + 1, none⟩) hb).trans c1
      obtain ⟨ao2, c2', rfl, -⟩ := hat2.rows
      have hb1 := hbel.alloc hbel.size (.cells #[.string ts[i].name, .slice ao2 ts[i].rels.length c2'] 95)
      have hat3 := hat2.up hb1
      have HBT := Lib.hid (Blk.made wr #[.string ts[i].name, .slice ao2 ts[i].rels.length c2'] 95)
      have hbx := HBT.out.cells
      have HB1 := Lib.hid hb1
      clear c0 c1 hat2 hb1 hbel
      have HR := Lib.hid (has_any ts[i] _ n _ hat3)
      clear hat3
      generalize ts[i] = x at *
      cases hx : hasT x n with
      | true =>
        rw [hx] at HR
        have HT := HAN hx
        clear HUP HAN hx
        go_wp2_with fail
        refine HR.out.mono ?_
        rintro e w5 ⟨rfl, hb5⟩
        have HB5 := Lib.hid (HB1.out.trans (hb5.mono HB1.out.size))
        clear HR hb5 hbx d0 d1 HB1
        go_wp2_with fail
        go_ret
        exact ⟨by rw [HT.out]; rfl, HB5.out⟩
      | false =>
        rw [hx] at HR
        have HN := HUP hx
        clear HUP HAN hx
        go_wp2_with fail
        refine HR.out.mono ?_
        rintro e w5 ⟨rfl, hb5⟩
        have HB5 := Lib.hid (HB1.out.trans (hb5.mono HB1.out.size))
        clear HR hb5 hbx d0 d1 HB1
        go_wp2_with fail
        go_roundw
        case rel => exact ⟨i + 1, by omega, by go_num, HN.out, HB5.out⟩
        case measure => simp [intOf]; omega
    · obtain rfl : i = ts.length := by omega
      have HF := Lib.hid (show g = false from by
        rw [HD.out, List.any_eq_false]
        intro x hx
        obtain ⟨j, hj, rfl⟩ := List.getElem_of_mem hx
        rw [HALL.out j hj hj]
        exact Bool.false_ne_true)
      have HBE := Lib.hid hbel
      clear hbel
      go_wp2_with fail
      go_ret
      exact ⟨by rw [HF.out]; rfl, HBE.out⟩
end Go.Proofs.YtjdigpfipmckhaaGreat
