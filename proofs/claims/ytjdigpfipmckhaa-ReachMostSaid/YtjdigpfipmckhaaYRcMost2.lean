/- Lemmas for the claim, no condition. -/
import Derived.Lib.Hide
import Derived.DeepKeys4
import Derived.Test.YtjdigpfipmckhaaYRcMost1
import Derived.Test.YtjdigpfipmckhaaYRcMost0
namespace Go.Proofs.Ytjdigpfipmckhaa
open Go Go.RowKit
theorem szL_le (l : List RT) (i : Nat) : szL (l.take i) ≤ szL l := by
  conv => rhs; rw [← List.take_append_drop i l]
  rw [szL_append]
  omega
set_option maxRecDepth 100000 in
set_option maxHeartbeats 2000000 in
theorem sizeR_any (r : RT) : ∀ (pv : Value) (w : World), RTAt (· < w.heap.size) w r pv → r.sz ≤ 1000000 → Calls Try.prog 34 #[rV r pv] w fun e w' => e = .returned (.int .i64 r.sz) ∧ Below w.heap.size w w' := by
  induction r using RT.ind with
  | h r ih =>
  intro pv w hat hs
  obtain ⟨ao, c, rfl, hlc, hcm, hcell⟩ := hat.rows
  rw [RT.sz_eq] at hs
  have HC := Lib.hid hcell
  have HI := Lib.hid ih
  have HSZ := Lib.hid r.sz_eq
  have hbk := (Blk.made w #[.int .i64 r.k, .string r.a, .string r.b, .slice ao r.ps.length c] 66).cells
  have hb0 : Below w.heap.size w (w.alloc (.cells #[.int .i64 r.k, .string r.a, .string r.b, .slice ao r.ps.length c] 66)) := (Below.refl _ _).alloc (Nat.le_refl _) _
  have HB0 := Lib.hid hb0
  have HS := Lib.hid hs
  clear hat hcell ih hb0 hs
  unfold rV
  rw [HSZ.out]
  clear HSZ
  generalize hps : r.ps = ps at *
  clear hps
  go_enter Try.func34, Try.ntmps34
  go_wp2_with fail
  clear hbk
  go_loopw [3, 9] (fun nn ii wr => ∃ i : Nat, i ≤ ps.length ∧ ii = .int .i64 i ∧ nn = .int .i64 ((1 + szL (ps.take i) : Nat) : Int) ∧ Below w.heap.size w wr) (fun _ ii _ => ps.length - (intOf ii).toNat)
  case atStart => exact ⟨0, by omega, rfl, by simp [szL], HB0.out⟩
  case round =>
    obtain ⟨i, hi, rfl, rfl, hbel⟩ := hrel
    clear HB0
    by_cases hlt : i < ps.length
    · obtain ⟨b, off, pv2, rfl, hb, c0, c1, c2, c3, hat2⟩ := HC.out i hlt
      have d0 := (hbel.cell (p := ⟨b, off + i * 4, none⟩) hb).trans c0
      have d1 := (hbel.cell (p := ⟨b, off + i * 4 + 1, none⟩) hb).trans c1
      have d2 := (hbel.cell (p := ⟨b, off + i * 4 + 2, none⟩) hb).trans c2
      have d3 := (hbel.cell (p := ⟨b, off + i * 4 + 3, none⟩) hb).trans c3
      obtain ⟨ao2, c2', rfl, -⟩ := hat2.rows
      have hst := szL_take hlt
      have hle := szL_le ps (i + 1)
      have hsl := HS.out
      have hb1 := hbel.alloc hbel.size (.cells #[.int .i64 ps[i].k, .string ps[i].a, .string ps[i].b, .slice ao2 ps[i].ps.length c2'] 66)
      have HR := Lib.hid (HI.out ps[i] (List.getElem_mem hlt) _ _ (hat2.up hb1) (by have := szL_mem (List.getElem_mem hlt); omega))
      unfold rV at HR
      have HB1 := Lib.hid hb1
      have hbx := (Blk.made wr #[.int .i64 ps[i].k, .string ps[i].a, .string ps[i].b, .slice ao2 ps[i].ps.length c2'] 66).cells
      have HST := Lib.hid hst
      rw [hst] at hle
      clear c0 c1 c2 c3 hat2 hb1 hbel hst
      generalize ps[i] = p at *
      generalize szL (ps.take i) = sa at *
      go_wp2_with fail
      refine HR.out.mono ?_
      rintro e w5 ⟨rfl, hb5⟩
      have HB5 := Lib.hid (HB1.out.trans (hb5.mono HB1.out.size))
      clear HR hb5 hbx d0 d1 d2 d3 HB1
      generalize p.sz = ms at *
      go_wp2_with fail
      go_roundw
      case rel => exact ⟨i + 1, by omega, by go_num, by rw [HST.out]; go_num, HB5.out⟩
      case measure => simp [intOf]; omega
    · obtain rfl : i = ps.length := by omega
      rw [List.take_length]
      have HBE := Lib.hid hbel
      clear hbel
      go_wp2_with fail
      go_ret
      exact ⟨rfl, HBE.out⟩
end Go.Proofs.Ytjdigpfipmckhaa
namespace Go.Proofs.Ytjdigpfipmckhaa
open Go Go.RowKit
mutual
def RT.this : RT → Bool | .mk k _ _ ps => k == 1 || thisL ps
def thisL : List RT → Bool | [] => false | r :: rs => r.this || thisL rs
end
theorem thisL_eq : ∀ l : List RT, thisL l = l.any RT.this
  | [] => rfl
  | r :: rs => by rw [thisL, List.any_cons, thisL_eq rs]
theorem RT.this_eq (r : RT) : r.this = (r.k == 1 || r.ps.any RT.this) := by
  obtain ⟨k, a, b, ps⟩ := r
  rw [RT.this, thisL_eq]
  rfl
theorem wrap_in (x : Int) (h1 : -9223372036854775808 ≤ x) (h2 : x ≤ 9223372036854775807) : wrap64 x = x := by unfold wrap64; omega
set_option maxRecDepth 100000 in
set_option maxHeartbeats 2000000 in
theorem this06_any (r : RT) : ∀ (pv : Value) (w : World), RTAt (· < w.heap.size) w r pv → Calls Try.prog 32 #[rV r pv] w fun e w' => e = .returned (.bool r.this) ∧ Below w.heap.size w w' := by
  induction r using RT.ind with
  | h r ih =>
  intro pv w hat
  obtain ⟨ao, c, rfl, hlc, hcm, hcell⟩ := hat.rows
  have HC := Lib.hid hcell
  have HI := Lib.hid ih
  have hbk := (Blk.made w #[.int .i64 r.k, .string r.a, .string r.b, .slice ao r.ps.length c] 66).cells
  have hb0 : Below w.heap.size w (w.alloc (.cells #[.int .i64 r.k, .string r.a, .string r.b, .slice ao r.ps.length c] 66)) := (Below.refl _ _).alloc (Nat.le_refl _) _
  have HB0 := Lib.hid hb0
  clear hat hcell ih hb0
  have HE := Lib.hid r.this_eq
  unfold rV
  rw [HE.out]
  clear HE
  generalize r.ps = ps at *
  generalize r.k = k at *
  by_cases hk : k = 1
  · subst hk
    go_enter Try.func32, Try.ntmps32
    go_wp2_with fail
    go_ret
    exact ⟨rfl, HB0.out⟩
  have hkf : (k == 1) = false := by rw [beq_eq_false_iff_ne]; exact hk
  rw [hkf, Bool.false_or]
  clear hk
  go_enter Try.func32, Try.ntmps32
  go_wp2_with fail
  clear hbk
  go_loopw [11] (fun ii wr => ∃ i : Nat, i ≤ ps.length ∧ ii = .int .i64 i ∧ (∀ j (hj : j < ps.length), j < i → ps[j].this = false) ∧ Below w.heap.size w wr) (fun ii _ => ps.length - (intOf ii).toNat)
  case atStart => exact ⟨0, by omega, rfl, fun _ _ h => absurd h (by omega), HB0.out⟩
  case round =>
    obtain ⟨i, hi, rfl, hall, hbel⟩ := hrel
    have HALL := Lib.hid hall
    clear HB0 hall
    by_cases hlt : i < ps.length
    · have HUP := fun h => Lib.hid (upto_succ (p := fun j hj => ps[j].this = false) HALL.out hlt h)
      have HAN := fun (h : ps[i].this = true) => Lib.hid (show ps.any RT.this = true from List.any_eq_true.2 ⟨ps[i], List.getElem_mem hlt, h⟩)
      obtain ⟨b, off, pv2, hbo, hb, c0, c1, c2, c3, hat2⟩ := HC.out i hlt
      cases hbo
      have d0 := (hbel.cell (p := ⟨b, off + i * 4, none⟩) hb).trans c0
      have d1 := (hbel.cell (p := ⟨b, off + i * 4 + 1, none⟩) hb).trans c1
      have d2 := (hbel.cell (p := ⟨b, off + i * 4 + 2, none⟩) hb).trans c2
      have d3 := (hbel.cell (p := ⟨b, off + i * 4 + 3, none⟩) hb).trans c3
      obtain ⟨ao2, c2', rfl, -⟩ := hat2.rows
      have hb1 := hbel.alloc hbel.size (.cells #[.int .i64 ps[i].k, .string ps[i].a, .string ps[i].b, .slice ao2 ps[i].ps.length c2'] 66)
      have hat3 := hat2.up hb1
      have hbx := (Blk.made wr #[.int .i64 ps[i].k, .string ps[i].a, .string ps[i].b, .slice ao2 ps[i].ps.length c2'] 66).cells
      have HB1 := Lib.hid hb1
      clear c0 c1 c2 c3 hat2 hb1 hbel
      have HR := Lib.hid (HI.out ps[i] (List.getElem_mem hlt) _ _ hat3)
      unfold rV at HR
      clear hat3
      generalize ps[i] = p at *
      cases hpt : p.this with
      | true =>
        rw [hpt] at HR
        have HT := HAN hpt
        clear HUP HAN hpt
        go_wp2_with fail
        refine HR.out.mono ?_
        rintro e w5 ⟨rfl, hb5⟩
        have HB5 := Lib.hid (HB1.out.trans (hb5.mono HB1.out.size))
        clear HR hb5 hbx d0 d1 d2 d3 HB1
        go_wp2_with fail
        go_ret
        exact ⟨by rw [HT.out]; rfl, HB5.out⟩
      | false =>
        rw [hpt] at HR
        have HN := HUP hpt
        clear HUP HAN hpt
        go_wp2_with fail
        refine HR.out.mono ?_
        rintro e w5 ⟨rfl, hb5⟩
        have HB5 := Lib.hid (HB1.out.trans (hb5.mono HB1.out.size))
        clear HR hb5 hbx d0 d1 d2 d3 HB1
        go_wp2_with fail
        go_roundw
        case rel => exact ⟨i + 1, by omega, by go_num, HN.out, HB5.out⟩
        case measure => simp [intOf]; omega
    · obtain rfl : i = ps.length := by omega
      have HF := Lib.hid (show ps.any RT.this = false from by
        rw [List.any_eq_false]
        intro x hx
        obtain ⟨j, hj, rfl⟩ := List.getElem_of_mem hx
        rw [HALL.out j hj hj]
        exact Bool.false_ne_true)
      have HBE := Lib.hid hbel
      clear hbel
      go_wp2_with fail
      go_ret
      exact ⟨by rw [HF.out]; rfl, HBE.out⟩
end Go.Proofs.Ytjdigpfipmckhaa
namespace Go.Proofs.Ytjdigpfipmckhaa
open Go Go.RowKit
theorem ba_size_ne {a : ByteArray} (h : a.size ≠ 0) : a.toList.isEmpty = false := by
  rw [ByteArray.toList_eq]
  cases h' : a.data.toList with
  | nil => exact absurd (by have := congrArg List.length h'; simpa using this) h
  | cons => rfl
theorem ba_size_eq {a : ByteArray} (h : a.size = 0) : a = ⟨#[]⟩ := by
  refine ByteArray.ext (Array.eq_empty_of_size_eq_zero h)
def okc (c : UInt8) : Bool := decide ((97 ≤ (c.toNat : Int) ∧ (c.toNat : Int) ≤ 122) ∨ (48 ≤ (c.toNat : Int) ∧ (c.toNat : Int) ≤ 57) ∨ (c.toNat : Int) = 95 ∨ (c.toNat : Int) = 45)
def isNm (s : ByteArray) : Bool := s.data.toList.all okc && (decide (1 ≤ s.size) && decide (s.size ≤ 32))
theorem isNm_bad {s : ByteArray} {i : Nat} (hi : i < s.size) (h : okc s[i] = false) : isNm s = false := by
  unfold isNm
  rw [Bool.and_eq_false_iff]
  left
  rw [List.all_eq_false]
  exact ⟨s[i], by rw [show s[i] = s.data.toList[i]'(by simpa using hi) from rfl]; exact List.getElem_mem _, by simpa using h⟩
theorem isNm_end {s : ByteArray} (h : ∀ j (hj : j < s.size), j < s.size → okc s[j] = true) : isNm s = (decide (1 ≤ s.size) && decide (s.size ≤ 32)) := by
  unfold isNm
  rw [show s.data.toList.all okc = true from ?_, Bool.true_and]
  rw [List.all_eq_true]
  intro x hx
  obtain ⟨j, hj, rfl⟩ := List.getElem_of_mem hx
  have hj' : j < s.size := by simpa using hj
  exact h j hj' hj'
set_option maxRecDepth 100000 in
set_option maxHeartbeats 1600000 in
theorem isName_any (s : ByteArray) (hs : s.size ≤ maxLen) (w : World) : Calls Try.prog 46 #[.string s] w fun e w' => e = .returned (.bool (isNm s)) ∧ w' = w := by
  have hsz : s.size ≤ 9223372036854775807 := by unfold maxLen at hs; omega
  clear hs
  go_enter Try.func46, Try.ntmps46
  go_wp2_with fail
  go_loopw [7] (fun ii wr => ∃ i : Nat, i ≤ s.size ∧ ii = .int .i64 i ∧ (∀ j (hj : j < s.size), j < i → okc s[j] = true) ∧ wr = w) (fun ii _ => s.size - (intOf ii).toNat)
  case atStart => exact ⟨0, by omega, rfl, fun _ _ h => absurd h (by omega), rfl⟩
  case round =>
    obtain ⟨i, hi, rfl, hall, rfl⟩ := hrel
    have HALL := Lib.hid hall
    clear hall
    by_cases hlt : i < s.size
    · go_wp2_with fail
      all_goals first
        | (refine ⟨⟨i + 1, by omega, by go_num, upto_succ (p := fun j hj => okc s[j] = true) HALL.out hlt ?_, trivial⟩, by simp [intOf]; omega⟩
           unfold okc
           rw [decide_eq_true_iff]
           try simp only [beq_iff_eq, beq_eq_false_iff_ne, ne_eq] at *
           omega)
        | (go_ret
           refine ⟨?_, rfl⟩
           rw [isNm_bad hlt (by
             unfold okc
             rw [decide_eq_false_iff_not]
             try simp only [beq_eq_false_iff_ne, ne_eq] at *
             omega)]
           rfl)
    · obtain rfl : i = s.size := by omega
      have HE := Lib.hid (isNm_end HALL.out)
      by_cases h0 : s.size = 0
      · obtain rfl := ba_size_eq h0
        clear h0
        go_wp2_with fail
        go_ret
        exact ⟨by rw [HE.out]; rfl, rfl⟩
      · have hne := ba_size_ne h0
        have h1 : 1 ≤ s.size := by omega
        have HE2 := Lib.hid (show isNm s = decide ((s.size : Int) ≤ 32) from by
          rw [HE.out, decide_eq_true h1, Bool.true_and]
          by_cases h : s.size ≤ 32
          · rw [decide_eq_true h, decide_eq_true (by omega)]
          · rw [decide_eq_false h, decide_eq_false (by omega)])
        clear HE h0 h1
        go_wp2_with fail
        go_ret
        exact ⟨by rw [HE2.out]; rfl, rfl⟩
set_option maxRecDepth 100000 in
set_option maxHeartbeats 1600000 in
theorem refName_any (s : ByteArray) (hs : s.size ≤ maxLen) (w : World) : Calls Try.prog 49 #[.string s] w fun e w' => e = .returned (.bool (isNm s)) ∧ w' = w := by
  have hsz : s.size ≤ 9223372036854775807 := by unfold maxLen at hs; omega
  clear hs
  go_enter Try.func49, Try.ntmps49
  go_wp2_with fail
  go_loopw [3] (fun ii wr => ∃ i : Nat, i ≤ s.size ∧ ii = .int .i64 i ∧ (∀ j (hj : j < s.size), j < i → okc s[j] = true) ∧ wr = w) (fun ii _ => s.size - (intOf ii).toNat)
  case atStart => exact ⟨0, by omega, rfl, fun _ _ h => absurd h (by omega), rfl⟩
  case round =>
    obtain ⟨i, hi, rfl, hall, rfl⟩ := hrel
    have HALL := Lib.hid hall
    clear hall
    by_cases hlt : i < s.size
    · go_wp2_with fail
      all_goals first
        | (refine ⟨⟨i + 1, by omega, by go_num, upto_succ (p := fun j hj => okc s[j] = true) HALL.out hlt ?_, trivial⟩, by simp [intOf]; omega⟩
           unfold okc
           rw [decide_eq_true_iff]
           (try simp at *) <;> omega)
        | (go_ret
           refine ⟨?_, rfl⟩
           rw [isNm_bad hlt (by
             unfold okc
             rw [decide_eq_false_iff_not]
             (try simp at *) <;> omega)]
           rfl)
    · obtain rfl : i = s.size := by omega
      have HE := Lib.hid (isNm_end HALL.out)
      by_cases h0 : s.size = 0
      · obtain rfl := ba_size_eq h0
        clear h0
        go_wp2_with fail
        go_ret
        exact ⟨by rw [HE.out]; rfl, rfl⟩
      · have h1 : 1 ≤ s.size := by omega
        have h2 : (1 : Int) ≤ (s.size : Int) := by omega
        have HE2 := Lib.hid (show isNm s = decide ((s.size : Int) ≤ 32) from by
          rw [HE.out, decide_eq_true h1, Bool.true_and]
          by_cases h : s.size ≤ 32
          · rw [decide_eq_true h, decide_eq_true (by omega)]
          · rw [decide_eq_false h, decide_eq_false (by omega)])
        clear HE h0 h1
        go_wp2_with fail
        go_ret
        exact ⟨by rw [HE2.out]; rfl, rfl⟩
def ownB (s : ByteArray) : Bool := isNm s && decide (s ≠ ⟨#[116, 104, 105, 115]⟩)
end Go.Proofs.Ytjdigpfipmckhaa
namespace Go.Proofs.Ytjdigpfipmckhaa
open Go Go.RowKit
def hasT (t : TyS) (n : ByteArray) : Bool := t.rels.any fun r => decide (r.1 = n)
def anyT (ts : List TyS) (n : ByteArray) : Bool := ts.any fun t => hasT t n
end Go.Proofs.Ytjdigpfipmckhaa
namespace Go.Proofs.Ytjdigpfipmckhaa
open Go Go.RowKit
structure R2 where
  t : ByteArray
  r : ByteArray
deriving DecidableEq
instance : Inhabited R2 := ⟨⟨ByteArray.empty, ByteArray.empty⟩⟩
def r2V (p : R2) : Value := .agg #[.string p.t, .string p.r]
def r2C (p : R2) : List Value := [.string p.t, .string p.r]
theorem r2C_length (p : R2) : (r2C p).length = 2 := rfl
theorem ba_toList (a b : ByteArray) : a.toList = b.toList ↔ a = b := by
  rw [ByteArray.toList_eq, ByteArray.toList_eq]
  exact ⟨fun h => ByteArray.ext (by rw [← Array.toList_inj]; exact h), fun h => by rw [h]⟩
end Go.Proofs.Ytjdigpfipmckhaa
namespace Go.Proofs.Ytjdigpfipmckhaa
open Go Go.RowKit Go.Maps
theorem laidOut : laidOutB Try.prog = true := by kernel_rfl
theorem str_lits (d : Nat) (s : ByteArray) (h : s.size ≤ maxLen) : Try.prog.keyLits (d + 1) 9 [.string s] = some [.string s.data.toList] := by
  unfold Program.keyLits
  rw [Try.underlying9]
  simp only [h, if_true]
theorem obj_lits (d : Nat) (s u : ByteArray) (h : s.size ≤ maxLen) (k : u.size ≤ maxLen) : Try.prog.keyLits (d + 1 + 1) 34 [.string s, .string u] = some [.string s.data.toList, .string u.data.toList] := by
  unfold Program.keyLits
  rw [Try.underlying34]
  have e1 := str_lits d s h
  have e2 := str_lits d u k
  have e3 : Try.prog.cellsOf 34 = 2 := by kernel_rfl
  have e4 : Try.prog.cellsOf 9 = 1 := by kernel_rfl
  simp [e1, e2, e3, e4]
theorem types_many : ∃ d, Try.prog.types.size = d + 1 + 1 + 1 := ⟨Try.prog.types.size - 3, by have : 3 ≤ Try.prog.types.size := of_decide_eq_true (by kernel_rfl); omega⟩
end Go.Proofs.Ytjdigpfipmckhaa
namespace Go.Proofs.Ytjdigpfipmckhaa
open Go Go.RowKit Go.Maps
theorem refK : Keyed Try.prog 82 := Keyed.of_law (deep_law_laid laidOut (m := 3) (by decide) (of_decide_eq_true (by kernel_rfl)) (by kernel_rfl) (by kernel_rfl))
theorem r2V_inj (a b : R2) (h : r2V a = r2V b) : a = b := by
  obtain ⟨a1, a2⟩ := a
  obtain ⟨b1, b2⟩ := b
  simpa [r2V] using h
def R2.Ok (p : R2) : Prop := p.t.size ≤ maxLen ∧ p.r.size ≤ maxLen
theorem ref_lits (d : Nat) (p : R2) (h : p.Ok) : Try.prog.keyLits (d + 1 + 1) 82 [.string p.t, .string p.r] = some [.string p.t.data.toList, .string p.r.data.toList] := by
  unfold Program.keyLits
  rw [Try.underlying82]
  have e1 := str_lits d p.t h.1
  have e2 := str_lits d p.r h.2
  have e3 : Try.prog.cellsOf 82 = 2 := by kernel_rfl
  have e4 : Try.prog.cellsOf 9 = 1 := by kernel_rfl
  simp [e1, e2, e3, e4]
theorem ref_key (p : R2) (h : p.Ok) : ∃ q, keyOf Try.prog 82 (r2V p) = some q := by
  obtain ⟨d, hd⟩ := types_many
  have e := ref_lits (d + 1 + 1) p h
  have e2 : (Try.prog.keyType 82 && (r2V p).formed Try.prog 82) = true := by kernel_rfl
  have hs : Try.prog.types.size + 1 = d + 1 + 1 + 1 + 1 := by omega
  unfold keyOf
  rw [Try.underlying82]
  dsimp only
  rw [if_pos e2, hs]
  rw [show (r2V p).cells.toList = [.string p.t, .string p.r] from rfl, e]
  exact ⟨_, rfl⟩
theorem strK : Keyed Try.prog 9 := string_keyed Try.underlying9
theorem strV_inj (a b : ByteArray) (h : Value.string a = Value.string b) : a = b := by injection h
theorem str_key (s : ByteArray) (h : s.size ≤ maxLen) : ∃ q, keyOf Try.prog 9 (.string s) = some q := by
  unfold keyOf
  rw [Try.underlying9]
  dsimp only
  unfold mapKey
  rw [Try.underlying9]
  simp [h]
end Go.Proofs.Ytjdigpfipmckhaa
namespace Go.Proofs.Ytjdigpfipmckhaa
open Go Go.RowKit Go.Maps
abbrev bV : Bool → Value := fun x => .bool x
section
variable {κ α : Type} [DecidableEq κ]
theorem look_put (a : κ) (x : α) (b : κ) : ∀ l : List (κ × α), lookA (putA l a x) b = if a = b then some x else lookA l b
  | [] => by simp [putA, lookA]
  | p :: r => by
    unfold putA
    by_cases h : p.1 = a
    · rw [if_pos h]
      subst h
      by_cases hb : p.1 = b
      · simp [lookA, hb]
      · simp [lookA, hb]
    · rw [if_neg h]
      by_cases hb : p.1 = b
      · subst hb
        simp [lookA, Ne.symm h]
      · simp [lookA, hb, look_put a x b r]
theorem put_keys_mem (a : κ) (x : α) (b : κ × α) : ∀ {l : List (κ × α)}, b ∈ putA l a x → b = (a, x) ∨ b ∈ l
  | [], h => by simpa [putA] using h
  | p :: r, h => by
    unfold putA at h
    split at h
    · rcases List.mem_cons.1 h with h | h
      · exact .inl h
      · exact .inr (by simp [h])
    · rcases List.mem_cons.1 h with h | h
      · exact .inr (by simp [h])
      · rcases put_keys_mem a x b h with h | h
        · exact .inl h
        · exact .inr (by simp [h])
end
abbrev Tk (b : Nat) (w w' : World) : Prop := Kept (fun x => x < w.heap.size ∧ x ≠ b) w w'
section
variable {b : Nat} {w w' w'' : World}
theorem Tk.refl (b : Nat) (w : World) : Tk b w w := Kept.refl _ _
theorem Tk.next (h : Tk b w w') (k : Tk b w' w'') : Tk b w w'' := Kept.trans h (Kept.mono k fun x hx => ⟨Nat.lt_of_lt_of_le hx.1 h.size, hx.2⟩)
theorem Tk.of (h : Below w.heap.size w w') : Tk b w w' := Below.kept h fun x hx => hx.1
theorem Tk.turned (h : Turned w w' b) : Tk b w w' := h.kept.mono fun x hx => hx.2
theorem Tk.box (h : Tk b w w') {x : Nat} {cs : Array Value} {t : TypeId} (hx : Blk w x cs t) (hb : x ≠ b) : Blk w' x cs t := Kept.blk h hx ⟨hx.lt, hb⟩
theorem Tk.below (h : Tk b w w') {B : Nat} (h1 : B ≤ w.heap.size) (h2 : B ≤ b) : Below B w w' := Kept.below h fun x hx => ⟨by omega, by omega⟩
end
end Go.Proofs.Ytjdigpfipmckhaa
namespace Go.Proofs.Ytjdigpfipmckhaa
open Go Go.RowKit
theorem append_where {P : Program} {w : World} (base : Nat) (t ty e : TypeId) (i : TypeInfo) (z : Value) (ht : P.underlying t = some (.slice e)) (hi : P.info? e = some i) (hz : i.zero = some z)
    (v : Value) (n : Nat) (xs : List Value) (hown : w.ownsRow base e i.size v n xs)
    (a : Addr) (m c : Nat) (news : List Value) (hl : news.length = m * i.size) (hnews : ∀ j u, news[j]? = some u → w.cell? (a.add j) = some u) (h1 : ∀ u ∈ news, u.oneCell' = true)
    (h63 : n + m ≤ maxLen) (hbytes : (n + m) * i.bytes ≤ 140737488355328) {v' : Value} {w' : World} (hrun : (Builtin.append_ #[t, t] ty #[v, .slice (some a) m c]).run P w = .ok v' w') :
    ∀ g, v'.ownBlock = some g → v.ownBlock = some g ∨ w.heap.size ≤ g := by
  have hsmall : n + m ≤ 9223372036854775807 := by simp only [maxLen] at h63; omega
  rcases hown.2 with ⟨rfl, rfl⟩ | ⟨g, cap, cur, rfl, hbg, hg, hnc, hcm, hcs, htake⟩
  · have hx : xs = [] := List.eq_nil_of_length_eq_zero (by simpa using hown.1)
    subst hx
    by_cases hm : m = 0
    · subst hm
      have hn : news = [] := List.eq_nil_of_length_eq_zero (by simpa using hl)
      subst hn
      have : (Builtin.append_ #[t, t] ty #[.slice none 0 0, .slice (some a) 0 c]).run P w = .ok (.slice none 0 0) w := by
        simp [Builtin.append_, run_underlying ht, sizeOf, typeInfo, hi, Builtin.lenOf, Builtin.firstCells, loadCells, loadCellsFrom]
      rw [hrun] at this
      injection this with h1 h2
      subst h1
      intro g hg
      cases hg
    · have hr := run_append_nil (P := P) w t ty e i z ht hi hz a m c news hl hnews (by omega) (by omega) (by have hb := hbytes; simp only [Nat.zero_add] at hb; omega)
      rw [hrun] at hr
      injection hr with h1 h2
      subst h1
      intro g hg
      simp only [Value.ownBlock, Option.some.injEq] at hg
      exact .inr (Nat.le_of_eq hg)
  · by_cases hroom : n + m ≤ cap
    · have hfit : n * i.size + news.length ≤ cur.size := by rw [hl, hcs, ← Nat.add_mul]; exact Nat.mul_le_mul_right _ hroom
      have hr := run_append_room (P := P) w t ty e i ht hi g n cap cur hg a m c news hl hnews h1 hroom hfit
      rw [hrun] at hr
      injection hr with h1 h2
      subst h1
      intro g' hg'
      exact .inl hg'
    · have holds : ∀ j u, xs[j]? = some u → w.cell? ((⟨g, 0, none⟩ : Addr).add j) = some u := hown.cells (g := g) rfl
      have hr := run_append_grow (P := P) w t ty e i z ht hi hz ⟨g, 0, none⟩ n cap xs hown.1 holds a m c news hl hnews (by omega) (by omega) (growslice_fits (by omega) hbytes)
      rw [hrun] at hr
      injection hr with h1 h2
      subst h1
      intro g hg
      simp only [Value.ownBlock, Option.some.injEq] at hg
      exact .inr (Nat.le_of_eq hg)
theorem wp_ownw {P : Program} {w : World} {o : Oper} {a : Act} {K : Act → World → Prop} {Q : Exit → Act → World → Prop} {t e : TypeId} {size bytes : Nat} (E : ElemT P t e size bytes)
    (s x : Operand) (hop : o.op = Op.call { callee := Callee.builtin Builtin.append, args := #[s, x], argTypes := #[t, t] })
    {B : Nat} {v : Value} {xs : List Value} (hs : a.eval s = v) (hown : Own w B e size v xs) {ad : Addr} {m c : Nat} {news : List Value} (hx : a.eval x = .slice (some ad) m c) (hn : news.length = m * size)
    (hc : ∀ j u, news[j]? = some u → w.cell? (ad.add j) = some u) (h1 : ∀ u ∈ news, u.oneCell' = true)
    (hlen : xs.length + news.length ≤ 9223372036854775807) (hbytes : (xs.length + news.length) * bytes ≤ 140737488355328) (hB : B ≤ w.heap.size)
    (h : ∀ v' w', Own w' B e size v' (xs ++ news) → (∀ g, v'.ownBlock = some g → v.ownBlock = some g ∨ w.heap.size ≤ g) → w.grownBy w' v.ownBlock → K (a.put o.dst v') w') : o.wp P a w K Q := by
  obtain ⟨hund, ⟨i, z, hi, hz, h4, h5, h6⟩, hpos⟩ := E
  obtain ⟨k, hown⟩ := hown
  have e1 : ∀ k l : Nat, k ≤ l * size → l * size ≤ k → l ≤ k := fun k l _ hb => Nat.le_trans (Nat.le_mul_of_pos_right l hpos) hb
  have hnl : k ≤ xs.length := e1 _ _ (Nat.le_of_eq hown.1) (Nat.le_of_eq hown.1.symm)
  have hml : m ≤ news.length := e1 _ _ (Nat.le_of_eq hn) (Nat.le_of_eq hn.symm)
  have hb47 : (k + m) * bytes ≤ 140737488355328 := Nat.le_trans (Nat.mul_le_mul_right _ (by omega)) hbytes
  subst h4
  subst h5
  obtain ⟨v', w', hrun, r1, r2, _⟩ := run_append_own (P := P) w B t o.type e i z i.size i.bytes hund hi hz rfl rfl h6 hpos v k xs hown ad m c news hn hc h1 (by unfold maxLen; omega) hb47 hB
  have r3 := append_where B t o.type e i z hund hi hz v k xs hown ad m c news hn hc h1 (by unfold maxLen; omega) hb47 hrun
  unfold Oper.wp
  simp [execOp, hop, resolve, invoke, builtin, hs, hx, hrun, Result.andThen]
  exact h v' w' ⟨_, r1⟩ r3 r2
theorem wpList_ownw {P : Program} {w : World} {ops : Array Oper} {rest : List Oper} {o : Oper} {a : Act} {Q : Exit → Act → World → Prop} {t e : TypeId} {size bytes : Nat} (E : ElemT P t e size bytes)
    (hg : o.guard = none) (s x : Operand) (hop : o.op = Op.call { callee := Callee.builtin Builtin.append, args := #[s, x], argTypes := #[t, t] })
    {B : Nat} {v : Value} {xs : List Value} (hs : a.eval s = v) (hown : Own w B e size v xs) {ad : Addr} {m c : Nat} {news : List Value} (hx : a.eval x = .slice (some ad) m c) (hn : news.length = m * size)
    (hc : ∀ j u, news[j]? = some u → w.cell? (ad.add j) = some u) (h1 : ∀ u ∈ news, u.oneCell' = true)
    (hlen : xs.length + news.length ≤ 9223372036854775807) (hbytes : (xs.length + news.length) * bytes ≤ 140737488355328) (hB : B ≤ w.heap.size)
    (K : ∀ v' w', Own w' B e size v' (xs ++ news) → (∀ g, v'.ownBlock = some g → v.ownBlock = some g ∨ w.heap.size ≤ g) → w.grownBy w' v.ownBlock → wpList P ops Q rest (a.put o.dst v') w') : wpList P ops Q (o :: rest) a w :=
  wpList_plain hg fun K' hK' => wp_ownw E s x hop hs hown hx hn hc h1 hlen hbytes hB fun v' w' h2 h3 h4 => hK' _ _ (K v' w' h2 h3 h4)
theorem Own.apart {w : World} {B B' sz sz' : Nat} {e e' : TypeId} {v v' : Value} {xs xs' : List Value} (h : Own w B e sz v xs) (k : Own w B' e' sz' v' xs') (hne : e ≠ e') {g : Nat} (hg : v.ownBlock = some g) : v'.ownBlock ≠ some g := fun hv => by
  obtain ⟨c1, h1⟩ := h.typed hg
  obtain ⟨c2, h2⟩ := k.typed hv
  rw [h1] at h2
  exact hne (by injection Option.some.inj h2)
end Go.Proofs.Ytjdigpfipmckhaa
