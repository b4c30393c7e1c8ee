/- Lemmas for the claim, no condition. -/
import Derived.Test.YtipddhcfcehcaaaYT3
import Derived.Test.YtipddhcfcehcaaaYT1
namespace Go.Proofs.Ytipddhcfcehcaaa
open Go Go.RowKit

/-- Has a type that relation? -/
def hasT (t : TyS) (n : ByteArray) : Bool := t.rels.any fun r => decide (r.1 = n)
def anyT (ts : List TyS) (n : ByteArray) : Bool := ts.any fun t => hasT t n

set_option maxRecDepth 100000 in
set_option maxHeartbeats 2000000 in
theorem own_any (s : ByteArray) (hs : s.size ≤ maxLen) (w : World) : Calls Try.prog 75 #[.string s] w fun e w' => e = .returned (.bool (ownB s)) ∧ w' = w := by
  have HN := Lib.hid (refName_any s hs w)
  clear hs
  go_enter Try.func75, Try.ntmps75
  go_wp2_with fail
  refine HN.out.mono ?_
  rintro e w2 ⟨rfl, rfl⟩
  clear HN
  cases h1 : isNm s with
  | false =>
    have HF := Lib.hid (show ownB s = false from by rw [ownB, h1]; rfl)
    clear h1
    go_wp2_with fail
    go_ret
    exact ⟨by rw [HF.out]; rfl, rfl⟩
  | true =>
    by_cases he : s = ⟨#[116, 104, 105, 115]⟩
    · have HF := Lib.hid (show ownB s = false from by rw [ownB, he]; simp)
      subst he
      clear h1
      go_wp2_with fail
      go_ret
      exact ⟨by rw [HF.out]; rfl, rfl⟩
    · have HF := Lib.hid (show ownB s = true from by rw [ownB, h1]; simp [he])
      have hne := ba_beq' he
      rw [← ByteArray.toList_eq, show (⟨#[116, 104, 105, 115]⟩ : ByteArray).data.toList = [116, 104, 105, 115] from rfl] at hne
      clear h1 he
      go_wp2_with fail
      go_ret
      exact ⟨by rw [HF.out]; rfl, rfl⟩

set_option maxRecDepth 100000 in
set_option maxHeartbeats 2000000 in
theorem has_any (t : TyS) (rv : Value) (n : ByteArray) (w : World) (h : RelsAt (· < w.heap.size) w t.rels rv) : Calls Try.prog 77 #[.agg #[.string t.name, rv], .string n] w fun e w' => e = .returned (.bool (hasT t n)) ∧ Below w.heap.size w w' := by
  obtain ⟨ao, c, rfl, hlc, hcm, hcell⟩ := h.rows
  have HC := Lib.hid hcell
  have HD := Lib.hid (show hasT t n = t.rels.any (fun r => decide (r.1 = n)) from rfl)
  generalize hasT t n = g at *
  generalize t.rels = l at *
  generalize t.name = nm at *
  have hbk := (Blk.made w #[.string nm, .slice ao l.length c] 49).cells
  have HB0 := Lib.hid (show Below w.heap.size w (w.alloc (.cells #[.string nm, .slice ao l.length c] 49)) from (Below.refl _ _).alloc (Nat.le_refl _) _)
  clear h hcell
  go_enter Try.func77, Try.ntmps77
  go_wp2_with fail
  clear hbk
  go_loopw [10] (fun ii wr => ∃ i : Nat, i ≤ l.length ∧ ii = .int .i64 i ∧ (∀ j (hj : j < l.length), j < i → l[j].1 ≠ n) ∧ Below w.heap.size w wr) (fun ii _ => l.length - (intOf ii).toNat)
  case atStart => exact ⟨0, by omega, rfl, fun _ _ h => absurd h (by omega), HB0.out⟩
  case round =>
    obtain ⟨i, hi, rfl, hall, hbel⟩ := hrel
    have HALL := Lib.hid hall
    clear HB0 hall
    by_cases hlt : i < l.length
    · have HUP := fun h => Lib.hid (upto_succ (p := fun j hj => l[j].1 ≠ n) HALL.out hlt h)
      have HAN := fun (h : l[i].1 = n) => Lib.hid (show g = true from by rw [HD.out]; exact List.any_eq_true.2 ⟨l[i], List.getElem_mem hlt, by simp [h]⟩)
      obtain ⟨b, off, pv2, hbo, hb, c0, c1, c2, c3, c4, hat2⟩ := HC.out i hlt
      cases hbo
      have d0 := (hbel.cell (p := ⟨b, off + i * 5, none⟩) hb).trans c0
      have d1 := (hbel.cell (p := ⟨b, off + i * 5 + 1, none⟩) hb).trans c1
      have d2 := (hbel.cell (p := ⟨b, off + i * 5 + 2, none⟩) hb).trans c2
      have d3 := (hbel.cell (p := ⟨b, off + i * 5 + 3, none⟩) hb).trans c3
      have d4 := (hbel.cell (p := ⟨b, off + i * 5 + 4, none⟩) hb).trans c4
      obtain ⟨ao2, c2', rfl, -⟩ := hat2.rows
      have hb1 := hbel.alloc hbel.size (.cells #[.string l[i].1, .int .i64 l[i].2.k, .string l[i].2.a, .string l[i].2.b, .slice ao2 l[i].2.ps.length c2'] 82)
      have hat3 := hat2.up hb1
      have HBK := Lib.hid (Blk.made wr #[.string l[i].1, .int .i64 l[i].2.k, .string l[i].2.a, .string l[i].2.b, .slice ao2 l[i].2.ps.length c2'] 82)
      have hbx := HBK.out.cells
      have HB1 := Lib.hid hb1
      clear c0 c1 c2 c3 c4 hat2 hb1 hbel
      clear hat3
      generalize l[i] = x at *
      obtain ⟨xn, p⟩ := x
      dsimp only at *
      by_cases he : xn = n
      · have HT := HAN he
        subst he
        clear HUP HAN
        go_wp2_with fail
        go_ret
        exact ⟨by rw [HT.out]; rfl, HB1.out⟩
      · have HN := HUP he
        have hne := ba_beq' he
        rw [← ByteArray.toList_eq, ← ByteArray.toList_eq] at hne
        clear HUP HAN he
        go_wp2_with fail
        go_roundw
        case rel => exact ⟨i + 1, by omega, by go_num, HN.out, HB1.out⟩
        case measure => simp [intOf]; omega
    · obtain rfl : i = l.length := by omega
      have HF := Lib.hid (show g = false from by
        rw [HD.out, List.any_eq_false]
        intro x hx
        obtain ⟨j, hj, rfl⟩ := List.getElem_of_mem hx
        have := HALL.out j hj hj
        simpa using this)
      have HBE := Lib.hid hbel
      clear hbel
      go_wp2_with fail
      go_ret
      exact ⟨by rw [HF.out]; rfl, HBE.out⟩

set_option maxRecDepth 100000 in
set_option maxHeartbeats 2000000 in
theorem anywhere_any (ts : List TyS) (tv : Value) (n : ByteArray) (w : World) (h : TysAt (· < w.heap.size) w ts tv) : Calls Try.prog 78 #[.agg #[tv], .string n] w fun e w' => e = .returned (.bool (anyT ts n)) ∧ Below w.heap.size w w' := by
  obtain ⟨ao, c, rfl, hlc, hcm, hcell⟩ := h.rows
  have HC := Lib.hid hcell
  have HD := Lib.hid (show anyT ts n = ts.any (fun t => hasT t n) from rfl)
  generalize anyT ts n = g at *
  have hbk := (Blk.made w #[.slice ao ts.length c] 24).cells
  have HB0 := Lib.hid (show Below w.heap.size w (w.alloc (.cells #[.slice ao ts.length c] 24)) from (Below.refl _ _).alloc (Nat.le_refl _) _)
  clear h hcell
  go_enter Try.func78, Try.ntmps78
  go_wp2_with fail
  clear hbk
  go_loopw [10] (fun ii wr => ∃ i : Nat, i ≤ ts.length ∧ ii = .int .i64 i ∧ (∀ j (hj : j < ts.length), j < i → hasT ts[j] n = false) ∧ Below w.heap.size w wr) (fun ii _ => ts.length - (intOf ii).toNat)
  case atStart => exact ⟨0, by omega, rfl, fun _ _ h => absurd h (by omega), HB0.out⟩
  case round =>
    obtain ⟨i, hi, rfl, hall, hbel⟩ := hrel
    have HALL := Lib.hid hall
    clear HB0 hall
    by_cases hlt : i < ts.length
    · have HUP := fun h => Lib.hid (upto_succ (p := fun j hj => hasT ts[j] n = false) HALL.out hlt h)
      have HAN := fun (h : hasT ts[i] n = true) => Lib.hid (show g = true from by rw [HD.out]; exact List.any_eq_true.2 ⟨ts[i], List.getElem_mem hlt, h⟩)
      obtain ⟨b, off, pv2, hbo, hb, c0, c1, hat2⟩ := HC.out i hlt
      cases hbo
      have d0 := (hbel.cell (p := ⟨b, off + i * 2, none⟩) hb).trans c0
      have d1 := (hbel.cell (p := ⟨b, off + i * 2 + 1, none⟩) hb).trans c1
      obtain ⟨ao2, c2', rfl, -⟩ := hat2.rows
      have hb1 := hbel.alloc hbel.size (.cells #[.string ts[i].name, .slice ao2 ts[i].rels.length c2'] 49)
      have hat3 := hat2.up hb1
      have HBT := Lib.hid (Blk.made wr #[.string ts[i].name, .slice ao2 ts[i].rels.length c2'] 49)
      have hbx := HBT.out.cells
      have HB1 := Lib.hid hb1
      clear c0 c1 hat2 hb1 hbel
      have HR := Lib.hid (has_any ts[i] _ n _ hat3)
      clear hat3
      generalize ts[i] = x at *
      cases hx : hasT x n with
      | true =>
        rw [hx] at HR
        have HT := HAN hx
        clear HUP HAN hx
        go_wp2_with fail
        refine HR.out.mono ?_
        rintro e w5 ⟨rfl, hb5⟩
        have HB5 := Lib.hid (HB1.out.trans (hb5.mono HB1.out.size))
        clear HR hb5 hbx d0 d1 HB1
        go_wp2_with fail
        go_ret
        exact ⟨by rw [HT.out]; rfl, HB5.out⟩
      | false =>
        rw [hx] at HR
        have HN := HUP hx
        clear HUP HAN hx
        go_wp2_with fail
        refine HR.out.mono ?_
        rintro e w5 ⟨rfl, hb5⟩
        have HB5 := Lib.hid (HB1.out.trans (hb5.mono HB1.out.size))
        clear HR hb5 hbx d0 d1 HB1
        go_wp2_with fail
        go_roundw
        case rel => exact ⟨i + 1, by omega, by go_num, HN.out, HB5.out⟩
        case measure => simp [intOf]; omega
    · obtain rfl : i = ts.length := by omega
      have HF := Lib.hid (show g = false from by
        rw [HD.out, List.any_eq_false]
        intro x hx
        obtain ⟨j, hj, rfl⟩ := List.getElem_of_mem hx
        rw [HALL.out j hj hj]
        exact Bool.false_ne_true)
      have HBE := Lib.hid hbel
      clear hbel
      go_wp2_with fail
      go_ret
      exact ⟨by rw [HF.out]; rfl, HBE.out⟩

end Go.Proofs.Ytipddhcfcehcaaa
namespace Go.Proofs.Ytipddhcfcehcaaa
open Go Go.RowKit

theorem kept_freeze {K : Nat → Prop} {w w' : World} (h : Kept K w w') {p : Addr} (hp : ¬ K p.block) (n : Nat) : Kept K w (w'.freeze p n) := by
  have hb := Lib.below_freeze (B := 0) (Below.refl 0 w') (p := p) (Nat.zero_le _) n
  refine h.trans ⟨hb.os, hb.tape, hb.output, hb.size, fun x hx => ?_⟩
  have hne : x ≠ p.block := fun e => hp (e ▸ hx)
  unfold World.freeze
  split
  · rfl
  · simp only [Array.getElem?_modify]
    rw [if_neg (Ne.symm hne)]

set_option maxRecDepth 100000 in
set_option maxHeartbeats 2000000 in
theorem wname_any {B b : Nat} {text : ByteArray} {odd : Bool} {w : World} (s : ByteArray) (h : WrB w B b text odd) (hlen : text.size + s.size ≤ 140737488355328) (hpos : 0 < text.size) (hs : s.size ≤ maxLen) (hBw : B ≤ w.heap.size) :
    Calls Try.prog 99 #[.pointer (some ⟨b, 0, none⟩), .string s] w fun e w' => e = .returned (.tuple #[]) ∧ WrB w' B b (text ++ s) (odd || !ownB s) ∧ WKept B b w w' := by
  have HN := Lib.hid (isName_any s hs w)
  obtain ⟨hc, hf⟩ := h.odd2
  have hB := h.1
  have HB := Lib.hid hB
  have HW := Lib.hid (fun o => writeString_any s (h.flag o) hlen (by omega) (by simpa using hBw))
  have HK := Lib.hid (fun v => WKept.flag (w := w) hB v)
  clear h hlen hpos hs hBw
  cases odd with
  | true =>
    go_enter Try.func99, Try.ntmps99
    go_wp2_with fail
    refine (HW.out true).mono ?_
    rintro e w2 ⟨rfl, hw, hk⟩
    have HF := Lib.hid hw
    have HE := Lib.hid (WKept.next (HK.out _) hk)
    clear HW hw hk hc hf HN
    go_wp2_with fail
    go_end0
    exact ⟨rfl, by rw [Bool.true_or]; exact HF.out, HE.out⟩
  | false =>
    cases hn : isNm s with
    | false =>
      rw [hn] at HN
      have HV := Lib.hid (show (false || !ownB s) = true from by rw [ownB, hn]; rfl)
      clear hn
      go_enter Try.func99, Try.ntmps99
      go_wp2_with fail
      refine HN.out.mono ?_
      rintro e w1 ⟨rfl, h1⟩
      have h2 := h1.symm
      subst h2
      clear h1 HN
      go_wp2_with fail
      refine (HW.out true).mono ?_
      rintro e w2 ⟨rfl, hw, hk⟩
      have HF := Lib.hid hw
      have HE := Lib.hid (WKept.next (HK.out _) hk)
      clear HW hw hk hc hf
      go_wp2_with fail
      go_end0
      exact ⟨rfl, by rw [HV.out]; exact HF.out, HE.out⟩
    | true =>
      rw [hn] at HN
      by_cases he : s = ⟨#[116, 104, 105, 115]⟩
      · have HV := Lib.hid (show (false || !ownB s) = true from by rw [ownB, he]; simp)
        subst he
        clear hn
        go_enter Try.func99, Try.ntmps99
        go_wp2_with fail
        refine HN.out.mono ?_
        rintro e w1 ⟨rfl, h1⟩
        have h2 := h1.symm
        subst h2
        clear h1 HN
        go_wp2_with fail
        refine (HW.out true).mono ?_
        rintro e w2 ⟨rfl, hw, hk⟩
        have HF := Lib.hid hw
        have HE := Lib.hid (WKept.next (HK.out _) hk)
        clear HW hw hk hc hf
        go_wp2_with fail
        go_end0
        exact ⟨rfl, by rw [HV.out]; exact HF.out, HE.out⟩
      · have HV := Lib.hid (show (false || !ownB s) = false from by rw [ownB, hn]; simp [he])
        have hne := ba_beq' he
        rw [← ByteArray.toList_eq, show (⟨#[116, 104, 105, 115]⟩ : ByteArray).data.toList = [116, 104, 105, 115] from rfl] at hne
        clear hn he
        go_enter Try.func99, Try.ntmps99
        go_wp2_with fail
        refine HN.out.mono ?_
        rintro e w1 ⟨rfl, h1⟩
        have h2 := h1.symm
        subst h2
        clear h1 HN
        go_wp2_with fail
        refine (HW.out false).mono ?_
        rintro e w2 ⟨rfl, hw, hk⟩
        have HF := Lib.hid hw
        have HE := Lib.hid (WKept.next (HK.out _) hk)
        clear HW hw hk hc hf
        go_wp2_with fail
        go_end0
        exact ⟨rfl, by rw [HV.out]; exact HF.out, HE.out⟩

set_option maxRecDepth 100000 in
set_option maxHeartbeats 2000000 in
theorem wstring_any {B b : Nat} {text : ByteArray} {odd : Bool} {w : World} (h : WrB w B b text odd) :
    Calls Try.prog 101 #[.pointer (some ⟨b, 0, none⟩)] w fun e w' => e = .returned (.string text) ∧ Below B w w' := by
  obtain ⟨hB, p, v, hp, hbk, hown, hnil⟩ := h
  have hUSn : ∀ (W : World) (q : Option Addr), (Builtin.unsafeString_ #[176, 3] 9 #[.pointer q, .int .i64 0]).run Try.prog W = .ok (.string .empty) W := fun W q => Lib.run_unsafeString_none W 176 3 9 q
  by_cases hs : text.size = 0
  · obtain rfl := hnil hs
    obtain rfl := ba_size_eq hs
    have c1 : w.drew.cell? ⟨b, 1, none⟩ = some (.slice none 0 0) := hbk.drew.cells 1
    have hSD : (Builtin.unsafeSliceData_ #[42] 176 #[.slice none 0 0]).run Try.prog w.drew = .ok (.pointer none) w.drew := rfl
    clear hbk hown hnil hs hp
    go_enter Try.func101, Try.ntmps101
    go_wp2_with fail
    obtain ⟨wd, hwd⟩ : ∃ wd, wd = w.drew := ⟨_, rfl⟩
    rw [← hwd] at c1 hSD
    have hbd : Below B w wd := by rw [hwd]; exact (Below.refl _ _).drew
    refine region_walkN (fun W => Kept (fun x => x = b) wd W ∧ Below B w W) (by rw [← hwd]; exact ⟨Kept.refl _ _, hbd⟩) (by kernel_rfl) (by kernel_rfl) (fun _ _ d _ _ h => by cases d <;> exact h) ?_
    rw [← hwd]
    have HBD := Lib.hid hbd
    have h1 : ∀ W, (Kept (fun x => x = b) wd W ∧ Below B w W) → W.cell? ⟨b, 1, none⟩ = some (.slice none 0 0) := fun W h => (World.cell?_of_block (h.1.block b rfl)).trans c1
    clear hwd c1 hbd
    ((refine WalkN.take 0 _ ?_ (by simp only [List.getElem?_toArray, List.getElem?_cons_zero]; rfl) (by kernel_rfl) (by kernel_rfl) (by rfl) (fun W hW => ?_) ?_; rotate_left; · (go_simp; try with_reducible rfl)); simp only [Act.put, List.setIfInBounds_toArray, List.set_cons_zero, List.set_cons_succ]); ((refine WalkN.take 1 _ ?_ (by simp only [List.getElem?_toArray, List.getElem?_cons_succ, List.getElem?_cons_zero]; rfl) (by kernel_rfl) (by kernel_rfl) (by rfl) (fun W hW => ?_) ?_; rotate_left; · (go_simp; try with_reducible rfl)); simp only [Act.put, List.setIfInBounds_toArray, List.set_cons_zero, List.set_cons_succ]); ((refine WalkN.take 2 _ ?_ (by simp only [List.getElem?_toArray, List.getElem?_cons_succ, List.getElem?_cons_zero]; rfl) (by kernel_rfl) (by kernel_rfl) (by rfl) (fun W hW => ?_) ?_; rotate_left; · (go_simp; try with_reducible rfl)); simp only [Act.put, List.setIfInBounds_toArray, List.set_cons_zero, List.set_cons_succ]); ((refine WalkN.take 3 _ ?_ (by simp only [List.getElem?_toArray, List.getElem?_cons_succ, List.getElem?_cons_zero]; rfl) (by kernel_rfl) (by kernel_rfl) (by rfl) (fun W hW => ?_) ?_; rotate_left; · (go_simp; try with_reducible rfl)); simp only [Act.put, List.setIfInBounds_toArray, List.set_cons_zero, List.set_cons_succ]); ((refine WalkN.take 5 _ ?_ (by simp only [List.getElem?_toArray, List.getElem?_cons_succ, List.getElem?_cons_zero]; rfl) (by kernel_rfl) (by kernel_rfl) (by rfl) (fun W hW => ?_) ?_; rotate_left; · (go_simp; try with_reducible rfl)); simp only [Act.put, List.setIfInBounds_toArray, List.set_cons_zero, List.set_cons_succ]); ((refine WalkN.take 6 _ ?_ (by simp only [List.getElem?_toArray, List.getElem?_cons_succ, List.getElem?_cons_zero]; rfl) (by kernel_rfl) (by kernel_rfl) (by rfl) (fun W hW => ?_) ?_; rotate_left; · (go_simp; try with_reducible rfl)); simp only [Act.put, List.setIfInBounds_toArray, List.set_cons_zero, List.set_cons_succ]); ((refine WalkN.take 7 _ ?_ (by simp only [List.getElem?_toArray, List.getElem?_cons_succ, List.getElem?_cons_zero]; rfl) (by kernel_rfl) (by kernel_rfl) (by rfl) (fun W hW => ?_) ?_; rotate_left; · (go_simp; try with_reducible rfl)); simp only [Act.put, List.setIfInBounds_toArray, List.set_cons_zero, List.set_cons_succ]); ((refine WalkN.take 8 _ ?_ (by simp only [List.getElem?_toArray, List.getElem?_cons_succ, List.getElem?_cons_zero]; rfl) (by kernel_rfl) (by kernel_rfl) (by rfl) (fun W hW => ?_) ?_; rotate_left; · (go_simp; try with_reducible rfl)); simp only [Act.put, List.setIfInBounds_toArray, List.set_cons_zero, List.set_cons_succ]); ((refine WalkN.take 9 _ ?_ (by simp only [List.getElem?_toArray, List.getElem?_cons_succ, List.getElem?_cons_zero]; rfl) (by kernel_rfl) (by kernel_rfl) (by rfl) (fun W hW => ?_) ?_; rotate_left; · (go_simp; try with_reducible rfl)); simp only [Act.put, List.setIfInBounds_toArray, List.set_cons_zero, List.set_cons_succ])
    refine WalkN.one 4 (by kernel_rfl) ?_
    refine ⟨_, (by simp only [List.getElem?_toArray, List.getElem?_cons_succ, List.getElem?_cons_zero]; rfl), by rfl, fun K hK => ?_⟩
    go_simp
    refine hK.out _ _ ⟨Kept.refl _ _, HBD.out⟩ ?_
    clear hK
    try simp only [Act.put, List.setIfInBounds_toArray, List.set_cons_zero, List.set_cons_succ]
    refine WalkN.one 10 (by kernel_rfl) ?_
    refine ⟨_, (by simp only [List.getElem?_toArray, List.getElem?_cons_succ, List.getElem?_cons_zero]; rfl), by rfl, fun K hK => ?_⟩
    go_simp
    have hfin := HBD.out
    refine hK.out _ _ ⟨Kept.refl _ _, HBD.out⟩ ?_
    clear hK
    try simp only [Act.put, List.setIfInBounds_toArray, List.set_cons_zero, List.set_cons_succ]
    ((refine WalkN.take 11 _ ?_ (by simp only [List.getElem?_toArray, List.getElem?_cons_succ, List.getElem?_cons_zero]; rfl) (by kernel_rfl) (by kernel_rfl) (by rfl) (fun W hW => ?_) ?_; rotate_left; · (go_simp; try with_reducible rfl)); simp only [Act.put, List.setIfInBounds_toArray, List.set_cons_zero, List.set_cons_succ])
    refine WalkN.done (by kernel_rfl) ?_
    have HF := Lib.hid hfin
    clear h1 hfin
    go_wp2_with fail
    go_ret
    exact ⟨rfl, HF.out⟩
  · obtain ⟨n, hown⟩ := hown
    have hl : (Lib.strCells text).length = text.size := Lib.strCells_length text
    have hn : n = text.size := by have := hown.1; omega
    subst hn
    obtain ⟨g, cap, cur, rfl, hbg, hg, hnc, hcm, hcs, htake⟩ : ∃ g cap cur, v = .slice (some ⟨g, 0, none⟩) text.size cap ∧ B ≤ g ∧ w.heap[g]? = some (.cells cur 5 (0, 0)) ∧ text.size ≤ cap ∧ cap ≤ maxLen ∧ cur.size = cap * 1 ∧ cur.toList.take (text.size * 1) = Lib.strCells text := by
      rcases hown.2 with ⟨_, hz⟩ | ⟨g, cap, cur, hv, r⟩
      · exact absurd hz hs
      · exact ⟨g, cap, cur, hv, r⟩
    have c1 : w.drew.cell? ⟨b, 1, none⟩ = some (.slice (some ⟨g, 0, none⟩) text.size cap) := hbk.drew.cells 1
    have hSD : (Builtin.unsafeSliceData_ #[42] 176 #[.slice (some ⟨g, 0, none⟩) text.size cap]).run Try.prog w.drew = .ok (.pointer (some ⟨g, 0, none⟩)) w.drew :=
      Lib.run_unsafeSliceData_row _ _ _ _ _ _ (by omega)
    have htx : text = ⟨text.data.toList.toArray⟩ := rfl
    have hlen : text.data.toList.length = text.size := rfl
    have hUS : ∀ wd, wd = w.drew → (Builtin.unsafeString_ #[176, 3] 9 #[.pointer (some ⟨g, 0, none⟩), .int .i64 text.size]).run Try.prog wd = .ok (.string text) (wd.freeze ⟨g, 0, none⟩ text.size) := by
      rintro wd rfl
      have := Lib.run_unsafeString_row (P := Try.prog) w.drew 176 3 9 5 Try.underlying176 (by kernel_rfl) g cur.size (by have hg' : w.drew.heap[g]? = some (.cells cur 5 (0, 0)) := hg; simp [World.shape?, hg']) text.data.toList (by intro e; rw [e] at hlen; simp at hlen; omega) (by omega) (by unfold maxLen at hcm; omega) (fun j x hx => by
        have := hown.cells (g := g) rfl j (.int .u8 x.toNat) (by simp only [Lib.strCells, List.getElem?_map, hx, Option.map_some])
        exact this)
      rw [hlen] at this
      exact this
    have HGB := Lib.hid (show g ≠ b from (show Own w B 5 1 (.slice (some ⟨g, 0, none⟩) text.size cap) (Lib.strCells text) from ⟨_, hown⟩).notBlk hbk (by decide) g rfl)
    clear hbk hown hnil hp hcs htake hg hlen htx hl hs hUSn
    go_enter Try.func101, Try.ntmps101
    go_wp2_with fail
    obtain ⟨wd, hwd⟩ : ∃ wd, wd = w.drew := ⟨_, rfl⟩
    rw [← hwd] at c1 hSD
    have hUS := hUS wd hwd
    have hbd : Below B w wd := by rw [hwd]; exact (Below.refl _ _).drew
    refine region_walkN (fun W => Kept (fun x => x = b) wd W ∧ Below B w W) (by rw [← hwd]; exact ⟨Kept.refl _ _, hbd⟩) (by kernel_rfl) (by kernel_rfl) (fun _ _ d _ _ h => by cases d <;> exact h) ?_
    rw [← hwd]
    have HBD := Lib.hid hbd
    have h1 : ∀ W, (Kept (fun x => x = b) wd W ∧ Below B w W) → W.cell? ⟨b, 1, none⟩ = some (.slice (some ⟨g, 0, none⟩) text.size cap) := fun W h => (World.cell?_of_block (h.1.block b rfl)).trans c1
    clear hwd c1 hbd
    ((refine WalkN.take 0 _ ?_ (by simp only [List.getElem?_toArray, List.getElem?_cons_zero]; rfl) (by kernel_rfl) (by kernel_rfl) (by rfl) (fun W hW => ?_) ?_; rotate_left; · (go_simp; try with_reducible rfl)); simp only [Act.put, List.setIfInBounds_toArray, List.set_cons_zero, List.set_cons_succ]); ((refine WalkN.take 1 _ ?_ (by simp only [List.getElem?_toArray, List.getElem?_cons_succ, List.getElem?_cons_zero]; rfl) (by kernel_rfl) (by kernel_rfl) (by rfl) (fun W hW => ?_) ?_; rotate_left; · (go_simp; try with_reducible rfl)); simp only [Act.put, List.setIfInBounds_toArray, List.set_cons_zero, List.set_cons_succ]); ((refine WalkN.take 2 _ ?_ (by simp only [List.getElem?_toArray, List.getElem?_cons_succ, List.getElem?_cons_zero]; rfl) (by kernel_rfl) (by kernel_rfl) (by rfl) (fun W hW => ?_) ?_; rotate_left; · (go_simp; try with_reducible rfl)); simp only [Act.put, List.setIfInBounds_toArray, List.set_cons_zero, List.set_cons_succ]); ((refine WalkN.take 3 _ ?_ (by simp only [List.getElem?_toArray, List.getElem?_cons_succ, List.getElem?_cons_zero]; rfl) (by kernel_rfl) (by kernel_rfl) (by rfl) (fun W hW => ?_) ?_; rotate_left; · (go_simp; try with_reducible rfl)); simp only [Act.put, List.setIfInBounds_toArray, List.set_cons_zero, List.set_cons_succ]); ((refine WalkN.take 5 _ ?_ (by simp only [List.getElem?_toArray, List.getElem?_cons_succ, List.getElem?_cons_zero]; rfl) (by kernel_rfl) (by kernel_rfl) (by rfl) (fun W hW => ?_) ?_; rotate_left; · (go_simp; try with_reducible rfl)); simp only [Act.put, List.setIfInBounds_toArray, List.set_cons_zero, List.set_cons_succ]); ((refine WalkN.take 6 _ ?_ (by simp only [List.getElem?_toArray, List.getElem?_cons_succ, List.getElem?_cons_zero]; rfl) (by kernel_rfl) (by kernel_rfl) (by rfl) (fun W hW => ?_) ?_; rotate_left; · (go_simp; try with_reducible rfl)); simp only [Act.put, List.setIfInBounds_toArray, List.set_cons_zero, List.set_cons_succ]); ((refine WalkN.take 7 _ ?_ (by simp only [List.getElem?_toArray, List.getElem?_cons_succ, List.getElem?_cons_zero]; rfl) (by kernel_rfl) (by kernel_rfl) (by rfl) (fun W hW => ?_) ?_; rotate_left; · (go_simp; try with_reducible rfl)); simp only [Act.put, List.setIfInBounds_toArray, List.set_cons_zero, List.set_cons_succ]); ((refine WalkN.take 8 _ ?_ (by simp only [List.getElem?_toArray, List.getElem?_cons_succ, List.getElem?_cons_zero]; rfl) (by kernel_rfl) (by kernel_rfl) (by rfl) (fun W hW => ?_) ?_; rotate_left; · (go_simp; try with_reducible rfl)); simp only [Act.put, List.setIfInBounds_toArray, List.set_cons_zero, List.set_cons_succ]); ((refine WalkN.take 9 _ ?_ (by simp only [List.getElem?_toArray, List.getElem?_cons_succ, List.getElem?_cons_zero]; rfl) (by kernel_rfl) (by kernel_rfl) (by rfl) (fun W hW => ?_) ?_; rotate_left; · (go_simp; try with_reducible rfl)); simp only [Act.put, List.setIfInBounds_toArray, List.set_cons_zero, List.set_cons_succ])
    refine WalkN.one 4 (by kernel_rfl) ?_
    refine ⟨_, (by simp only [List.getElem?_toArray, List.getElem?_cons_succ, List.getElem?_cons_zero]; rfl), by rfl, fun K hK => ?_⟩
    go_simp
    refine hK.out _ _ ⟨Kept.refl _ _, HBD.out⟩ ?_
    clear hK
    try simp only [Act.put, List.setIfInBounds_toArray, List.set_cons_zero, List.set_cons_succ]
    refine WalkN.one 10 (by kernel_rfl) ?_
    refine ⟨_, (by simp only [List.getElem?_toArray, List.getElem?_cons_succ, List.getElem?_cons_zero]; rfl), by rfl, fun K hK => ?_⟩
    go_simp
    have hfin : Below B w (wd.freeze ⟨g, 0, none⟩ text.size) := Lib.below_freeze HBD.out (p := ⟨g, 0, none⟩) hbg _
    refine hK.out _ _ ⟨kept_freeze (Kept.refl _ _) (fun e => HGB.out e) _, hfin⟩ ?_
    clear hK
    try simp only [Act.put, List.setIfInBounds_toArray, List.set_cons_zero, List.set_cons_succ]
    ((refine WalkN.take 11 _ ?_ (by simp only [List.getElem?_toArray, List.getElem?_cons_succ, List.getElem?_cons_zero]; rfl) (by kernel_rfl) (by kernel_rfl) (by rfl) (fun W hW => ?_) ?_; rotate_left; · (go_simp; try with_reducible rfl)); simp only [Act.put, List.setIfInBounds_toArray, List.set_cons_zero, List.set_cons_succ])
    refine WalkN.done (by kernel_rfl) ?_
    have HF := Lib.hid hfin
    clear h1 hfin
    go_wp2_with fail
    go_ret
    exact ⟨rfl, HF.out⟩

end Go.Proofs.Ytipddhcfcehcaaa
