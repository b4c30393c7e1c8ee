/- table's index, as it is read: the plain law. table's read. No condition: lemmas. -/
import Derived.Test.YtmmeofiocbfamaaGreatDoorZ23
namespace Go.Proofs.YtmmeofiocbfamaaGreatDoor
open Go Go.RowKit

/-- One block's place, as an index has it; what stands behind. -/
def plcD (endN : Nat) (bs : List UInt8) : Option (Plc × List UInt8) :=
  if (getT bs).2.2 ≠ 0 then none
  else if (getG (bs.drop (getT bs).2.1) 0 0).2.2 ≠ 0 ∨ endN < (getG (bs.drop (getT bs).2.1) 0 0).1 then none
  else if (getG ((bs.drop (getT bs).2.1).drop (getG (bs.drop (getT bs).2.1) 0 0).2.1) 0 0).2.2 ≠ 0 ∨ endN < (getG ((bs.drop (getT bs).2.1).drop (getG (bs.drop (getT bs).2.1) 0 0).2.1) 0 0).1 then none
  else some (⟨⟨(getT bs).1.toArray⟩, (getG (bs.drop (getT bs).2.1) 0 0).1, (getG ((bs.drop (getT bs).2.1).drop (getG (bs.drop (getT bs).2.1) 0 0).2.1) 0 0).1⟩,
    ((bs.drop (getT bs).2.1).drop (getG (bs.drop (getT bs).2.1) 0 0).2.1).drop (getG ((bs.drop (getT bs).2.1).drop (getG (bs.drop (getT bs).2.1) 0 0).2.1) 0 0).2.1)
/-- Whether a place may stand behind others. -/
def plcOk (at_ : Nat) (ps : List Plc) (p : Plc) : Prop := p.at_ = at_ ∧ p.size ≠ 0 ∧ ∀ q, ps.getLast? = some q → ltS q.first p.first = true
instance (at_ : Nat) (ps : List Plc) (p : Plc) : Decidable (plcOk at_ ps p) :=
  decidable_of_iff (p.at_ = at_ ∧ p.size ≠ 0 ∧ (ps.getLast?.all fun q => ltS q.first p.first) = true) (by unfold plcOk; cases ps.getLast? <;> simp)
def readL (endN : Nat) : Nat → List UInt8 → Nat → List Plc → Option (List Plc × List UInt8 × Nat)
  | 0, bs, at_, ps => some (ps, bs, at_)
  | k + 1, bs, at_, ps => match plcD endN bs with
    | none => none
    | some (p, rest) => if plcOk at_ ps p then readL endN k rest (at_ + p.size) (ps ++ [p]) else none
/-- An index's places. -/
def readB (bs : List UInt8) (endN : Nat) : Option (List Plc) :=
  if (getG bs 0 0).2.2 ≠ 0 ∨ (getG bs 0 0).1 = 0 ∨ bs.length < (getG bs 0 0).1 then none
  else match readL endN (getG bs 0 0).1 (bs.drop (getG bs 0 0).2.1) 0 [] with
    | none => none
    | some (ps, rest, at_) => if rest = [] ∧ at_ = endN then some ps else none
def RetRead (r : Option (List Plc)) (w : World) (e : Ending) (w' : World) : Prop := Ext w w' ∧ match r with
  | none => e = .returned (.tuple #[.slice none 0 0, .int .i64 9])
  | some ps => ∃ v, e = .returned (.tuple #[v, .int .i64 0]) ∧ Own w' w.heap.size 82 3 v (plcs ps)

theorem plcD_eq (endN : Nat) (bs : List UInt8) : plcD endN bs = if (getT bs).2.2 ≠ 0 then none
  else if (getG (bs.drop (getT bs).2.1) 0 0).2.2 ≠ 0 ∨ endN < (getG (bs.drop (getT bs).2.1) 0 0).1 then none
  else if (getG ((bs.drop (getT bs).2.1).drop (getG (bs.drop (getT bs).2.1) 0 0).2.1) 0 0).2.2 ≠ 0 ∨ endN < (getG ((bs.drop (getT bs).2.1).drop (getG (bs.drop (getT bs).2.1) 0 0).2.1) 0 0).1 then none
  else some (⟨⟨(getT bs).1.toArray⟩, (getG (bs.drop (getT bs).2.1) 0 0).1, (getG ((bs.drop (getT bs).2.1).drop (getG (bs.drop (getT bs).2.1) 0 0).2.1) 0 0).1⟩,
    ((bs.drop (getT bs).2.1).drop (getG (bs.drop (getT bs).2.1) 0 0).2.1).drop (getG ((bs.drop (getT bs).2.1).drop (getG (bs.drop (getT bs).2.1) 0 0).2.1) 0 0).2.1) := rfl
theorem getT_pos (bs : List UInt8) (h : (getT bs).2.2 = 0) : 0 < (getT bs).2.1 := by
  have hf := getG_facts bs 0 0
  unfold getT at h ⊢
  split at h
  · next h0 => exact absurd h h0
  · next h0 =>
    rw [if_neg h0]
    split at h
    · cases h
    · next h1 =>
      rw [if_neg h1]
      have : (getG bs 0 0).2.2 = 0 := Decidable.byContradiction h0
      rcases hf with ⟨_, h2, h3⟩ | h2 | h2
      · dsimp only; omega
      · omega
      · omega
theorem two_le {a b e : Nat} (h1 : a ≤ e) (h2 : b ≤ e) : a + b ≤ 2 * e := by omega
theorem Sl.cut {S : Nat → Prop} {w : World} {b off c n : Nat} {bs : List UInt8} {A : Option Addr} (h : Sl S w 1 (.slice (some ⟨b, off, none⟩) bs.length c) (bc bs)) (hn : n ≤ bs.length)
    (hif : (if c = n then (some ⟨b, off, none⟩ : Option Addr) else some ⟨b, off + n, none⟩) = A) : Sl S w 1 (.slice A (bs.length - n) (c - n)) (bc (bs.drop n)) := by
  have := h.window (ao' := A) n bs.length hn (Nat.le_refl _) (fun e => by rw [← hif, if_neg e, Option.map_some, Addr.add_lit])
  rw [show bc (bs.drop n) = ((bc bs).drop n).take (bs.length - n) from by unfold bc; rw [List.take_of_length_le (by rw [List.length_drop, List.length_map]; omega), List.map_drop]]
  exact this
theorem Own.setOther {w : World} {B sz ab : Nat} {e e' : TypeId} {v : Value} {xs : List Value} {cs : Array Value} (h : Own w B e sz v xs) (hb : Blk w ab cs e') (hne : e ≠ e') (i : Nat) (u : Value) : Own (w.setCell ⟨ab, i, none⟩ u) B e sz v xs :=
  h.keepOwn fun g hg => Below.heap_setCell _ _ _ _ (by
    rintro rfl
    obtain ⟨c1, h1⟩ := h.typed hg
    have h2 : w.heap[g]? = some (Obj.cells cs e' (0, 0)) := hb
    rw [h1] at h2
    exact hne (by injection Option.some.inj h2))

theorem read_nums {a b e k count rem : Nat} (he : e ≤ 10000000) (h1 : a ≤ e) (h2 : b ≤ e) (hc : count ≤ 10000000) (hk : k < count) (hr : count - k = rem + 1) :
    wrap64 ((a : Int) + (b : Int)) = ((a : Int) + (b : Int)) ∧ IntKind.u64.wrap ((k : Int) + 1) = (k : Int) + 1 ∧ k + 1 ≤ count ∧ count - (k + 1) = rem ∧ a + b ≤ 2 * e ∧ k < count := by
  refine ⟨by unfold wrap64; omega, by rw [IntKind.wrap_u64]; omega, hk, by omega, by omega, hk⟩

end Go.Proofs.YtmmeofiocbfamaaGreatDoor
namespace Go.Proofs.YtmmeofiocbfamaaGreatDoor
open Go Go.RowKit

set_option maxRecDepth 100000 in
set_option maxHeartbeats 4000000 in
theorem read_any (v : Value) (bs : List UInt8) (endN : Nat) (w : World) (h : Sl (· < w.heap.size) w 1 v (bc bs)) (hl : bs.length ≤ 10000000) (he : endN ≤ 10000000) :
    Calls Tryz.prog 44 #[v, .int .i64 endN] w (RetRead (readB bs endN) w) := by
  have HS := Lib.hid h
  have HG := Lib.hid (get_any v bs w _ h (by omega))
  have HGF := Lib.hid (getG_facts bs 0 0)
  have HR := Lib.hid (show readB bs endN = if (getG bs 0 0).2.2 ≠ 0 ∨ (getG bs 0 0).1 = 0 ∨ bs.length < (getG bs 0 0).1 then none else match readL endN (getG bs 0 0).1 (bs.drop (getG bs 0 0).2.1) 0 [] with
    | none => none
    | some (ps, rest, at_) => if rest = [] ∧ at_ = endN then some ps else none from rfl)
  generalize readB bs endN = res at *
  generalize getG bs 0 0 = r at *
  obtain ⟨count, n, er⟩ := r
  dsimp only at HGF HR
  obtain ⟨ao, c, rfl, hlc, hcm, -, hcell⟩ := Sl.bytes h
  have hwl : IntKind.u64.wrap (bs.length : Int) = (bs.length : Int) := by rw [IntKind.wrap_u64]; omega
  clear h
  go_enter Tryz.func44, Tryz.ntmps44
  go_wp2_with fail
  refine HG.out.mono ?_
  rintro e w1 ⟨rfl, rfl⟩
  dsimp only
  clear HG
  by_cases hbad : er ≠ 0 ∨ count = 0 ∨ bs.length < count
  · have HN := Lib.hid (show res = none from by rw [HR.out, if_pos hbad])
    clear HR hcell
    have hb3 : er ≠ 0 ∨ (er = 0 ∧ count = 0) ∨ (er = 0 ∧ count ≠ 0 ∧ bs.length < count) := by omega
    clear hbad
    rcases hb3 with h1 | ⟨rfl, rfl⟩ | ⟨rfl, h1, h2⟩
    · have h1i : ¬ ((er : Int) = 0) := by omega
      clear h1
      go_wp2_with fail
      go_ret2
      rw [HN.out]
      exact ⟨Ext.refl _, rfl⟩
    · go_wp2_with fail
      go_ret2
      rw [HN.out]
      exact ⟨Ext.refl _, rfl⟩
    · have h1i : ((count : Int) == 0) = false := by simp; omega
      have h2i : (bs.length : Int) < (count : Int) := by omega
      clear h1
      go_wp2_with fail
      go_ret2
      rw [HN.out]
      exact ⟨Ext.refl _, rfl⟩
  · obtain rfl : er = 0 := Decidable.byContradiction fun e => hbad (.inl e)
    have h1i : ((count : Int) == 0) = false := by simp; omega
    have h2i : ¬ ((bs.length : Int) < (count : Int)) := by omega
    have hn : n ≤ bs.length ∧ 0 < n := by rcases HGF.out with ⟨_, h1, h2⟩ | h | h <;> omega
    have HRES := Lib.hid (show res = match readL endN count (bs.drop n) 0 [] with
      | none => none
      | some (ps, rest, at_) => if rest = [] ∧ at_ = endN then some ps else none from by rw [HR.out, if_neg hbad])
    have hcb : count ≤ 10000000 := by omega
    clear hbad HR
    obtain ⟨b, off, rfl, hb, -⟩ := hcell (by omega)
    clear hcell
    have hnc : n ≤ c := by omega
    obtain ⟨A, hif⟩ : ∃ A, (if c = n then (some ⟨b, off, none⟩ : Option Addr) else some ⟨b, off + n, none⟩) = A := ⟨_, rfl⟩
    go_wp2_with fail
    have HS0 := Lib.hid (HS.out.cut hn.1 hif)
    clear hif HS hcm hlc hnc hwl h1i h2i hb
    obtain ⟨tot, htot⟩ : ∃ tot, tot = readL endN count (bs.drop n) 0 [] := ⟨_, rfl⟩
    rw [← htot] at HRES
    have HLN := Lib.hid (show (bs.drop n).length ≤ bs.length from by rw [List.length_drop]; omega)
    go_loopw [0, 9, 10, 44] (fun bv pv av kv wr => ∃ (k at_ : Nat) (rest : List UInt8) (ps : List Plc), k ≤ count ∧ kv = .int .u64 k ∧ av = .int .i64 at_ ∧ Sl (· < w.heap.size) w 1 bv (bc rest) ∧ Own wr w.heap.size 82 3 pv (plcs ps) ∧ tot = readL endN (count - k) rest at_ ps ∧ ps.length = k ∧ rest.length ≤ bs.length ∧ at_ ≤ 2 * endN ∧ Ext w wr) (fun _ _ _ kv _ => count - (intOf kv).toNat)
    case atStart => exact ⟨0, 0, bs.drop n, [], Nat.zero_le _, rfl, rfl, HS0.out, Own.nil _ _ _ _, htot, rfl, HLN.out, Nat.zero_le _, Ext.refl _⟩
    case round =>
      clear HS0 htot HLN
      obtain ⟨k, at_, rest, ps, hk, rfl, rfl, hs, ho, ht, hpl, hrl, hat, hx⟩ := hrel
      have HS := Lib.hid hs
      have HO := Lib.hid ho
      have HT := Lib.hid ht
      have HX := Lib.hid hx
      have HPL := Lib.hid hpl
      obtain ⟨po, pc, rfl, -, -, -⟩ := ho.sl.plcs
      obtain ⟨ao, c, rfl, hlc, hcm, -, hcell⟩ := Sl.bytes hs
      have HGT := Lib.hid (getText_any (.slice ao rest.length c) rest wr _ (HS.out.same (Same.below HX.out)) (by omega))
      clear hs ho ht hx hpl
      by_cases hlt : k < count
      · obtain ⟨rem, hrem⟩ : ∃ rem, count - k = rem + 1 := ⟨count - k - 1, by omega⟩
        have HRM := Lib.hid hrem
        rw [hrem] at HT
        clear hrem
        have HT2 := Lib.hid (show tot = match plcD endN rest with | none => none | some (p, r) => if plcOk at_ ps p then readL endN rem r (at_ + p.size) (ps ++ [p]) else none from by rw [HT.out]; rfl)
        clear HT
        have HD := Lib.hid (plcD_eq endN rest)
        have HTB := Lib.hid (getT_bound rest)
        have HPO := Lib.hid (getT_pos rest)
        generalize getT rest = r at *
        obtain ⟨tx, m, er⟩ := r
        dsimp only at HTB HPO HD
        go_wp2_with fail
        refine HGT.out.mono ?_
        rintro e w1 ⟨rfl, rfl⟩
        dsimp only
        clear HGT
        by_cases hbad : er ≠ 0
        · have HN := Lib.hid (show res = none from by rw [HRES.out, HT2.out, HD.out, if_pos hbad])
          have hei : ¬ ((er : Int) = 0) := by omega
          clear HT2 HRES hbad hcell
          go_wp2_with fail
          go_ret2
          rw [HN.out]
          exact ⟨HX.out, rfl⟩
        obtain rfl : er = 0 := Decidable.byContradiction hbad
        have hm1 := HTB.out rfl
        have hm0 := HPO.out rfl
        obtain ⟨b, off, rfl, -, -⟩ := hcell (by omega)
        obtain ⟨A1, hif⟩ : ∃ A, (if c = m then (some ⟨b, off, none⟩ : Option Addr) else some ⟨b, off + m, none⟩) = A := ⟨_, rfl⟩
        have HS1 := Lib.hid (HS.out.cut hm1 hif)
        rw [if_neg hbad] at HD
        have hmc : m ≤ c := by omega
        clear hcell HTB HPO hbad
        go_wp2_with fail
        obtain ⟨R1, hR1⟩ : ∃ R, R = rest.drop m := ⟨_, rfl⟩
        have hq0 : rest.length - m = R1.length := by rw [hR1, List.length_drop]
        have HL1 := Lib.hid (show R1.length ≤ bs.length from by omega)
        have hwe : IntKind.u64.wrap (endN : Int) = (endN : Int) := by rw [IntKind.wrap_u64]; omega
        rw [← hR1] at HS1 HD
        rw [hq0] at HS1 ⊢
        generalize c - m = c1 at HS1 ⊢
        obtain ⟨ab, hab⟩ : ∃ ab, ab = wr.heap.size := ⟨_, rfl⟩
        have HB1 := Lib.hid (show Blk (wr.alloc (.cells #[.int .u64 0, .int .u64 0] 113)) ab #[.int .u64 0, .int .u64 0] 113 from by rw [hab]; exact Blk.made wr _ _)
        have HX1 := Lib.hid (show Ext w (wr.alloc (.cells #[.int .u64 0, .int .u64 0] 113)) from HX.out.trans (Ext.alloc wr _))
        have HO1 := Lib.hid (HO.out.below (Ext.alloc wr (.cells #[.int .u64 0, .int .u64 0] 113)))
        have HAB := Lib.hid (show w.heap.size ≤ ab from by rw [hab]; exact HX.out.size)
        rw [← hab]
        generalize wr.alloc (.cells #[.int .u64 0, .int .u64 0] 113) = w2 at *
        clear hab hR1 hq0 hif hmc hm0 hm1 HS hcm hlc HO HX
        refine wp_loop_rounds 3 ?_

        have HGF1 := Lib.hid (getG_facts R1 0 0)
        have HG1 := Lib.hid (get_any (.slice A1 R1.length c1) R1 w2 _ (HS1.out.same (Same.below HX1.out)) (by have := HL1.out; omega))
        generalize getG R1 0 0 = r1 at *
        obtain ⟨g1, n1, e1⟩ := r1
        dsimp only at HD HGF1
        rw [rounds_succ]
        go_wp2_with fail
        refine HG1.out.mono ?_
        rintro e wq ⟨rfl, rfl⟩
        dsimp only
        clear HG1
        by_cases hb1 : e1 ≠ 0 ∨ endN < g1
        · have HN := Lib.hid (show res = none from by rw [HRES.out, HT2.out, HD.out, if_pos hb1])
          clear HD HT2 HRES
          by_cases he1 : e1 = 0
          · obtain rfl := he1
            have hgi : (endN : Int) < (g1 : Int) := by rcases hb1 with h | h; exact absurd rfl h; omega
            clear hb1
            go_wp2_with fail
            go_ret2
            rw [HN.out]
            exact ⟨HX1.out, rfl⟩
          · have hei : ¬ ((e1 : Int) = 0) := by omega
            clear hb1 he1
            go_wp2_with fail
            go_ret2
            rw [HN.out]
            exact ⟨HX1.out, rfl⟩
        obtain rfl : e1 = 0 := Decidable.byContradiction fun e => hb1 (.inl e)
        have hge1 : g1 ≤ endN := Nat.le_of_not_lt fun e => hb1 (.inr e)
        have hgi : ¬ ((endN : Int) < (g1 : Int)) := by omega
        rw [if_neg hb1] at HD
        have hn1 : n1 ≤ R1.length ∧ 0 < n1 := by rcases HGF1.out with ⟨_, h1, h2⟩ | h | h <;> omega
        clear hb1 HGF1
        obtain ⟨ao', c', hv, hcc, hcm', -, hcell'⟩ := Sl.bytes HS1.out
        cases hv
        obtain ⟨b', off', rfl, -, -⟩ := hcell' (by omega)
        clear hcell'
        obtain ⟨A2, hif⟩ : ∃ A, (if c1 = n1 then (some ⟨b', off', none⟩ : Option Addr) else some ⟨b', off' + n1, none⟩) = A := ⟨_, rfl⟩
        have HS2 := Lib.hid (HS1.out.cut hn1.1 hif)
        have hnc : n1 ≤ c1 := by omega
        go_wp2_with fail
        obtain ⟨wd, hwd⟩ : ∃ wd, wd = w2.drew := ⟨_, rfl⟩
        have HBd := Lib.hid (show Blk wd ab #[.int .u64 0, .int .u64 0] 113 from by rw [hwd]; exact HB1.out.drew)
        have HXd := Lib.hid (show Ext w wd from by rw [hwd]; exact HX1.out.trans (Ext.drew w2))
        have HOd := Lib.hid (show Own wd w.heap.size 82 3 (.slice po ps.length pc) (plcs ps) from by rw [hwd]; exact HO1.out.below (Ext.drew w2))
        refine region_walkN (Kept (fun x => x ≠ ab) wd) (by rw [← hwd]; exact Kept.refl _ _) (by kernel_rfl) (by kernel_rfl) (fun _ _ d _ _ h => by cases d <;> exact h) ?_
        rw [← hwd]
        clear hwd HB1 HX1 HO1
        have hcells := HBd.out.cells
        have hfree := HBd.out.free
        ((refine WalkN.take 0 _ ?_ (by simp only [List.getElem?_toArray, List.getElem?_cons_zero]; rfl) (by kernel_rfl) (by kernel_rfl) (by rfl) (fun W hW => ?_) ?_; rotate_left; · (go_simp; try with_reducible rfl)); simp only [Act.put, List.setIfInBounds_toArray, List.set_cons_zero, List.set_cons_succ]); ((refine WalkN.take 1 _ ?_ (by simp only [List.getElem?_toArray, List.getElem?_cons_succ, List.getElem?_cons_zero]; rfl) (by kernel_rfl) (by kernel_rfl) (by rfl) (fun W hW => ?_) ?_; rotate_left; · (go_simp; try with_reducible rfl)); simp only [Act.put, List.setIfInBounds_toArray, List.set_cons_zero, List.set_cons_succ]); ((refine WalkN.take 2 _ ?_ (by simp only [List.getElem?_toArray, List.getElem?_cons_succ, List.getElem?_cons_zero]; rfl) (by kernel_rfl) (by kernel_rfl) (by rfl) (fun W hW => ?_) ?_; rotate_left; · (go_simp; try with_reducible rfl)); simp only [Act.put, List.setIfInBounds_toArray, List.set_cons_zero, List.set_cons_succ]); ((refine WalkN.take 3 _ ?_ (by simp only [List.getElem?_toArray, List.getElem?_cons_succ, List.getElem?_cons_zero]; rfl) (by kernel_rfl) (by kernel_rfl) (by rfl) (fun W hW => ?_) ?_; rotate_left; · (go_simp; try with_reducible rfl)); simp only [Act.put, List.setIfInBounds_toArray, List.set_cons_zero, List.set_cons_succ]); ((refine WalkN.take 4 _ ?_ (by simp only [List.getElem?_toArray, List.getElem?_cons_succ, List.getElem?_cons_zero]; rfl) (by kernel_rfl) (by kernel_rfl) (by rfl) (fun W hW => ?_) ?_; rotate_left; · (go_simp; try with_reducible rfl)); simp only [Act.put, List.setIfInBounds_toArray, List.set_cons_zero, List.set_cons_succ]); ((refine WalkN.take 5 _ ?_ (by simp only [List.getElem?_toArray, List.getElem?_cons_succ, List.getElem?_cons_zero]; rfl) (by kernel_rfl) (by kernel_rfl) (by rfl) (fun W hW => ?_) ?_; rotate_left; · (go_simp; try with_reducible rfl)); simp only [Act.put, List.setIfInBounds_toArray, List.set_cons_zero, List.set_cons_succ])
        have HB2 := Lib.hid (HBd.out.set_to (cs' := #[.int .u64 g1, .int .u64 0]) 0 (.int .u64 g1) rfl)
        have HX2 := Lib.hid (show Ext w (wd.setCell ⟨ab, 0, none⟩ (.int .u64 g1)) from HXd.out.setCell HAB.out _)
        have HO2 := Lib.hid (HOd.out.setOther HBd.out (by decide) 0 (.int .u64 g1))
        refine WalkN.one 6 (by kernel_rfl) ?_
        refine ⟨_, (by simp only [List.getElem?_toArray, List.getElem?_cons_succ, List.getElem?_cons_zero]; rfl), by rfl, fun K hK => ?_⟩
        go_simp
        refine hK.out _ _ ((Kept.refl _ wd).set (a := ⟨ab, 0, none⟩) (fun h => h rfl) (.int .u64 g1)) ?_
        clear hK hcells hfree
        ((refine WalkN.take 7 _ ?_ (by simp only [List.getElem?_toArray, List.getElem?_cons_succ, List.getElem?_cons_zero]; rfl) (by kernel_rfl) (by kernel_rfl) (by rfl) (fun W hW => ?_) ?_; rotate_left; · (go_simp; try with_reducible rfl)); simp only [Act.put, List.setIfInBounds_toArray, List.set_cons_zero, List.set_cons_succ])
        refine WalkN.done (by kernel_rfl) ?_
        obtain ⟨R2, hR2⟩ : ∃ R, R = R1.drop n1 := ⟨_, rfl⟩
        have hq1 : R1.length - n1 = R2.length := by rw [hR2, List.length_drop]
        have HL2 := Lib.hid (show R2.length ≤ bs.length from by have := HL1.out; omega)
        rw [← hR2] at HS2 HD
        rw [hq1] at HS2 ⊢
        generalize c1 - n1 = c2 at HS2 ⊢
        generalize wd.setCell ⟨ab, 0, none⟩ (.int .u64 g1) = w3 at *
        clear hR2 hq1 hif hnc HBd HXd HOd hgi hcc hcm'
        go_wp2_with fail

        have HGF2 := Lib.hid (getG_facts R2 0 0)
        have HG2 := Lib.hid (get_any (.slice A2 R2.length c2) R2 w3 _ (HS2.out.same (Same.below HX2.out)) (by have := HL2.out; omega))
        generalize getG R2 0 0 = r2 at *
        obtain ⟨g2, n2, e2⟩ := r2
        dsimp only at HD HGF2
        rw [rounds_succ]
        go_wp2_with fail
        refine HG2.out.mono ?_
        rintro e wq ⟨rfl, rfl⟩
        dsimp only
        clear HG2
        by_cases hb2 : e2 ≠ 0 ∨ endN < g2
        · have HN := Lib.hid (show res = none from by rw [HRES.out, HT2.out, HD.out, if_pos hb2])
          clear HD HT2 HRES
          by_cases he2 : e2 = 0
          · obtain rfl := he2
            have hgi : (endN : Int) < (g2 : Int) := by rcases hb2 with h | h; exact absurd rfl h; omega
            clear hb2
            go_wp2_with fail
            go_ret2
            rw [HN.out]
            exact ⟨HX2.out, rfl⟩
          · have hei : ¬ ((e2 : Int) = 0) := by omega
            clear hb2 he2
            go_wp2_with fail
            go_ret2
            rw [HN.out]
            exact ⟨HX2.out, rfl⟩
        obtain rfl : e2 = 0 := Decidable.byContradiction fun e => hb2 (.inl e)
        have hge2 : g2 ≤ endN := Nat.le_of_not_lt fun e => hb2 (.inr e)
        have hgi : ¬ ((endN : Int) < (g2 : Int)) := by omega
        rw [if_neg hb2] at HD
        have hn2 : n2 ≤ R2.length ∧ 0 < n2 := by rcases HGF2.out with ⟨_, h1, h2⟩ | h | h <;> omega
        clear hb2 HGF2
        obtain ⟨ao', c', hv, hcc, hcm', -, hcell'⟩ := Sl.bytes HS2.out
        cases hv
        obtain ⟨b', off', rfl, -, -⟩ := hcell' (by omega)
        clear hcell'
        obtain ⟨A3, hif⟩ : ∃ A, (if c2 = n2 then (some ⟨b', off', none⟩ : Option Addr) else some ⟨b', off' + n2, none⟩) = A := ⟨_, rfl⟩
        have HS3 := Lib.hid (HS2.out.cut hn2.1 hif)
        have hnc : n2 ≤ c2 := by omega
        go_wp2_with fail
        obtain ⟨wd, hwd⟩ : ∃ wd, wd = w3.drew := ⟨_, rfl⟩
        have HBd := Lib.hid (show Blk wd ab #[.int .u64 g1, .int .u64 0] 113 from by rw [hwd]; exact HB2.out.drew)
        have HXd := Lib.hid (show Ext w wd from by rw [hwd]; exact HX2.out.trans (Ext.drew w3))
        have HOd := Lib.hid (show Own wd w.heap.size 82 3 (.slice po ps.length pc) (plcs ps) from by rw [hwd]; exact HO2.out.below (Ext.drew w3))
        refine region_walkN (Kept (fun x => x ≠ ab) wd) (by rw [← hwd]; exact Kept.refl _ _) (by kernel_rfl) (by kernel_rfl) (fun _ _ d _ _ h => by cases d <;> exact h) ?_
        rw [← hwd]
        clear hwd HB2 HX2 HO2
        have hcells := HBd.out.cells
        have hfree := HBd.out.free
        ((refine WalkN.take 0 _ ?_ (by simp only [List.getElem?_toArray, List.getElem?_cons_zero]; rfl) (by kernel_rfl) (by kernel_rfl) (by rfl) (fun W hW => ?_) ?_; rotate_left; · (go_simp; try with_reducible rfl)); simp only [Act.put, List.setIfInBounds_toArray, List.set_cons_zero, List.set_cons_succ]); ((refine WalkN.take 1 _ ?_ (by simp only [List.getElem?_toArray, List.getElem?_cons_succ, List.getElem?_cons_zero]; rfl) (by kernel_rfl) (by kernel_rfl) (by rfl) (fun W hW => ?_) ?_; rotate_left; · (go_simp; try with_reducible rfl)); simp only [Act.put, List.setIfInBounds_toArray, List.set_cons_zero, List.set_cons_succ]); ((refine WalkN.take 2 _ ?_ (by simp only [List.getElem?_toArray, List.getElem?_cons_succ, List.getElem?_cons_zero]; rfl) (by kernel_rfl) (by kernel_rfl) (by rfl) (fun W hW => ?_) ?_; rotate_left; · (go_simp; try with_reducible rfl)); simp only [Act.put, List.setIfInBounds_toArray, List.set_cons_zero, List.set_cons_succ]); ((refine WalkN.take 3 _ ?_ (by simp only [List.getElem?_toArray, List.getElem?_cons_succ, List.getElem?_cons_zero]; rfl) (by kernel_rfl) (by kernel_rfl) (by rfl) (fun W hW => ?_) ?_; rotate_left; · (go_simp; try with_reducible rfl)); simp only [Act.put, List.setIfInBounds_toArray, List.set_cons_zero, List.set_cons_succ]); ((refine WalkN.take 4 _ ?_ (by simp only [List.getElem?_toArray, List.getElem?_cons_succ, List.getElem?_cons_zero]; rfl) (by kernel_rfl) (by kernel_rfl) (by rfl) (fun W hW => ?_) ?_; rotate_left; · (go_simp; try with_reducible rfl)); simp only [Act.put, List.setIfInBounds_toArray, List.set_cons_zero, List.set_cons_succ]); ((refine WalkN.take 5 _ ?_ (by simp only [List.getElem?_toArray, List.getElem?_cons_succ, List.getElem?_cons_zero]; rfl) (by kernel_rfl) (by kernel_rfl) (by rfl) (fun W hW => ?_) ?_; rotate_left; · (go_simp; try with_reducible rfl)); simp only [Act.put, List.setIfInBounds_toArray, List.set_cons_zero, List.set_cons_succ])
        have HB3 := Lib.hid (HBd.out.set_to (cs' := #[.int .u64 g1, .int .u64 g2]) 1 (.int .u64 g2) rfl)
        have HX3 := Lib.hid (show Ext w (wd.setCell ⟨ab, 1, none⟩ (.int .u64 g2)) from HXd.out.setCell HAB.out _)
        have HO3 := Lib.hid (HOd.out.setOther HBd.out (by decide) 1 (.int .u64 g2))
        refine WalkN.one 6 (by kernel_rfl) ?_
        refine ⟨_, (by simp only [List.getElem?_toArray, List.getElem?_cons_succ, List.getElem?_cons_zero]; rfl), by rfl, fun K hK => ?_⟩
        go_simp
        refine hK.out _ _ ((Kept.refl _ wd).set (a := ⟨ab, 1, none⟩) (fun h => h rfl) (.int .u64 g2)) ?_
        clear hK hcells hfree
        ((refine WalkN.take 7 _ ?_ (by simp only [List.getElem?_toArray, List.getElem?_cons_succ, List.getElem?_cons_zero]; rfl) (by kernel_rfl) (by kernel_rfl) (by rfl) (fun W hW => ?_) ?_; rotate_left; · (go_simp; try with_reducible rfl)); simp only [Act.put, List.setIfInBounds_toArray, List.set_cons_zero, List.set_cons_succ])
        refine WalkN.done (by kernel_rfl) ?_
        obtain ⟨R3, hR3⟩ : ∃ R, R = R2.drop n2 := ⟨_, rfl⟩
        have hq2 : R2.length - n2 = R3.length := by rw [hR3, List.length_drop]
        have HL3 := Lib.hid (show R3.length ≤ bs.length from by have := HL2.out; omega)
        rw [← hR3] at HS3 HD
        rw [hq2] at HS3 ⊢
        generalize c2 - n2 = c3 at HS3 ⊢
        generalize wd.setCell ⟨ab, 1, none⟩ (.int .u64 g2) = w4 at *
        clear hR3 hq2 hif hnc HBd HXd HOd hgi hcc hcm'
        go_wp2_with fail

        rw [rounds_succ]
        have hcells := HB3.out.cells
        have hw1 : IntKind.i64.wrap (g1 : Int) = (g1 : Int) := IntWalk.i64_in _ (by omega)
        have hw2 : IntKind.i64.wrap (g2 : Int) = (g2 : Int) := IntWalk.i64_in _ (by omega)
        have HBP := Lib.hid (Blk.made w4 #[.string ⟨tx.toArray⟩, .int .i64 g1, .int .i64 g2] 82)
        have hcp := HBP.out.cells
        have HX4 := Lib.hid (show Ext w (w4.alloc (.cells #[.string ⟨tx.toArray⟩, .int .i64 g1, .int .i64 g2] 82)) from HX3.out.trans (Ext.alloc w4 _))
        have HO4 := Lib.hid (HO3.out.below (Ext.alloc w4 (.cells #[.string ⟨tx.toArray⟩, .int .i64 g1, .int .i64 g2] 82)))
        have HZ4 := Lib.hid (show w.heap.size ≤ (w4.alloc (.cells #[.string ⟨tx.toArray⟩, .int .i64 g1, .int .i64 g2] 82)).heap.size from HX4.out.size)
        clear HB3 HX3 HBP
        by_cases hga : g1 = at_
        rotate_left
        · have HBAD := Lib.hid (show ¬ plcOk at_ ps ⟨⟨tx.toArray⟩, g1, g2⟩ from fun h => hga h.1)
          have hgi : ¬ ((g1 : Int) = (at_ : Int)) := by omega
          clear hga
          have HN := Lib.hid (show res = none from by rw [HRES.out, HT2.out, HD.out]; dsimp only; rw [if_neg HBAD.out])
          go_wp2_with fail
          go_ret2
          rw [HN.out]
          exact ⟨HX4.out, rfl⟩
        obtain rfl := hga
        by_cases hg0 : g2 = 0
        · have HBAD := Lib.hid (show ¬ plcOk g1 ps ⟨⟨tx.toArray⟩, g1, g2⟩ from fun h => h.2.1 hg0)
          obtain rfl := hg0
          have HN := Lib.hid (show res = none from by rw [HRES.out, HT2.out, HD.out]; dsimp only; rw [if_neg HBAD.out])
          go_wp2_with fail
          go_ret2
          rw [HN.out]
          exact ⟨HX4.out, rfl⟩
        have hg0i : ((g2 : Int) == 0) = false := by simp; omega
        have HNUM := Lib.hid (read_nums (he := he) hge1 hge2 hcb hlt HRM.out)
        have hpl0 : ps.length ≤ 10000000 := by have := HPL.out; omega
        clear hge1 hge2 hcb hlt hk hat hrl hl he hn hn1 hn2
        by_cases hp0 : ps.length = 0
        · have HOK := Lib.hid (show plcOk g1 ps ⟨⟨tx.toArray⟩, g1, g2⟩ from ⟨rfl, hg0, fun q hq => by rw [List.eq_nil_of_length_eq_zero hp0] at hq; cases hq⟩)
          have hnp : ¬ ((0 : Int) < (ps.length : Int)) := by omega
          clear hp0
          have HNX := Lib.hid (show tot = readL endN rem R3 (g1 + g2) (ps ++ [⟨⟨tx.toArray⟩, g1, g2⟩]) from by rw [HT2.out, HD.out]; dsimp only; rw [if_pos HOK.out])
          have haw := HNUM.out.1
          have hwk1 := HNUM.out.2.1
          go_wp2_with (at_builtin; go_must (refine wpList_own_lit placeT rfl (.tmp 118) (.tmp 120) rfl rfl HO4.out (by rw [World.size_alloc]; rfl) rfl (by simp [Value.oneCell']) (by have := HPL.out; unfold plcs; rw [flat_length plC_length]; simp; omega) (by have := HPL.out; unfold plcs; rw [flat_length plC_length]; simp; omega) HZ4.out ?_; intro v6 w6 hown5 hb5 hgr5; have HO5 := Lib.hid (show Own w6 w.heap.size 82 3 v6 (plcs (ps ++ [⟨⟨tx.toArray⟩, g1, g2⟩])) from by unfold plcs; rw [List.flatMap_append]; exact hown5); have HX5 := Lib.hid (show Ext w w6 from Below.trans HX4.out hb5); obtain ⟨po5, pn5, pc5, rfl, -, -, -⟩ := hown5.sl.len; clear hown5 hb5 hgr5))
          go_roundw
          case rel => exact ⟨k + 1, g1 + g2, R3, ps ++ [⟨⟨tx.toArray⟩, g1, g2⟩], HNUM.out.2.2.1, by go_num, by go_num, HS3.out, HO5.out, by rw [HNX.out, HNUM.out.2.2.2.1], by rw [List.length_append, HPL.out]; rfl, HL3.out, HNUM.out.2.2.2.2.1, HX5.out⟩
          case measure => have := HNUM.out.2.2.2.2.2; simp [intOf]; omega
        obtain ⟨mm, hmm⟩ : ∃ mm, mm = ps.length - 1 := ⟨_, rfl⟩
        have hml : mm < ps.length := by omega
        obtain ⟨po', pc', hv, -, -, hrow⟩ := HO3.out.sl.plcs
        cases hv
        obtain ⟨b4, o4, rfl, -, q0, -, -⟩ := hrow mm hml
        have q1 := (Ext.alloc w4 (.cells #[.string ⟨tx.toArray⟩, .int .i64 g1, .int .i64 g2] 82)).cell (a := ⟨b4, o4 + mm * 3, none⟩) q0
        have HLQ := Lib.hid (show ps.getLast? = some ps[mm] from by rw [List.getLast?_eq_getElem?, ← hmm, List.getElem?_eq_getElem])
        have hnp : (0 : Int) < (ps.length : Int) := by omega
        have hmi : (ps.length : Int) - 1 = (mm : Int) := by omega
        have hml2 : (mm : Int) < (ps.length : Int) := by omega
        have hwm : wrap64 (mm : Int) = (mm : Int) := by unfold wrap64; omega
        generalize hq : ps[mm] = q at *
        obtain ⟨pf, pa, pz⟩ := q
        dsimp only at q0 q1
        clear hrow hp0 hmm hq hml
        have hm0 : (0 : Int) ≤ (mm : Int) := by omega
        cases hlts : ltS pf ⟨tx.toArray⟩ with
        | true =>
          have hgl : Op.bytesLess pf.toList tx = true := by
            have h2 := hlts
            unfold ltS at h2
            rwa [ByteArray.toList_eq ⟨tx.toArray⟩, show (⟨tx.toArray⟩ : ByteArray).data.toList = tx from rfl] at h2
          have HOK := Lib.hid (show plcOk g1 ps ⟨⟨tx.toArray⟩, g1, g2⟩ from ⟨rfl, hg0, fun q hq => by rw [HLQ.out] at hq; cases hq; exact hlts⟩)
          clear hlts
          have HNX := Lib.hid (show tot = readL endN rem R3 (g1 + g2) (ps ++ [⟨⟨tx.toArray⟩, g1, g2⟩]) from by rw [HT2.out, HD.out]; dsimp only; rw [if_pos HOK.out])
          have haw := HNUM.out.1
          have hwk1 := HNUM.out.2.1
          go_wp2_with (at_builtin; go_must (refine wpList_own_lit placeT rfl (.tmp 118) (.tmp 120) rfl rfl HO4.out (by rw [World.size_alloc]; rfl) rfl (by simp [Value.oneCell']) (by have := HPL.out; unfold plcs; rw [flat_length plC_length]; simp; omega) (by have := HPL.out; unfold plcs; rw [flat_length plC_length]; simp; omega) HZ4.out ?_; intro v6 w6 hown5 hb5 hgr5; have HO5 := Lib.hid (show Own w6 w.heap.size 82 3 v6 (plcs (ps ++ [⟨⟨tx.toArray⟩, g1, g2⟩])) from by unfold plcs; rw [List.flatMap_append]; exact hown5); have HX5 := Lib.hid (show Ext w w6 from Below.trans HX4.out hb5); obtain ⟨po5, pn5, pc5, rfl, -, -, -⟩ := hown5.sl.len; clear hown5 hb5 hgr5))
          go_roundw
          case rel => exact ⟨k + 1, g1 + g2, R3, ps ++ [⟨⟨tx.toArray⟩, g1, g2⟩], HNUM.out.2.2.1, by go_num, by go_num, HS3.out, HO5.out, by rw [HNX.out, HNUM.out.2.2.2.1], by rw [List.length_append, HPL.out]; rfl, HL3.out, HNUM.out.2.2.2.2.1, HX5.out⟩
          case measure => have := HNUM.out.2.2.2.2.2; simp [intOf]; omega
        | false =>
          have hgl : Op.bytesLess pf.toList tx = false := by
            have h2 := hlts
            unfold ltS at h2
            rwa [ByteArray.toList_eq ⟨tx.toArray⟩, show (⟨tx.toArray⟩ : ByteArray).data.toList = tx from rfl] at h2
          have HBAD := Lib.hid (show ¬ plcOk g1 ps ⟨⟨tx.toArray⟩, g1, g2⟩ from fun h => by have := h.2.2 _ HLQ.out; rw [hlts] at this; cases this)
          clear hlts
          have HN := Lib.hid (show res = none from by rw [HRES.out, HT2.out, HD.out]; dsimp only; rw [if_neg HBAD.out])
          go_wp2_with fail
          go_ret2
          rw [HN.out]
          exact ⟨HX4.out, rfl⟩
      · obtain rfl : k = count := by omega
        rw [Nat.sub_self] at HT
        have HRX := Lib.hid (show res = if rest = [] ∧ at_ = endN then some ps else none from by rw [HRES.out, HT.out]; rfl)
        clear HRES HT hcell HGT
        by_cases hr0 : rest.length = 0
        · obtain rfl := List.eq_nil_of_length_eq_zero hr0
          by_cases hae : at_ = endN
          · have HN := Lib.hid (show res = some ps from by rw [HRX.out, if_pos ⟨rfl, hae⟩])
            have hai : ((at_ : Int) = (endN : Int)) := by omega
            clear hae
            go_wp2_with fail
            go_ret2
            rw [HN.out]
            exact ⟨HX.out, _, rfl, HO.out⟩
          · have HN := Lib.hid (show res = none from by rw [HRX.out, if_neg (fun h => hae h.2)])
            have hai : ¬ ((at_ : Int) = (endN : Int)) := by omega
            clear hae
            go_wp2_with fail
            go_ret2
            rw [HN.out]
            exact ⟨HX.out, rfl⟩
        · have HN := Lib.hid (show res = none from by rw [HRX.out, if_neg (fun h => hr0 (by rw [h.1]; rfl))])
          have hrne : ¬ rest = [] := fun h => hr0 (by rw [h]; rfl)
          have hri : (0 : Int) < (rest.length : Int) := by omega
          have hrn : 0 < rest.length := by omega
          clear hr0
          go_wp2_with fail
          go_ret2
          rw [HN.out]
          exact ⟨HX.out, rfl⟩

end Go.Proofs.YtmmeofiocbfamaaGreatDoor
