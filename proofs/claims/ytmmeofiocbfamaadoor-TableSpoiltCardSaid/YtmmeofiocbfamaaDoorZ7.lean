/- Plain laws on the order of inner keys. The walk of sentryref02.Outer. Rows of texts and of entries in memory; what an inner key tells. slices.Clone; frame's Next. frame's Next. No condition: lemmas. -/
import Derived.Test.YtmmeofiocbfamaaDoorZ4
import Derived.Test.YtmmeofiocbfamaaDoorZ6
import Derived.Test.YtmmeofiocbfamaaDoorZ2
namespace Go.Proofs.YtmmeofiocbfamaaDoor
open Go Go.Lib
open Go.Op (bytesLess)

theorem bl_common (p a b : List UInt8) : bytesLess (p ++ a) (p ++ b) = bytesLess a b := by
  induction p with
  | nil => rfl
  | cons c p ih => simp [bytesLess, ih]

theorem bl_esc : ∀ (k1 k2 t1 t2 : List UInt8), k1 ≠ k2 → bytesLess (esc k1 ++ 0 :: 1 :: t1) (esc k2 ++ 0 :: 1 :: t2) = bytesLess k1 k2
  | [], [], _, _, h => absurd rfl h
  | [], d :: s, t1, t2, _ => by
    by_cases hd : d = 0
    · subst hd; simp [esc, bytesLess]
    · have : (0 : UInt8) < d := by
        rw [UInt8.lt_iff_toNat_lt]
        have : d.toNat ≠ 0 := fun h => hd (UInt8.toNat_inj.1 (by simpa using h))
        simp; omega
      simp [esc, bytesLess, hd, this]
  | c :: r, [], t1, t2, _ => by
    by_cases hc : c = 0
    · subst hc; simp [esc, bytesLess]
    · simp [esc, bytesLess, hc]
  | c :: r, d :: s, t1, t2, h => by
    have ih := fun h => bl_esc r s t1 t2 h
    by_cases hcd : c = d
    · subst hcd
      have hrs : r ≠ s := fun e => h (by rw [e])
      by_cases hc : c = 0
      · subst hc; simp [esc, bytesLess, ih hrs]
      · simp [esc, bytesLess, hc, ih hrs]
    · by_cases hc : c = 0
      · subst hc
        have hd : ¬ d = 0 := fun e => hcd e.symm
        have : (0 : UInt8) < d := by
          rw [UInt8.lt_iff_toNat_lt]
          have : d.toNat ≠ 0 := fun h => hd (UInt8.toNat_inj.1 (by simpa using h))
          simp; omega
        simp [esc, bytesLess, hd, this]
      · by_cases hd : d = 0
        · subst hd
          have : (c == 0) = false := by simpa using hc
          simp [esc, bytesLess, hc, this]
        · have : (c == d) = false := by simpa using hcd
          simp [esc, bytesLess, hc, hd, this]

/-- The number that bytes tell, the greatest first. -/
def val (l : List UInt8) (r : Nat) : Nat := l.foldl (fun r c => r * 256 + c.toNat) r

theorem val_ge : ∀ (l : List UInt8) (r : Nat), r * 256 ^ l.length ≤ val l r ∧ val l r < (r + 1) * 256 ^ l.length
  | [], r => by simp [val]
  | c :: l, r => by
    have ih := val_ge l (r * 256 + c.toNat)
    have hc := c.toNat_lt
    have e : val (c :: l) r = val l (r * 256 + c.toNat) := rfl
    rw [e, List.length_cons, Nat.pow_succ, Nat.mul_comm (256 ^ l.length) 256, ← Nat.mul_assoc, ← Nat.mul_assoc]
    refine ⟨Nat.le_trans (Nat.mul_le_mul_right _ (by omega)) ih.1, Nat.lt_of_lt_of_le ih.2 (Nat.mul_le_mul_right _ (by omega))⟩

theorem bl_val : ∀ (a b : List UInt8) (r : Nat), a.length = b.length → bytesLess a b = decide (val a r < val b r)
  | [], [], r, _ => by simp [bytesLess, val]
  | [], _ :: _, _, h => by simp at h
  | _ :: _, [], _, h => by simp at h
  | c :: a, d :: b, r, h => by
    have hl : a.length = b.length := by simpa using h
    have ea : val (c :: a) r = val a (r * 256 + c.toNat) := rfl
    have eb : val (d :: b) r = val b (r * 256 + d.toNat) := rfl
    rw [ea, eb]
    have ha := val_ge a (r * 256 + c.toNat)
    have hb := val_ge b (r * 256 + d.toNat)
    rw [hl] at ha
    by_cases hcd : c = d
    · subst hcd
      rw [← bl_val a b _ hl]
      simp [bytesLess]
    · by_cases hlt : c < d
      · have h1 : c.toNat + 1 ≤ d.toNat := UInt8.lt_iff_toNat_lt.1 hlt
        have := Nat.mul_le_mul_right (256 ^ b.length) (show r * 256 + c.toNat + 1 ≤ r * 256 + d.toNat by omega)
        have : val a (r * 256 + c.toNat) < val b (r * 256 + d.toNat) := by omega
        simp [bytesLess, hlt, this]
      · have h1 : d.toNat + 1 ≤ c.toNat := by
          have h2 : ¬ c.toNat < d.toNat := fun h => hlt (UInt8.lt_iff_toNat_lt.2 h)
          have h3 : c.toNat ≠ d.toNat := fun h => hcd (UInt8.toNat_inj.1 h)
          omega
        have := Nat.mul_le_mul_right (256 ^ b.length) (show r * 256 + d.toNat + 1 ≤ r * 256 + c.toNat by omega)
        have : ¬ val a (r * 256 + c.toNat) < val b (r * 256 + d.toNat) := by omega
        simp [bytesLess, hlt, hcd, this]

theorem val_be8 (m : Nat) (h : m < 18446744073709551616) (x : UInt8) : val (be8 m ++ [x]) 0 = m * 256 + x.toNat := by
  have e : ∀ a : Nat, (UInt8.ofNat a).toNat = a % 256 := fun a => by simp
  simp only [val, be8, List.cons_append, List.nil_append, List.foldl_cons, List.foldl_nil, e]
  omega

/-- P2.3: does an entry stand ahead of another one. -/
def lessE (k1 : List UInt8) (r1 : Nat) (d1 : Bool) (k2 : List UInt8) (r2 : Nat) (d2 : Bool) : Bool :=
  if k1 ≠ k2 then bytesLess k1 k2 else if r1 ≠ r2 then decide (r2 < r1) else d1 && !d2

theorem inner_less (k1 : List UInt8) (r1 : Nat) (d1 : Bool) (k2 : List UInt8) (r2 : Nat) (d2 : Bool) (h1 : U64 r1) (h2 : U64 r2) :
    bytesLess (innerB k1 r1 d1) (innerB k2 r2 d2) = lessE k1 r1 d1 k2 r2 d2 := by
  have l1 := h1.lt
  have l2 := h2.lt
  unfold lessE innerB
  by_cases hk : k1 = k2
  · subst hk
    rw [bl_common, bl_val _ _ 0 (by simp [be8]), val_be8 _ (by unfold flip64; omega), val_be8 _ (by unfold flip64; omega)]
    unfold flip64
    simp only [ne_eq, not_true_eq_false, if_false]
    by_cases hr : r1 = r2
    · subst hr
      cases d1 <;> cases d2 <;> simp
    · simp only [hr, not_false_eq_true, if_true]
      cases d1 <;> cases d2 <;> simp <;> omega
  · have e : ∀ (k : List UInt8) (t : List UInt8), esc k ++ [0, 1] ++ t = esc k ++ 0 :: 1 :: t := fun k t => by simp
    rw [e, e, bl_esc _ _ _ _ hk]
    simp [hk]

theorem inner_eq (k1 : List UInt8) (r1 : Nat) (d1 : Bool) (k2 : List UInt8) (r2 : Nat) (d2 : Bool) (h1 : U64 r1) (h2 : U64 r2) :
    (innerB k1 r1 d1 == innerB k2 r2 d2) = (k1 == k2 && (r1 == r2 && d1 == d2)) := by
  have l1 := h1.lt
  have l2 := h2.lt
  rw [Bool.eq_iff_iff]
  simp only [beq_iff_eq, Bool.and_eq_true]
  refine ⟨fun h => ?_, fun ⟨a, b, c⟩ => by rw [a, b, c]⟩
  have e : ∀ (k : List UInt8) (t : List UInt8), esc k ++ [0, 1] ++ t = esc k ++ 0 :: 1 :: t := fun k t => by simp
  unfold innerB at h
  rw [e, e] at h
  have hs := congrArg scan h
  rw [scan_esc, scan_esc] at hs
  simp only [Option.some.injEq, Prod.mk.injEq] at hs
  obtain ⟨hk, ht⟩ := hs
  have hv := congrArg (fun l => val l 0) ht
  rw [val_be8 _ (by unfold flip64; omega), val_be8 _ (by unfold flip64; omega)] at hv
  unfold flip64 at hv
  refine ⟨hk, ?_, ?_⟩
  · cases d1 <;> cases d2 <;> simp at hv <;> omega
  · cases d1 <;> cases d2 <;> simp at hv <;> first | rfl | omega

end Go.Proofs.YtmmeofiocbfamaaDoor
namespace Go.Proofs.YtmmeofiocbfamaaDoor
open Go Go.RowKit

/-- What has been read of a text: the key's bytes so far, i places. -/
def Scanned (s ks : List UInt8) (i : Nat) : Prop := scan s = (scan (s.drop i)).map fun x => (ks ++ x.1, x.2)

theorem Scanned.plain {s ks : List UInt8} {i : Nat} (h : Scanned s ks i) (hi : i + 1 < s.length) (hc : s[i] ≠ 0) : Scanned s (ks ++ [s[i]]) (i + 1) := by
  unfold Scanned at *
  rw [h, List.drop_eq_getElem_cons (by omega : i < s.length), List.drop_eq_getElem_cons hi]
  simp [scan, hc, Option.map_map, Function.comp_def]

theorem Scanned.zero {s ks : List UInt8} {i : Nat} (h : Scanned s ks i) (hi : i + 1 < s.length) (hc : s[i]'(by omega) = 0) (hd : s[i + 1] = 255) : Scanned s (ks ++ [0]) (i + 2) := by
  unfold Scanned at *
  rw [h, List.drop_eq_getElem_cons (by omega : i < s.length), List.drop_eq_getElem_cons hi, hc, hd]
  simp [scan, Option.map_map, Function.comp_def]

theorem Scanned.stop {s ks : List UInt8} {i : Nat} (h : Scanned s ks i) (hi : i + 1 < s.length) (hc : s[i]'(by omega) = 0) (hd : s[i + 1] = 1) : scan s = some (ks, s.drop (i + 2)) := by
  unfold Scanned at *
  rw [h, List.drop_eq_getElem_cons (by omega : i < s.length), List.drop_eq_getElem_cons hi, hc, hd]
  simp [scan]

theorem Scanned.bad {s ks : List UInt8} {i : Nat} (h : Scanned s ks i) (hi : i + 1 < s.length) (hc : s[i]'(by omega) = 0) (hd : s[i + 1] ≠ 1) (he : s[i + 1] ≠ 255) : scan s = none := by
  unfold Scanned at *
  rw [h, List.drop_eq_getElem_cons (by omega : i < s.length), List.drop_eq_getElem_cons hi, hc]
  simp [scan, hd, he]

theorem Scanned.short {s ks : List UInt8} {i : Nat} (h : Scanned s ks i) (hi : s.length ≤ i + 1) : scan s = none := by
  unfold Scanned at *
  rw [h]
  have hl : (s.drop i).length ≤ 1 := by rw [List.length_drop]; omega
  generalize s.drop i = t at *
  match t, hl with
  | [], _ => simp [scan]
  | [_], _ => simp [scan]

theorem outerS_stop {s ks rest : List UInt8} (h : scan s = some (ks, rest)) :
    outerS s = if rest.length = 9 ∧ (rest.getD 8 0).toNat ≤ 1 then some (ks, revOf (rest.take 8) 0, rest.getD 8 0 == 0) else none := by
  unfold outerS; rw [h]

theorem ref_step (r c i : Nat) (hr : r < 256 ^ i) (hi : i < 8) (hc : c < 256) : IntKind.u64.wrap ((r : Int) * 256) = (r : Int) * 256 ∧ IntKind.u64.wrap ((r : Int) * 256 + (255 - (c : Int))) = ((r * 256 + (255 - c) : Nat) : Int) ∧ IntKind.u64.wrap (255 - (c : Int)) = 255 - (c : Int) := by
  have hp : 256 ^ i ≤ 256 ^ 7 := Nat.pow_le_pow_right (by decide) (by omega)
  refine ⟨?_, ?_, ?_⟩ <;> rw [IntKind.wrap_u64] <;> omega

theorem outerS_none {s : List UInt8} (h : scan s = none) : outerS s = none := by unfold outerS; rw [h]

theorem u8_ne {c d : UInt8} {n : Int} (hn : ((d.toNat : Nat) : Int) = n) (h : c ≠ d) : ((c.toNat : Int) == n) = false := by
  rw [beq_eq_false_iff_ne, ← hn]
  intro e
  exact h (UInt8.toNat_inj.1 (by omega))
theorem u8_eq {c d : UInt8} {n : Int} (hn : ((d.toNat : Nat) : Int) = n) (h : c = d) : ((c.toNat : Int) == n) = true := by
  rw [h, hn]; simp

end Go.Proofs.YtmmeofiocbfamaaDoor
namespace Go.Proofs.YtmmeofiocbfamaaDoor
open Go Go.RowKit

/-- Texts as cells. -/
def sc (l : List ByteArray) : List Value := l.map Value.string
@[simp] theorem sc_length (l : List ByteArray) : (sc l).length = l.length := by simp [sc]
theorem sc_append (a b : List ByteArray) : sc (a ++ b) = sc a ++ sc b := by simp [sc]
theorem sc_get (l : List ByteArray) (j : Nat) (h : j < l.length) : (sc l)[j]? = some (.string l[j]) := by simp [sc, h]

/-- An entry: its Key, its Rev, whether it is Del. -/
abbrev Ent := ByteArray × Nat × Bool
def eC (x : Ent) : List Value := [.string x.1, .int .u64 x.2.1, .bool x.2.2]
/-- Entries as cells. -/
def ec (l : List Ent) : List Value := l.flatMap eC
theorem ec_append (a b : List Ent) : ec (a ++ b) = ec a ++ ec b := by simp [ec]
theorem ec_length : ∀ l : List Ent, (ec l).length = l.length * 3
  | [] => rfl
  | x :: l => by
    have := ec_length l
    simp only [ec, List.flatMap_cons, List.length_append, List.length_cons] at *
    rw [this]
    simp only [eC, List.length_cons, List.length_nil]
    omega
theorem ec_get : ∀ (l : List Ent) (i : Nat) (h : i < l.length), (ec l)[i * 3]? = some (.string l[i].1) ∧ (ec l)[i * 3 + 1]? = some (.int .u64 l[i].2.1) ∧ (ec l)[i * 3 + 2]? = some (.bool l[i].2.2)
  | x :: l, 0, _ => ⟨rfl, rfl, rfl⟩
  | x :: l, i + 1, h => by
    have ih := ec_get l i (by simpa using h)
    have e : ec (x :: l) = eC x ++ ec l := rfl
    have hl : (eC x).length = 3 := rfl
    rw [e, show (i + 1) * 3 = i * 3 + 3 from by omega]
    refine ⟨?_, ?_, ?_⟩
    · rw [List.getElem?_append_right (by omega), hl, Nat.add_sub_cancel]; exact ih.1
    · rw [List.getElem?_append_right (by omega), hl, show i * 3 + 3 + 1 - 3 = i * 3 + 1 from by omega]; exact ih.2.1
    · rw [List.getElem?_append_right (by omega), hl, show i * 3 + 3 + 2 - 3 = i * 3 + 2 from by omega]; exact ih.2.2

theorem strsT : ElemT Tryd.prog 26 9 1 16 := ElemT.mk' Tryd.underlying26 (show _ = some (some (.string ByteArray.empty), 1, 16) by kernel_rfl) rfl (by decide)
theorem entsT : ElemT Tryd.prog 22 50 3 32 := ElemT.mk' Tryd.underlying22 (show _ = some (some (.agg #[.string ByteArray.empty, .int .u64 0, .bool false]), 3, 32) by kernel_rfl) rfl (by decide)

theorem Sl.strs {S : Nat → Prop} {w : World} {v : Value} {l : List ByteArray} (h : Sl S w 1 v (sc l)) : ∃ ao c, v = .slice ao l.length c ∧ l.length ≤ c ∧ c ≤ 9223372036854775807 ∧
    (0 < l.length → ∃ b off, ao = some ⟨b, off, none⟩ ∧ S b ∧ ∀ j (hj : j < l.length), w.cell? ⟨b, off + j, none⟩ = some (.string l[j])) := by
  obtain ⟨ao, n, c, rfl, h1, h2, h3, h4, h5⟩ := h
  obtain rfl : n = l.length := by simpa using h1.symm
  refine ⟨ao, c, rfl, h2, by unfold maxLen at h3; omega, fun hl => ?_⟩
  obtain ⟨b, off, rfl, hb, hc⟩ := h5 (fun e => by have := congrArg List.length e; rw [sc_length, List.length_nil] at this; omega)
  exact ⟨b, off, rfl, hb, fun j hj => hc j _ (sc_get l j hj)⟩

theorem Sl.ents {S : Nat → Prop} {w : World} {v : Value} {l : List Ent} (h : Sl S w 3 v (ec l)) : ∃ ao c, v = .slice ao l.length c ∧ l.length ≤ c ∧ c ≤ 9223372036854775807 ∧
    (0 < l.length → ∃ b off, ao = some ⟨b, off, none⟩ ∧ S b ∧ ∀ j (hj : j < l.length), w.cell? ⟨b, off + j * 3, none⟩ = some (.string l[j].1) ∧ w.cell? ⟨b, off + j * 3 + 1, none⟩ = some (.int .u64 l[j].2.1) ∧ w.cell? ⟨b, off + j * 3 + 2, none⟩ = some (.bool l[j].2.2)) := by
  obtain ⟨ao, n, c, rfl, h1, h2, h3, h4, h5⟩ := h
  rw [ec_length] at h1
  obtain rfl : n = l.length := by omega
  refine ⟨ao, c, rfl, h2, by unfold maxLen at h3; omega, fun hl => ?_⟩
  obtain ⟨b, off, rfl, hb, hc⟩ := h5 (fun e => by have := congrArg List.length e; rw [ec_length, List.length_nil] at this; omega)
  refine ⟨b, off, rfl, hb, fun j hj => ?_⟩
  obtain ⟨g0, g1, g2⟩ := ec_get l j hj
  exact ⟨hc _ _ g0, hc _ _ g1, hc _ _ g2⟩

/-- What an inner key tells. -/
def deco (s : ByteArray) : Option Ent := (outerS s.data.toList).map fun x => (⟨x.1.toArray⟩, x.2.1, x.2.2)
theorem outV_deco (s : ByteArray) : outV (outerS s.data.toList) = match deco s with | some x => .tuple #[.agg #[.string x.1, .int .u64 x.2.1, .bool x.2.2], .int .i64 0] | none => .tuple #[.agg #[.string ByteArray.empty, .int .u64 0, .bool false], .int .i64 9] := by
  unfold deco
  cases outerS s.data.toList with
  | none => rfl
  | some x => obtain ⟨k, r, d⟩ := x; rfl

/-- Is a text less than another? -/
def ltS (a b : ByteArray) : Bool := Op.bytesLess a.toList b.toList

/-- A row rises. -/
def Rises (l : List ByteArray) : Prop := ∀ i (h : i + 1 < l.length), ltS l[i] l[i + 1] = true

open Classical in
/-- P18.1: is a row one of inner keys, in order? -/
noncomputable def codeOf (l : List ByteArray) : Nat := if ∃ k ∈ l, deco k = none then 9 else if Rises l then 0 else 11

end Go.Proofs.YtmmeofiocbfamaaDoor
namespace Go.Proofs.YtmmeofiocbfamaaDoor
open Go Go.RowKit

set_option maxRecDepth 100000 in
set_option maxHeartbeats 1000000 in
theorem clone8_any {S : Nat → Prop} (v : Value) (bs : List UInt8) (w : World) (hSw : ∀ b, S b → b < w.heap.size) (h : Sl S w 1 v (bc bs)) (hl : bs.length ≤ 1000000000) :
    Calls Tryd.prog 35 #[v] w fun e w' => ∃ v', e = .returned v' ∧ Sl (fun b => w.heap.size ≤ b ∧ b < w'.heap.size) w' 1 v' (bc bs) ∧ Ext w w' := by
  have HS := Lib.hid h
  have HL := Lib.hid hl
  obtain ⟨ao, c, rfl, hlc, hcm, hnil, -⟩ := Sl.bytes h
  clear h
  rcases ao with _ | ad
  · obtain rfl : c = 0 := hnil rfl
    obtain rfl : bs = [] := List.eq_nil_of_length_eq_zero (by omega)
    simp only [List.length_nil] at *
    have hq : ∀ W, (binOp BinOp.eql 24 (.slice none 0 0) (.slice none 0 0)).run Tryd.prog W = .ok (.bool true) W := fun _ => by kernel_rfl
    go_enter Tryd.func35, Tryd.ntmps35
    go_wp2_with fail
    go_ret
    exact ⟨_, rfl, Sl.nil _ _ _, Ext.refl _⟩
  · have hq : ∀ W, (binOp BinOp.eql 24 (.slice (some ad) bs.length c) (.slice none 0 0)).run Tryd.prog W = .ok (.bool false) W := fun _ => by kernel_rfl
    have HO := Lib.hid (Own.made w (Nat.le_refl _) 5 1)
    have HX := Lib.hid (Ext.alloc w (.cells #[] 5))
    have HS1 := Lib.hid (HS.out.same (w' := w.alloc (.cells #[] 5)) ((Same.below HX.out).mono hSw))
    go_enter Tryd.func35, Tryd.ntmps35
    go_wp2_with (at_builtin; go_must (refine wpList_own bytesT rfl (.tmp 5) (.tmp 6) rfl rfl HO.out rfl HS1.out (bc_one _) (by have := HL.out; rw [bc_length]; simp only [List.length_nil]; omega) (by have := HL.out; rw [bc_length]; simp only [List.length_nil]; omega) (by simp) ?_; intro v5 w5 hown5 hb5 _; have HF := Lib.hid (show Own w5 w.heap.size 5 1 v5 (bc bs) from by rw [List.nil_append] at hown5; exact hown5); have HX5 := Lib.hid (show Ext w w5 from Below.trans HX.out hb5); obtain ⟨ao5, n5, c5, rfl, -, -, -⟩ := hown5.sl.len; clear hown5 hb5))
    go_ret
    exact ⟨_, rfl, HF.out.sl, HX5.out⟩

theorem sc_len2 (l : List ByteArray) : (sc l).length = l.length := by unfold sc; rw [List.length_map]
theorem sc_one2 (l : List ByteArray) : ∀ u ∈ sc l, u.oneCell' = true := by
  intro u hu
  obtain ⟨x, _, rfl⟩ := List.mem_map.1 hu
  rfl
theorem Sl.strs0 {S : Nat → Prop} {w : World} {v : Value} {bs : List ByteArray} (h : Sl S w 1 v (sc bs)) : ∃ ao c, v = .slice ao bs.length c ∧ bs.length ≤ c ∧ c ≤ 9223372036854775807 ∧ (ao = none → c = 0) ∧
    (0 < bs.length → ∃ b off, ao = some ⟨b, off, none⟩ ∧ S b ∧ ∀ j (hj : j < bs.length), w.cell? ⟨b, off + j, none⟩ = some (.string bs[j])) := by
  obtain ⟨ao, n, c, rfl, hn, hnc, hc, hnone, hcell⟩ := h
  rw [sc_len2] at hn
  obtain rfl : n = bs.length := by omega
  refine ⟨ao, c, rfl, hnc, by have e : maxLen = 9223372036854775807 := rfl; omega, hnone, fun h0 => ?_⟩
  obtain ⟨b, off, rfl, hb, hcc⟩ := hcell (by intro e; have := congrArg List.length e; rw [sc_len2, List.length_nil] at this; omega)
  exact ⟨b, off, rfl, hb, fun j hj => hcc j _ (by simp [sc, hj])⟩

set_option maxRecDepth 100000 in
set_option maxHeartbeats 1000000 in
theorem cloneS_any {S : Nat → Prop} (v : Value) (bs : List ByteArray) (w : World) (hSw : ∀ b, S b → b < w.heap.size) (h : Sl S w 1 v (sc bs)) (hl : bs.length ≤ 1000000000) :
    Calls Tryd.prog 25 #[v] w fun e w' => ∃ v', e = .returned v' ∧ Sl (fun b => w.heap.size ≤ b ∧ b < w'.heap.size) w' 1 v' (sc bs) ∧ Ext w w' := by
  have HS := Lib.hid h
  have HL := Lib.hid hl
  obtain ⟨ao, c, rfl, hlc, hcm, hnil, -⟩ := Sl.strs0 h
  clear h
  rcases ao with _ | ad
  · obtain rfl : c = 0 := hnil rfl
    obtain rfl : bs = [] := List.eq_nil_of_length_eq_zero (by omega)
    simp only [List.length_nil] at *
    have hq : ∀ W, (binOp BinOp.eql 26 (.slice none 0 0) (.slice none 0 0)).run Tryd.prog W = .ok (.bool true) W := fun _ => by kernel_rfl
    go_enter Tryd.func25, Tryd.ntmps25
    go_wp2_with fail
    go_ret
    exact ⟨_, rfl, Sl.nil _ _ _, Ext.refl _⟩
  · have hq : ∀ W, (binOp BinOp.eql 26 (.slice (some ad) bs.length c) (.slice none 0 0)).run Tryd.prog W = .ok (.bool false) W := fun _ => by kernel_rfl
    have HO := Lib.hid (Own.made w (Nat.le_refl _) 9 1)
    have HX := Lib.hid (Ext.alloc w (.cells #[] 9))
    have HS1 := Lib.hid (HS.out.same (w' := w.alloc (.cells #[] 9)) ((Same.below HX.out).mono hSw))
    go_enter Tryd.func25, Tryd.ntmps25
    go_wp2_with (at_builtin; go_must (refine wpList_own strsT rfl (.tmp 5) (.tmp 6) rfl rfl HO.out rfl HS1.out (sc_one2 _) (by have := HL.out; rw [sc_len2]; simp only [List.length_nil]; omega) (by have := HL.out; rw [sc_len2]; simp only [List.length_nil]; omega) (by simp) ?_; intro v5 w5 hown5 hb5 _; have HF := Lib.hid (show Own w5 w.heap.size 9 1 v5 (sc bs) from by rw [List.nil_append] at hown5; exact hown5); have HX5 := Lib.hid (show Ext w w5 from Below.trans HX.out hb5); obtain ⟨ao5, n5, c5, rfl, -, -, -⟩ := hown5.sl.len; clear hown5 hb5))
    go_ret
    exact ⟨_, rfl, HF.out.sl, HX5.out⟩

end Go.Proofs.YtmmeofiocbfamaaDoor
namespace Go.Proofs.YtmmeofiocbfamaaDoor
open Go Go.RowKit

theorem bc_take (l : List UInt8) (k : Nat) : (bc l).take k = bc (l.take k) := by unfold bc; rw [List.map_take]
theorem bc_drop (l : List UInt8) (k : Nat) : (bc l).drop k = bc (l.drop k) := by unfold bc; rw [List.map_drop]

set_option maxRecDepth 100000 in
set_option maxHeartbeats 1000000 in
theorem nextF_any (v : Value) (bs : List UInt8) (w : World) (h : Sl (· < w.heap.size) w 1 v (bc bs)) (hl : bs.length ≤ 10000000) :
    Calls Tryd.prog 54 #[v] w fun e w' => ∃ v', e = .returned (.tuple #[v', .int .i64 (nextB bs).2.1, .int .i64 (nextB bs).2.2]) ∧ Sl (fun b => w.heap.size ≤ b ∧ b < w'.heap.size) w' 1 v' (bc (nextB bs).1) ∧ Ext w w' := by
  have HS := Lib.hid h
  obtain ⟨ao, c, rfl, hlc, hcm, -, hcell⟩ := Sl.bytes h
  by_cases h8 : bs.length < 8
  · have HR := Lib.hid (show nextB bs = ([], 0, 7) from by unfold nextB; rw [if_pos (.inl h8)])
    clear h hcell
    go_enter Tryd.func54, Tryd.ntmps54
    go_wp2_with fail
    go_ret3
    rw [HR.out]
    exact ⟨_, rfl, Sl.nil _ _ _, Ext.refl _⟩
  · obtain ⟨b, off, rfl, hb, -⟩ := hcell (by omega)
    have h8' : (8 : Int) ≤ (bs.length : Int) := by omega
    have HG1 := Lib.hid (get_frame _ bs w h (by omega))
    have HG4 := Lib.hid (get4_lt bs)
    clear h hcell
    by_cases hg : bs.length - 8 < get4 bs
    · have HR := Lib.hid (show nextB bs = ([], 0, 7) from by unfold nextB; rw [if_pos (.inr hg)])
      have hgi : ((bs.length : Int) - 8) < (get4 bs : Int) := by omega
      generalize get4 bs = g at *
      go_enter Tryd.func54, Tryd.ntmps54
      go_wp2_with fail
      refine HG1.out.mono ?_
      rintro e w1 ⟨rfl, hb1⟩
      have hg4 := HG4.out
      have HX1 := Lib.hid (show Ext w w1 from hb1)
      clear HG1 hb1
      go_wp2_with fail
      go_ret3
      rw [HR.out]
      exact ⟨_, rfl, Sl.nil _ _ _, HX1.out⟩
    · have hgi : ¬ (((bs.length : Int) - 8) < (get4 bs : Int)) := by omega
      have HR := Lib.hid (show nextB bs = if sumB ((bs.drop 8).take (get4 bs)) ≠ get4 (bs.drop 4) then ([], 0, 8) else ((bs.drop 8).take (get4 bs), 8 + get4 bs, 0) from by unfold nextB; rw [if_neg (by omega)])
      have HGL := Lib.hid (show get4 bs ≤ bs.length - 8 from by omega)
      have HG2 := Lib.hid (fun W (hW : Ext w W) => get_frame _ bs W (HS.out.up hW) (by omega))
      generalize get4 bs = g at *
      go_enter Tryd.func54, Tryd.ntmps54
      go_wp2_with fail
      refine HG1.out.mono ?_
      rintro e w1 ⟨rfl, hb1⟩
      have hg4 := HG4.out
      have HX1 := Lib.hid (show Ext w w1 from hb1)
      clear HG1 hb1
      have HG3 := Lib.hid (HG2.out w1 HX1.out)
      go_wp2_with fail
      refine HG3.out.mono ?_
      rintro e w2 ⟨rfl, hb2⟩
      have HX2 := Lib.hid (show Ext w w2 from HX1.out.trans hb2)
      have hs1 : (8 : Int) + (g : Int) ≤ (c : Int) := by have := HGL.out; omega
      have hs2 : (8 : Int) ≤ (8 : Int) + (g : Int) := by omega
      have hs3 : (4 : Int) ≤ (bs.length : Int) := by omega
      clear HG3 hb2
      have HLL := Lib.hid (show 8 ≤ bs.length ∧ bs.length ≤ c ∧ c ≤ 9223372036854775807 ∧ bs.length ≤ 10000000 ∧ g < 4294967296 from by have := HG4.out; omega)
      have hgb : g ≤ 10000000 := by have := HGL.out; omega
      clear hs3 hgi hg4 hg h8' hlc hcm hl h8
      by_cases hc8 : c = 8
      · subst hc8
        obtain rfl : g = 0 := by have := HGL.out; have := HLL.out; omega
        clear hs1 hs2 hgb
        simp only [List.take_zero] at HR
        have HP5 := Lib.hid (show Sl (· < w.heap.size) w 1 (.slice (some ⟨b, off, none⟩) 0 0) (bc ([] : List UInt8)) from by
          have := (HS.out.tailK (ao' := (some ⟨b, off, none⟩)) 8 (by have := HLL.out; omega) (by intro h; first | exact absurd rfl h | (simp [Addr.add_lit]))).take 0 (by have := HGL.out; omega)
          (simpa [bc] using this))
        have HP4 := Lib.hid (show Sl (· < w.heap.size) w 1 (.slice (some ⟨b, off + 4, none⟩) (bs.length - 4) (8 - 4)) (bc (bs.drop 4)) from by
          have := HS.out.tailK (ao' := some ⟨b, off + 4, none⟩) 4 (by have := HLL.out; omega) (fun _ => by simp [Addr.add_lit])
          rwa [bc_drop] at this)
        have hc4 : ¬ (8 = 4) := by have := HLL.out; omega
        go_wp2_with fail
        obtain ⟨wd, hwd⟩ : ∃ wd, wd = w2.drew := ⟨_, rfl⟩
        have HXd := Lib.hid (show Ext w wd from by rw [hwd]; exact HX2.out.trans (Ext.drew w2))
        have hE := Lib.hid (Ext.refl wd)
        refine region_walkN (Ext wd) (by rw [← hwd]; exact Ext.refl _) (by kernel_rfl) (by kernel_rfl) (fun _ _ d _ _ h => by cases d <;> exact h) ?_
        rw [← hwd]
        clear hwd
        have hs3 : (4 : Int) ≤ (bs.length : Int) := by have := HLL.out; omega
        ((refine WalkN.take 0 _ ?_ (by simp only [List.getElem?_toArray, List.getElem?_cons_zero]; rfl) (by kernel_rfl) (by kernel_rfl) (by rfl) (fun W hW => ?_) ?_; rotate_left; · (go_simp; try with_reducible rfl)); simp only [Act.put, List.setIfInBounds_toArray, List.set_cons_zero, List.set_cons_succ]); ((refine WalkN.take 2 _ ?_ (by simp only [List.getElem?_toArray, List.getElem?_cons_succ, List.getElem?_cons_zero]; rfl) (by kernel_rfl) (by kernel_rfl) (by rfl) (fun W hW => ?_) ?_; rotate_left; · (go_simp; try with_reducible rfl)); simp only [Act.put, List.setIfInBounds_toArray, List.set_cons_zero, List.set_cons_succ]); ((refine WalkN.take 3 _ ?_ (by simp only [List.getElem?_toArray, List.getElem?_cons_succ, List.getElem?_cons_zero]; rfl) (by kernel_rfl) (by kernel_rfl) (by rfl) (fun W hW => ?_) ?_; rotate_left; · (go_simp; try with_reducible rfl)); simp only [Act.put, List.setIfInBounds_toArray, List.set_cons_zero, List.set_cons_succ])
        clear hs3
        refine WalkN.one 1 (by kernel_rfl) ?_
        refine ⟨_, (by simp only [List.getElem?_toArray, List.getElem?_cons_succ, List.getElem?_cons_zero]; rfl), by rfl, fun K hK => ?_⟩
        go_simp
        refine (sum_any (S := (· < w.heap.size)) _ ([] : List UInt8) wd (fun b (hb : b < w.heap.size) => Nat.lt_of_lt_of_le hb (HXd.out.trans hE.out).size) (HP5.out.same (Same.below (HXd.out.trans hE.out)))).mono ?_
        rintro e u1 ⟨rfl, hb0⟩
        have hX0 : Ext wd u1 := Ext.trans hE.out hb0
        refine hK.out _ _ hX0 ?_
        clear hK hb0
        have hE := Lib.hid hX0
        clear hX0
        refine WalkN.one 4 (by kernel_rfl) ?_
        refine ⟨_, (by simp only [List.getElem?_toArray, List.getElem?_cons_succ, List.getElem?_cons_zero]; rfl), by rfl, fun K hK => ?_⟩
        go_simp
        refine (get_frame _ (bs.drop 4) u1 (HP4.out.same (Same.below (HXd.out.trans hE.out))) (by have := HLL.out; rw [List.length_drop]; omega)).mono ?_
        rintro e u2 ⟨rfl, hb1⟩
        have hX1 : Ext wd u2 := Ext.trans hE.out hb1
        refine hK.out _ _ hX1 ?_
        clear hK hb1
        have hE := Lib.hid hX1
        clear hX1
        refine WalkN.one 5 (by kernel_rfl) ?_
        refine ⟨_, (by simp only [List.getElem?_toArray, List.getElem?_cons_succ, List.getElem?_cons_zero]; rfl), by rfl, fun K hK => ?_⟩
        go_simp
        refine hK.out _ _ hE.out ?_
        clear hK
        obtain ⟨u3, rfl⟩ : ∃ x, x = u2 := ⟨_, rfl⟩
        refine WalkN.done (by kernel_rfl) ?_
        generalize u3 = w5 at *
        have HX5 := Lib.hid (show Ext w w5 from HXd.out.trans hE.out)
        clear hE
        by_cases hsm : sumB ([] : List UInt8) = get4 (bs.drop 4)
        · have HR2 := Lib.hid (show nextB bs = ((bs.drop 8).take 0, 8 + 0, 0) from by rw [HR.out]; exact if_neg (fun h => h hsm))
          have HCL := Lib.hid (clone8_any (S := (· < w.heap.size)) _ ([] : List UInt8) w5 (fun b (hb : b < w.heap.size) => Nat.lt_of_lt_of_le hb HX5.out.size) (HP5.out.same (Same.below HX5.out)) (by have := HLL.out; simp))
          rw [hsm]
          clear hsm
          have hne : (((get4 (bs.drop 4) : Nat) : Int) != ((get4 (bs.drop 4) : Nat) : Int)) = false := by simp
          generalize get4 (bs.drop 4) = g4 at *
          go_wp2_with fail
          refine HCL.out.mono ?_
          rintro e w6 ⟨v6, rfl, hs6, hb6⟩
          have HX6 := Lib.hid (show Ext w w6 from HX5.out.trans hb6)
          have HS6 := Lib.hid (hs6.mono (T := fun b => w.heap.size ≤ b ∧ b < w6.heap.size) fun b hb => ⟨Nat.le_trans HX5.out.size hb.1, hb.2⟩)
          obtain ⟨ao6, n6, c6, rfl, -, -, -⟩ := hs6.len
          clear hs6 hb6 HCL
          go_wp2_with fail
          go_ret3
          rw [HR2.out]
          exact ⟨_, by first | rfl | (simp; omega), HS6.out, HX6.out⟩
        · have HR2 := Lib.hid (show nextB bs = ([], 0, 8) from by rw [HR.out]; exact if_pos hsm)
          have hne : (((sumB ([] : List UInt8) : Nat) : Int) != ((get4 (bs.drop 4) : Nat) : Int)) = true := by rw [bne_iff_ne]; omega
          clear hsm
          go_wp2_with fail
          go_ret3
          rw [HR2.out]
          exact ⟨_, rfl, Sl.nil _ _ _, HX5.out⟩
      · have HP5 := Lib.hid (show Sl (· < w.heap.size) w 1 (.slice (some ⟨b, off + 8, none⟩) g (c - 8)) (bc ((bs.drop 8).take g)) from by
          have := (HS.out.tailK (ao' := (some ⟨b, off + 8, none⟩)) 8 (by have := HLL.out; omega) (by intro h; first | exact absurd rfl h | (simp [Addr.add_lit]))).take g (by have := HGL.out; omega)
          rwa [bc_drop, Nat.mul_one, bc_take] at this)
        have HP4 := Lib.hid (show Sl (· < w.heap.size) w 1 (.slice (some ⟨b, off + 4, none⟩) (bs.length - 4) (c - 4)) (bc (bs.drop 4)) from by
          have := HS.out.tailK (ao' := some ⟨b, off + 4, none⟩) 4 (by have := HLL.out; omega) (fun _ => by simp [Addr.add_lit])
          rwa [bc_drop] at this)
        have hc4 : ¬ (c = 4) := by have := HLL.out; omega
        go_wp2_with fail
        obtain ⟨wd, hwd⟩ : ∃ wd, wd = w2.drew := ⟨_, rfl⟩
        have HXd := Lib.hid (show Ext w wd from by rw [hwd]; exact HX2.out.trans (Ext.drew w2))
        have hE := Lib.hid (Ext.refl wd)
        refine region_walkN (Ext wd) (by rw [← hwd]; exact Ext.refl _) (by kernel_rfl) (by kernel_rfl) (fun _ _ d _ _ h => by cases d <;> exact h) ?_
        rw [← hwd]
        clear hwd
        have hs3 : (4 : Int) ≤ (bs.length : Int) := by have := HLL.out; omega
        ((refine WalkN.take 0 _ ?_ (by simp only [List.getElem?_toArray, List.getElem?_cons_zero]; rfl) (by kernel_rfl) (by kernel_rfl) (by rfl) (fun W hW => ?_) ?_; rotate_left; · (go_simp; try with_reducible rfl)); simp only [Act.put, List.setIfInBounds_toArray, List.set_cons_zero, List.set_cons_succ]); ((refine WalkN.take 2 _ ?_ (by simp only [List.getElem?_toArray, List.getElem?_cons_succ, List.getElem?_cons_zero]; rfl) (by kernel_rfl) (by kernel_rfl) (by rfl) (fun W hW => ?_) ?_; rotate_left; · (go_simp; try with_reducible rfl)); simp only [Act.put, List.setIfInBounds_toArray, List.set_cons_zero, List.set_cons_succ]); ((refine WalkN.take 3 _ ?_ (by simp only [List.getElem?_toArray, List.getElem?_cons_succ, List.getElem?_cons_zero]; rfl) (by kernel_rfl) (by kernel_rfl) (by rfl) (fun W hW => ?_) ?_; rotate_left; · (go_simp; try with_reducible rfl)); simp only [Act.put, List.setIfInBounds_toArray, List.set_cons_zero, List.set_cons_succ])
        clear hs3
        refine WalkN.one 1 (by kernel_rfl) ?_
        refine ⟨_, (by simp only [List.getElem?_toArray, List.getElem?_cons_succ, List.getElem?_cons_zero]; rfl), by rfl, fun K hK => ?_⟩
        go_simp
        refine (sum_any (S := (· < w.heap.size)) _ ((bs.drop 8).take g) wd (fun b (hb : b < w.heap.size) => Nat.lt_of_lt_of_le hb (HXd.out.trans hE.out).size) (HP5.out.same (Same.below (HXd.out.trans hE.out)))).mono ?_
        rintro e u1 ⟨rfl, hb0⟩
        have hX0 : Ext wd u1 := Ext.trans hE.out hb0
        refine hK.out _ _ hX0 ?_
        clear hK hb0
        have hE := Lib.hid hX0
        clear hX0
        refine WalkN.one 4 (by kernel_rfl) ?_
        refine ⟨_, (by simp only [List.getElem?_toArray, List.getElem?_cons_succ, List.getElem?_cons_zero]; rfl), by rfl, fun K hK => ?_⟩
        go_simp
        refine (get_frame _ (bs.drop 4) u1 (HP4.out.same (Same.below (HXd.out.trans hE.out))) (by have := HLL.out; rw [List.length_drop]; omega)).mono ?_
        rintro e u2 ⟨rfl, hb1⟩
        have hX1 : Ext wd u2 := Ext.trans hE.out hb1
        refine hK.out _ _ hX1 ?_
        clear hK hb1
        have hE := Lib.hid hX1
        clear hX1
        refine WalkN.one 5 (by kernel_rfl) ?_
        refine ⟨_, (by simp only [List.getElem?_toArray, List.getElem?_cons_succ, List.getElem?_cons_zero]; rfl), by rfl, fun K hK => ?_⟩
        go_simp
        refine hK.out _ _ hE.out ?_
        clear hK
        obtain ⟨u3, rfl⟩ : ∃ x, x = u2 := ⟨_, rfl⟩
        refine WalkN.done (by kernel_rfl) ?_
        generalize u3 = w5 at *
        have HX5 := Lib.hid (show Ext w w5 from HXd.out.trans hE.out)
        clear hE
        by_cases hsm : sumB ((bs.drop 8).take g) = get4 (bs.drop 4)
        · have HR2 := Lib.hid (show nextB bs = ((bs.drop 8).take g, 8 + g, 0) from by rw [HR.out]; exact if_neg (fun h => h hsm))
          have HCL := Lib.hid (clone8_any (S := (· < w.heap.size)) _ ((bs.drop 8).take g) w5 (fun b (hb : b < w.heap.size) => Nat.lt_of_lt_of_le hb HX5.out.size) (HP5.out.same (Same.below HX5.out)) (by have := HLL.out; rw [List.length_take, List.length_drop]; omega))
          rw [hsm]
          clear hsm
          have hne : (((get4 (bs.drop 4) : Nat) : Int) != ((get4 (bs.drop 4) : Nat) : Int)) = false := by simp
          generalize get4 (bs.drop 4) = g4 at *
          go_wp2_with fail
          refine HCL.out.mono ?_
          rintro e w6 ⟨v6, rfl, hs6, hb6⟩
          have HX6 := Lib.hid (show Ext w w6 from HX5.out.trans hb6)
          have HS6 := Lib.hid (hs6.mono (T := fun b => w.heap.size ≤ b ∧ b < w6.heap.size) fun b hb => ⟨Nat.le_trans HX5.out.size hb.1, hb.2⟩)
          obtain ⟨ao6, n6, c6, rfl, -, -, -⟩ := hs6.len
          clear hs6 hb6 HCL
          go_wp2_with fail
          go_ret3
          rw [HR2.out]
          exact ⟨_, by first | rfl | (simp; omega), HS6.out, HX6.out⟩
        · have HR2 := Lib.hid (show nextB bs = ([], 0, 8) from by rw [HR.out]; exact if_pos hsm)
          have hne : (((sumB ((bs.drop 8).take g) : Nat) : Int) != ((get4 (bs.drop 4) : Nat) : Int)) = true := by rw [bne_iff_ne]; omega
          clear hsm
          go_wp2_with fail
          go_ret3
          rw [HR2.out]
          exact ⟨_, rfl, Sl.nil _ _ _, HX5.out⟩

end Go.Proofs.YtmmeofiocbfamaaDoor
