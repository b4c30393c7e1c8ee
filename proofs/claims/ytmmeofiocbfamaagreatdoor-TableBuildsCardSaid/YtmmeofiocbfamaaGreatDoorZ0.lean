/- The sum of a frame and the hash of a filter: the plain laws. The common ground of this seat's proofs: what a slice reads as in memory (its cells), a footprint of blocks, what may be appended to, and the law of append. No condition: lemmas. -/
import Derived.Laws.BitsAllLaws
import Derived.Test.YtmmeofiocbfamaaGreatDoorProg
import Derived.WalkKit
import Derived.WalkSpells
import Derived.WalkLawsBesides
import Derived.Lib.Hide
import Derived.Lib.AppendStr
namespace Go.Proofs.YtmmeofiocbfamaaGreatDoor
open Go

/-- One step of the sum. -/
def crcS (a : Nat) : Nat := if a % 2 = 1 then (a / 2) ^^^ 3988292384 else a / 2
def crcN : Nat → Nat → Nat
  | 0, a => a
  | k + 1, a => crcN k (crcS a)
theorem crcS_xor (a b : Nat) : crcS (a ^^^ b) = crcS a ^^^ crcS b := by
  unfold crcS
  have h1 : (a ^^^ b) / 2 = a / 2 ^^^ b / 2 := Nat.xor_div_two
  have h2 : (a ^^^ b) % 2 = (a % 2 + b % 2) % 2 := by
    have := Nat.testBit_xor a b 0
    simp only [Nat.testBit_zero] at this
    have ha := Nat.mod_two_eq_zero_or_one a
    have hb := Nat.mod_two_eq_zero_or_one b
    have hc := Nat.mod_two_eq_zero_or_one (a ^^^ b)
    rcases ha with ha | ha <;> rcases hb with hb | hb <;> rcases hc with hc | hc <;> simp [ha, hb, hc] at this ⊢
  rw [h1, h2]
  have ha := Nat.mod_two_eq_zero_or_one a
  have hb := Nat.mod_two_eq_zero_or_one b
  rcases ha with ha | ha <;> rcases hb with hb | hb <;> rw [ha, hb] <;> simp
  · rw [Nat.xor_assoc]
  · rw [Nat.xor_assoc, Nat.xor_assoc, Nat.xor_comm (b / 2)]
  · have : ∀ x y p : Nat, (x ^^^ p) ^^^ (y ^^^ p) = x ^^^ y := fun x y p => by
      rw [Nat.xor_assoc, Nat.xor_comm y p, ← Nat.xor_assoc p p y, Nat.xor_self, Nat.zero_xor]
    rw [this]
theorem crcN_xor : ∀ (k a b : Nat), crcN k (a ^^^ b) = crcN k a ^^^ crcN k b
  | 0, _, _ => rfl
  | k + 1, a, b => by rw [crcN, crcN, crcN, crcS_xor, crcN_xor k]
theorem crcS_even (a : Nat) : crcS (2 * a) = a := by
  unfold crcS
  rw [if_neg (by omega)]
  omega
theorem crcN_high : ∀ (k a : Nat), crcN k (2 ^ k * a) = a
  | 0, a => by rw [crcN]; omega
  | k + 1, a => by rw [crcN, show 2 ^ (k + 1) * a = 2 * (2 ^ k * a) from by rw [Nat.pow_succ, Nat.mul_comm (2 ^ k) 2, Nat.mul_assoc], crcS_even, crcN_high k]
theorem xor_split (s : Nat) : (2 ^ 8 * (s / 256)) ^^^ (s % 256) = s := by
  apply Nat.eq_of_testBit_eq
  intro i
  rw [Nat.testBit_xor]
  have e : s = 2 ^ 8 * (s / 256) + s % 256 := by omega
  conv => rhs; rw [e, Nat.testBit_two_pow_mul_add _ (by omega : s % 256 < 2 ^ 8)]
  rw [Nat.testBit_two_pow_mul]
  by_cases h : i < 8
  · rw [if_pos h]
    simp [show ¬ 8 ≤ i by omega]
  · rw [if_neg h]
    have : (s % 256).testBit i = false := Nat.testBit_lt_two_pow (Nat.lt_of_lt_of_le (by omega : s % 256 < 2 ^ 8) (Nat.pow_le_pow_right (by omega) (by omega)))
    rw [this]
    simp [show 8 ≤ i by omega]
/-- The table's way and the document's are the same. -/
theorem crc_table (s c : Nat) : crcN 8 (s ^^^ c) = (s / 256) ^^^ crcN 8 ((s % 256) ^^^ c) := by
  conv => lhs; rw [← xor_split s, Nat.xor_assoc, crcN_xor, crcN_high]
theorem crcS_lt {a : Nat} (h : a < 2 ^ 32) : crcS a < 2 ^ 32 := by
  unfold crcS
  split
  · exact Nat.xor_lt_two_pow (by omega) (by decide)
  · omega
theorem crcN_lt : ∀ (k : Nat) {a : Nat}, a < 2 ^ 32 → crcN k a < 2 ^ 32
  | 0, _, h => h
  | k + 1, _, h => by rw [crcN]; exact crcN_lt k (crcS_lt h)
/-- The sum so far, of some bytes. -/
def sumF (s : Nat) (l : List UInt8) : Nat := l.foldl (fun s c => crcN 8 (s ^^^ c.toNat)) s
theorem sumF_lt {s : Nat} (h : s < 2 ^ 32) (l : List UInt8) : sumF s l < 2 ^ 32 := by
  unfold sumF
  induction l generalizing s with
  | nil => exact h
  | cons c l ih => exact ih (crcN_lt 8 (Nat.xor_lt_two_pow h (by have := c.toNat_lt; omega)))
/-- The sum of bytes. -/
def sumB (l : List UInt8) : Nat := sumF 4294967295 l ^^^ 4294967295
/-- One step of the hash. -/
def hashS (h : Nat) (c : UInt8) : Nat := (h ^^^ c.toNat) * 1099511628211 % 18446744073709551616
def hashF (h : Nat) (l : List UInt8) : Nat := l.foldl hashS h
def hashB (l : List UInt8) : Nat := hashF 14695981039346656037 l
theorem hashF_lt {h : Nat} (hh : h < 18446744073709551616) : ∀ l : List UInt8, hashF h l < 18446744073709551616 := fun l => by
  unfold hashF
  induction l generalizing h with
  | nil => exact hh
  | cons c l ih => exact ih (Nat.mod_lt _ (by decide))
theorem times_eq (a b : Nat) :
    ((a % 2 ^ 32 * (b % 2 ^ 32) / 2 ^ 32 + (a % 2 ^ 32 * (b / 2 ^ 32) % 2 ^ 32 + a / 2 ^ 32 * (b % 2 ^ 32) % 2 ^ 32) % 2 ^ 32) % 2 ^ 32) * 2 ^ 32 + a % 2 ^ 32 * (b % 2 ^ 32) % 2 ^ 32 = a * b % 2 ^ 64 := by
  generalize hl : a % 2 ^ 32 = l
  generalize hh : a / 2 ^ 32 = h
  generalize hx : b % 2 ^ 32 = x
  generalize hy : b / 2 ^ 32 = y
  have ea : a = h * 2 ^ 32 + l := by omega
  have eb : b = y * 2 ^ 32 + x := by omega
  have e : a * b = (l * x) + (l * y + h * x) * 2 ^ 32 + h * y * 2 ^ 64 := by
    rw [ea, eb]
    have : (2 : Nat) ^ 64 = 2 ^ 32 * 2 ^ 32 := by decide
    rw [this]
    generalize (2 : Nat) ^ 32 = p
    simp only [Nat.add_mul, Nat.mul_add]
    have h1 : h * p * (y * p) = h * y * (p * p) := by rw [Nat.mul_assoc, Nat.mul_left_comm p y p, ← Nat.mul_assoc h y]
    have h2 : h * p * x = h * x * p := by rw [Nat.mul_right_comm]
    have h3 : l * (y * p) = l * y * p := by rw [Nat.mul_assoc]
    rw [h1, h2, h3]
    omega
  rw [e, Nat.add_mul_mod_self_right]
  generalize l * x = m
  generalize l * y = u
  generalize h * x = v
  omega

/-- A number in four bytes, the highest first. -/
def four (v : Nat) : List UInt8 := [UInt8.ofNat (v / 16777216), UInt8.ofNat (v / 65536), UInt8.ofNat (v / 256), UInt8.ofNat v]
/-- The number in the first four bytes. -/
def get4 (l : List UInt8) : Nat := (l.getD 0 0).toNat * 16777216 + (l.getD 1 0).toNat * 65536 + (l.getD 2 0).toNat * 256 + (l.getD 3 0).toNat
theorem get4_four (v : Nat) (h : v < 4294967296) (rest : List UInt8) : get4 (four v ++ rest) = v := by
  unfold get4 four
  simp
  omega
theorem get4_lt (l : List UInt8) : get4 l < 4294967296 := by
  unfold get4
  have h : ∀ c : UInt8, c.toNat < 256 := fun c => c.toNat_lt
  have := h (l.getD 0 0)
  have := h (l.getD 1 0)
  have := h (l.getD 2 0)
  have := h (l.getD 3 0)
  omega
theorem four_length (v : Nat) : (four v).length = 4 := rfl
/-- A frame. -/
def sealB (p : List UInt8) : List UInt8 := four p.length ++ four (sumB p) ++ p
theorem sealB_length (p : List UInt8) : (sealB p).length = 8 + p.length := by unfold sealB; simp [four_length]; omega
theorem sumB_lt (p : List UInt8) : sumB p < 4294967296 := Nat.xor_lt_two_pow (sumF_lt (by decide) p) (by decide)
/-- What bytes in a frame tell: the frame's, how many in all, the error. -/
def nextB (b : List UInt8) : List UInt8 × Nat × Nat :=
  if b.length < 8 ∨ b.length - 8 < get4 b then ([], 0, 7)
  else if sumB ((b.drop 8).take (get4 b)) ≠ get4 (b.drop 4) then ([], 0, 8)
  else ((b.drop 8).take (get4 b), 8 + get4 b, 0)
theorem nextB_seal (p : List UInt8) (h : p.length < 4294967296) : nextB (sealB p) = (p, 8 + p.length, 0) := by
  have h1 : get4 (sealB p) = p.length := by unfold sealB; rw [List.append_assoc]; exact get4_four _ h _
  have h2 : (sealB p).drop 4 = four (sumB p) ++ p := by unfold sealB; rw [List.append_assoc]; rfl
  have h3 : (sealB p).drop 8 = p := by unfold sealB; rfl
  unfold nextB
  rw [h1, h2, h3, sealB_length, get4_four _ (sumB_lt p), List.take_length, if_neg (by omega), if_neg (by simp)]

end Go.Proofs.YtmmeofiocbfamaaGreatDoor
namespace Go.Proofs.YtmmeofiocbfamaaGreatDoor
open Go Go.RowKit

/-- What an element type's row of the table says. -/
structure ElemT (P : Program) (t e : TypeId) (size bytes : Nat) : Prop where
  und : P.underlying t = some (.slice e)
  row : ∃ i z, P.info? e = some i ∧ i.zero = some z ∧ i.size = size ∧ i.bytes = bytes ∧ z.cells.size = size
  pos : 0 < size

theorem ElemT.mk' {P : Program} {t e : TypeId} {z : Value} {size bytes : Nat} (h1 : P.underlying t = some (.slice e))
    (h2 : (P.info? e).map (fun i => (i.zero, i.size, i.bytes)) = some (some z, size, bytes)) (h3 : z.cells.size = size) (h4 : 0 < size) : ElemT P t e size bytes := by
  obtain ⟨i, a, b, c, d⟩ := info_parts h2
  exact ⟨h1, ⟨i, z, a, b, c, d, h3⟩, h4⟩

/-- The worlds agree on the blocks of S. -/
def Same (S : Nat → Prop) (w w' : World) : Prop := ∀ b, S b → w'.heap[b]? = w.heap[b]?

theorem Same.refl (S : Nat → Prop) (w : World) : Same S w w := fun _ _ => rfl
theorem Same.trans {S : Nat → Prop} {a b c : World} (h : Same S a b) (k : Same S b c) : Same S a c := fun x hx => (k x hx).trans (h x hx)
theorem Same.mono {S T : Nat → Prop} {a b : World} (h : Same S a b) (k : ∀ x, T x → S x) : Same T a b := fun x hx => h x (k x hx)
theorem Same.below {B : Nat} {a b : World} (h : Below B a b) : Same (· < B) a b := fun x hx => h.block x hx
theorem Same.cell {S : Nat → Prop} {a b : World} (h : Same S a b) {p : Addr} (hp : S p.block) : b.cell? p = a.cell? p := World.cell?_of_block (h _ hp)

/-- The slice v, of elements of sz cells each, reads in w as the cells xs; the array lies in a block of S. -/
def Sl (S : Nat → Prop) (w : World) (sz : Nat) (v : Value) (xs : List Value) : Prop :=
  ∃ ao n c, v = .slice ao n c ∧ xs.length = n * sz ∧ n ≤ c ∧ c ≤ maxLen ∧ (ao = none → c = 0) ∧
    (xs ≠ [] → ∃ b off, ao = some ⟨b, off, none⟩ ∧ S b ∧ ∀ j u, xs[j]? = some u → w.cell? ⟨b, off + j, none⟩ = some u)

theorem Sl.same {S : Nat → Prop} {w w' : World} {sz : Nat} {v : Value} {xs : List Value} (h : Sl S w sz v xs) (hs : Same S w w') : Sl S w' sz v xs := by
  obtain ⟨ao, n, c, rfl, h1, h2, h3, h4, h5⟩ := h
  refine ⟨ao, n, c, rfl, h1, h2, h3, h4, fun hne => ?_⟩
  obtain ⟨b, off, rfl, hb, hc⟩ := h5 hne
  exact ⟨b, off, rfl, hb, fun j u hu => (hs.cell (p := ⟨b, off + j, none⟩) hb).trans (hc j u hu)⟩

theorem Sl.mono {S T : Nat → Prop} {w : World} {sz : Nat} {v : Value} {xs : List Value} (h : Sl S w sz v xs) (hs : ∀ b, S b → T b) : Sl T w sz v xs := by
  obtain ⟨ao, n, c, rfl, h1, h2, h3, h4, h5⟩ := h
  refine ⟨ao, n, c, rfl, h1, h2, h3, h4, fun hne => ?_⟩
  obtain ⟨b, off, rfl, hb, hc⟩ := h5 hne
  exact ⟨b, off, rfl, hs b hb, hc⟩

theorem Sl.nil (S : Nat → Prop) (w : World) (sz : Nat) : Sl S w sz (.slice none 0 0) [] := ⟨none, 0, 0, rfl, by simp, Nat.le_refl _, Nat.zero_le _, fun _ => rfl, fun h => absurd rfl h⟩

/-- A new block of cells reads as a slice of them. -/
theorem Sl.made (w : World) (S : Nat → Prop) (sz n : Nat) (e : TypeId) (cs : Array Value) (hn : cs.size = n * sz) (hm : n ≤ maxLen) (hS : S w.heap.size) :
    Sl S (w.alloc (.cells cs e)) sz (.slice (some ⟨w.heap.size, 0, none⟩) n n) cs.toList := by
  refine ⟨_, n, n, rfl, by simpa using hn, Nat.le_refl _, hm, (fun h => by cases h), fun _ => ⟨w.heap.size, 0, rfl, hS, fun j u hu => ?_⟩⟩
  rw [cell_of_row _ w.heap.size (0 + j) cs e (0, 0) (heap_alloc_new w _)]
  simpa using hu

theorem Sl.take {S : Nat → Prop} {w : World} {sz : Nat} {ao : Option Addr} {n c : Nat} {xs : List Value} (h : Sl S w sz (.slice ao n c) xs) (k : Nat) (hk : k ≤ n) : Sl S w sz (.slice ao k c) (xs.take (k * sz)) := by
  obtain ⟨ao', n', c', hv, h1, h2, h3, h4, h5⟩ := h
  cases hv
  have hkn := Nat.mul_le_mul_right sz hk
  refine ⟨ao, k, c, rfl, by rw [List.length_take]; omega, by omega, h3, h4, fun hne => ?_⟩
  obtain ⟨b, off, rfl, hb, hc⟩ := h5 (fun e => hne (by simp [e]))
  refine ⟨b, off, rfl, hb, fun j u hu => hc j u ?_⟩
  rw [List.getElem?_take] at hu
  split at hu
  · exact hu
  · cases hu

/-- A slice's tail, of elements of one cell, as the walk writes it where the cut does not stand at the capacity's end. -/
theorem Sl.drop {S : Nat → Prop} {w : World} {ao : Option Addr} {n c : Nat} {xs : List Value} (h : Sl S w 1 (.slice ao n c) xs) (k : Nat) (hk : k ≤ n) :
    Sl S w 1 (.slice (Option.map (fun x => x.add k) ao) (n - k) (c - k)) (xs.drop k) := by
  obtain ⟨ao', n', c', hv, h1, h2, h3, h4, h5⟩ := h
  cases hv
  refine ⟨_, n - k, c - k, rfl, by rw [List.length_drop]; omega, by omega, by omega, fun h => ?_, fun hne => ?_⟩
  · have := h4 (by simpa using h); omega
  · obtain ⟨b, off, rfl, hb, hc⟩ := h5 (fun e => hne (by simp [e]))
    refine ⟨b, off + k, by simp [Addr.add_lit], hb, fun j u hu => ?_⟩
    rw [List.getElem?_drop] at hu
    rw [Nat.add_assoc]
    exact hc _ u hu

theorem Sl.len {S : Nat → Prop} {w : World} {sz : Nat} {v : Value} {xs : List Value} (h : Sl S w sz v xs) : ∃ ao n c, v = .slice ao n c ∧ xs.length = n * sz ∧ n ≤ c ∧ c ≤ 9223372036854775807 := by
  obtain ⟨ao', n', c', hv, h1, h2, h3, h4, h5⟩ := h
  exact ⟨ao', n', c', hv, h1, h2, by unfold maxLen at h3; omega⟩

/-- What may be appended to without writing into memory from before block B: a row of the call's own, or a slice that is full. -/
def App (w : World) (B : Nat) (e : TypeId) (sz : Nat) (v : Value) (xs : List Value) : Prop :=
  (∃ n, w.ownsRow B e sz v n xs) ∨
    (∃ ao n, v = .slice ao n n ∧ xs.length = n * sz ∧ n ≤ maxLen ∧ (ao = none → n = 0) ∧ (xs ≠ [] → ∃ b off, ao = some ⟨b, off, none⟩ ∧ b < B ∧ ∀ j u, xs[j]? = some u → w.cell? ⟨b, off + j, none⟩ = some u))

theorem App.nil (w : World) (B : Nat) (e : TypeId) (sz : Nat) : App w B e sz (.slice none 0 0) [] := .inl ⟨0, World.ownsRow_nil w B e sz⟩

theorem ownsRow_sl {w : World} {B : Nat} {e : TypeId} {sz : Nat} {v : Value} {n : Nat} {xs : List Value} (h : w.ownsRow B e sz v n xs) (S : Nat → Prop) (hS : ∀ g, v.ownBlock = some g → S g) :
    Sl S w sz v xs := by
  rcases h.2 with ⟨rfl, rfl⟩ | ⟨g, cap, cur, rfl, hb, hg, hnc, hcm, hcs, htake⟩
  · have : xs = [] := List.eq_nil_of_length_eq_zero (by simpa using h.1)
    subst this
    exact Sl.nil S w sz
  · refine ⟨_, n, cap, rfl, h.1, hnc, hcm, (fun h => by cases h), fun _ => ⟨g, 0, rfl, hS g rfl, fun j u hu => ?_⟩⟩
    have hj : j < n * sz := by rw [← h.1]; exact (List.getElem?_eq_some_iff.1 hu).1
    rw [Nat.zero_add, h.cellAt j hj]
    exact hu

/-- The block that an appendable value owns, if it owns one. -/
theorem App.sl {w : World} {B : Nat} {e : TypeId} {sz : Nat} {v : Value} {xs : List Value} (h : App w B e sz v xs) : Sl (· < w.heap.size) w sz v xs := by
  rcases h with ⟨n, h⟩ | ⟨ao, n, rfl, h1, h2, h3, h4⟩
  · exact ownsRow_sl h _ (fun g hg => (h.lt g hg).2)
  · refine ⟨ao, n, n, rfl, h1, Nat.le_refl _, h2, h3, fun hne => ?_⟩
    obtain ⟨b, off, rfl, hb, hc⟩ := h4 hne
    refine ⟨b, off, rfl, ?_, hc⟩
    obtain ⟨u, hu⟩ : ∃ u, xs[0]? = some u := by
      cases xs with
      | nil => exact absurd rfl hne
      | cons x _ => exact ⟨x, rfl⟩
    exact World.block_lt_of_cell? w _ (hc 0 u hu)

/-- A slice that is full may be appended to. -/
theorem App.full {w : World} {B : Nat} {e : TypeId} {sz : Nat} {ao : Option Addr} {n : Nat} {xs : List Value} (h : Sl (· < B) w sz (.slice ao n n) xs) : App w B e sz (.slice ao n n) xs := by
  obtain ⟨ao', n', c', hv, h1, h2, h3, h4, h5⟩ := h
  simp only [Value.slice.injEq] at hv
  obtain ⟨rfl, rfl, rfl⟩ := hv
  exact .inr ⟨ao, n, rfl, h1, h3, h4, h5⟩

/-- What is appendable stays so where the blocks that were there have not turned. -/
theorem App.below {w w' : World} {B : Nat} {e : TypeId} {sz : Nat} {v : Value} {xs : List Value} (h : App w B e sz v xs) (hb : Below w.heap.size w w') : App w' B e sz v xs := by
  rcases h with ⟨n, h⟩ | ⟨ao, n, rfl, h1, h2, h3, h4⟩
  · refine .inl ⟨n, h.1, ?_⟩
    rcases h.2 with hn | ⟨g, cap, cur, rfl, hbg, hg, r⟩
    · exact .inl hn
    · exact .inr ⟨g, cap, cur, rfl, hbg, (hb.block g (Array.getElem?_eq_some_iff.1 hg).1).trans hg, r⟩
  · refine .inr ⟨ao, n, rfl, h1, h2, h3, fun hne => ?_⟩
    obtain ⟨b, off, rfl, hbB, hc⟩ := h4 hne
    exact ⟨b, off, rfl, hbB, fun j u hu => (hb.cell (p := ⟨b, off + j, none⟩) (World.block_lt_of_cell? w _ (hc j u hu))).trans (hc j u hu)⟩

/-- THE LAW OF APPEND, for the walk: whatever may be appended to, whatever is appended. -/
theorem wpList_app {P : Program} {w : World} {ops : Array Oper} {rest : List Oper} {o : Oper} {a : Act} {Q : Exit → Act → World → Prop} {t e : TypeId} {size bytes : Nat} (E : ElemT P t e size bytes)
    (hg : o.guard = none) (s x : Operand) (hop : o.op = Op.call { callee := Callee.builtin Builtin.append, args := #[s, x], argTypes := #[t, t] })
    {B : Nat} {v : Value} {xs : List Value} (hs : a.eval s = v) (happ : App w B e size v xs) {S : Nat → Prop} {y : Value} {news : List Value} (hx : a.eval x = y) (hy : Sl S w size y news) (h1 : ∀ u ∈ news, u.oneCell' = true)
    (hlen : xs.length + news.length ≤ 9223372036854775807) (hbytes : (xs.length + news.length) * bytes ≤ 140737488355328) (hB : B ≤ w.heap.size)
    (K : ∀ v' w', App w' B e size v' (xs ++ news) → Below B w w' → w.grownBy w' v.ownBlock → wpList P ops Q rest (a.put o.dst v') w') : wpList P ops Q (o :: rest) a w := by
  obtain ⟨hund, ⟨i, z, hi, hz, h4, h5, h6⟩, hpos⟩ := E
  obtain ⟨yo, m, c, rfl, hym, hmc, hcm, hyn, hyc⟩ := hy
  have e1 : ∀ k l : Nat, k ≤ l * size → l * size ≤ k → l ≤ k := fun k l _ hb => Nat.le_trans (Nat.le_mul_of_pos_right l hpos) hb
  rcases happ with ⟨n, hown⟩ | ⟨ao, n, rfl, hxn, hnm, hnone, hxc⟩
  · have hnl : n ≤ xs.length := e1 _ _ (Nat.le_of_eq hown.1) (Nat.le_of_eq hown.1.symm)
    have hml : m ≤ news.length := e1 _ _ (Nat.le_of_eq hym) (Nat.le_of_eq hym.symm)
    have hb63 : n + m ≤ maxLen := by unfold maxLen; omega
    have hb47 : (n + m) * bytes ≤ 140737488355328 := Nat.le_trans (Nat.mul_le_mul_right _ (by omega)) hbytes
    have fin : ∀ v' w', w'.ownsRow B e size v' (n + m) (xs ++ news) → w.grownBy w' v.ownBlock → wpList P ops Q rest (a.put o.dst v') w' :=
      fun v' w' h h' => K v' w' (.inl ⟨_, h⟩) ((Below.refl B w).grown h' hB (fun k hk => (hown.lt k hk).1)) h'
    cases yo with
    | some ad =>
      refine wpList_append_own w hg s x t hop B e i z size bytes hund hi hz h4 h5 h6 hpos v n xs hs hown ad m c news hx hym (fun j u hu => ?_) h1 hb63 hb47 hB (fun v' w' h h' _ => fin v' w' h h')
      obtain ⟨b, off, hbo, _, hcc⟩ := hyc (fun e => by subst e; simp at hu)
      cases hbo
      rw [Addr.add_lit]
      exact hcc j u hu
    | none =>
      have hc0 := hyn rfl
      obtain rfl : m = 0 := by omega
      obtain rfl : c = 0 := hc0
      obtain rfl : news = [] := List.eq_nil_of_length_eq_zero (by simpa using hym)
      refine wpList_plain hg fun K' hK' => ?_
      have hrun := run_append_owned_none (P := P) w B t o.type e i size hund hi v n xs hown
      unfold Oper.wp
      simp [execOp, hop, resolve, invoke, builtin, hs, hx, hrun, Result.andThen]
      exact hK' _ _ (fin _ _ (by simpa using hown) ⟨rfl, rfl, rfl, Nat.le_refl _, fun _ _ _ => rfl⟩)
  · have hnl : n ≤ xs.length := e1 _ _ (Nat.le_of_eq hxn) (Nat.le_of_eq hxn.symm)
    have hml : m ≤ news.length := e1 _ _ (Nat.le_of_eq hym) (Nat.le_of_eq hym.symm)
    have hb63 : n + m ≤ maxLen := by unfold maxLen; omega
    have hb47 : (n + m) * bytes ≤ 140737488355328 := Nat.le_trans (Nat.mul_le_mul_right _ (by omega)) hbytes
    by_cases hm0 : m = 0
    · subst hm0
      obtain rfl : news = [] := List.eq_nil_of_length_eq_zero (by simpa using hym)
      refine wpList_plain hg fun K' hK' => ?_
      have hfin : K' (a.put o.dst (.slice ao n n)) w := hK' _ _ (K _ _ (.inr ⟨ao, n, rfl, by simpa using hxn, hnm, hnone, by simpa using hxc⟩) (Below.refl B w) ⟨rfl, rfl, rfl, Nat.le_refl _, fun _ _ _ => rfl⟩)
      have hrun : (Builtin.append_ #[t, t] o.type #[.slice ao n n, .slice yo 0 c]).run P w = .ok (.slice ao n n) w := by
        cases ao with
        | none =>
          obtain rfl := hnone rfl
          cases yo <;> simp [Builtin.append_, run_underlying hund, sizeOf, typeInfo, hi, Builtin.lenOf, Builtin.firstCells, loadCells, loadCellsFrom]
        | some ad =>
          cases yo <;> simp [Builtin.append_, run_underlying hund, sizeOf, typeInfo, hi, Builtin.lenOf, Builtin.firstCells, loadCells, loadCellsFrom, storeCells]
      unfold Oper.wp
      simp [execOp, hop, resolve, invoke, builtin, hs, hx, hrun, Result.andThen]
      exact hfin
    · have hne : news ≠ [] := by
        intro e
        subst e
        have := Nat.mul_pos (Nat.pos_of_ne_zero hm0) hpos
        simp at hym
        omega
      obtain ⟨b, off, rfl, _, hcc⟩ := hyc hne
      refine wpList_append_grows w hg s x t hop e i z size bytes hund hi hz h4 h5 h6 hpos ao n n xs hs (fun h => ⟨hnone h, hnone h⟩) hxn (fun ad had j u hu => ?_) ⟨b, off, none⟩ m c news hx hym (fun j u hu => by rw [Addr.add_lit]; exact hcc j u hu) h1 (by omega) hb63 hb47 (fun v' w' h h' => ?_)
      · obtain ⟨b', off', hbo, _, hc'⟩ := hxc (fun e => by subst e; simp at hu)
        rw [had] at hbo
        cases hbo
        rw [Addr.add_lit]
        exact hc' j u hu
      · refine K v' w' (.inl ⟨n + m, h.1, ?_⟩) ((Below.refl B w).grown h' hB (fun k hk => by cases hk)) ⟨h'.os, h'.tape, h'.output, h'.size, fun k hk _ => h'.block k hk (by simp)⟩
        rcases h.2 with hn | ⟨g, cap, cur, hv, hbg, r⟩
        · exact .inl hn
        · exact .inr ⟨g, cap, cur, hv, by omega, r⟩

theorem grownBy_of_alloc {w w' : World} {o : Obj} {row : Option Nat} (h : (w.alloc o).grownBy w' row) : w.grownBy w' row :=
  ⟨h.os, h.tape, h.output, Nat.le_trans (by simp) h.size, fun k hk hr => (h.block k (by simp; omega) hr).trans (Below.heap_alloc w o k hk)⟩

/-- The same where what is appended is a literal list of elements, which the program lays in a new block first. -/
theorem wpList_app_lit {P : Program} {w : World} {ops : Array Oper} {rest : List Oper} {o : Oper} {a : Act} {Q : Exit → Act → World → Prop} {t e : TypeId} {size bytes : Nat} (E : ElemT P t e size bytes)
    (hg : o.guard = none) (s x : Operand) (hop : o.op = Op.call { callee := Callee.builtin Builtin.append, args := #[s, x], argTypes := #[t, t] })
    {B : Nat} {v : Value} {xs : List Value} (hs : a.eval s = v) (happ : App w B e size v xs) {cs : Array Value} {m : Nat} (hx : a.eval x = .slice (some ⟨w.heap.size, 0, none⟩) m m) (hm : cs.size = m * size) (h1 : ∀ u ∈ cs.toList, u.oneCell' = true)
    (hlen : xs.length + cs.size ≤ 9223372036854775807) (hbytes : (xs.length + cs.size) * bytes ≤ 140737488355328) (hB : B ≤ w.heap.size)
    (K : ∀ v' w', App w' B e size v' (xs ++ cs.toList) → Below B w w' → w.grownBy w' v.ownBlock → wpList P ops Q rest (a.put o.dst v') w') : wpList P ops Q (o :: rest) a (w.alloc (.cells cs e)) := by
  have hmm : m ≤ cs.size := by rw [hm]; exact Nat.le_mul_of_pos_right m E.pos
  refine wpList_app E hg s x hop hs (happ.below ((Below.refl _ _).alloc (Nat.le_refl _) _)) hx (Sl.made w (fun _ => True) size m e cs hm (by unfold maxLen; omega) trivial) h1 (by simpa using hlen) (by simpa using hbytes) (by simp; omega) (fun v' w' h h' h'' => ?_)
  exact K v' w' h (((Below.refl B w).alloc hB _).trans h') (grownBy_of_alloc h'')

/-- A part of a slice, of elements of one cell: whatever the walk writes for its address where the cut stands at the capacity's end. -/
theorem Sl.window {S : Nat → Prop} {w : World} {ao ao' : Option Addr} {n c : Nat} {xs : List Value} (h : Sl S w 1 (.slice ao n c) xs) (lo hi : Nat) (h1 : lo ≤ hi) (h2 : hi ≤ n)
    (hao : ¬ c = lo → ao' = Option.map (fun x => x.add lo) ao) : Sl S w 1 (.slice ao' (hi - lo) (c - lo)) ((xs.drop lo).take (hi - lo)) := by
  have hlen := h.len
  obtain ⟨_, _, _, hv, hl, hnc, _⟩ := hlen
  cases hv
  by_cases hc : c = lo
  · have : hi - lo = 0 := by omega
    have e : c - lo = 0 := by omega
    rw [this, e, List.take_zero]
    exact ⟨ao', 0, 0, rfl, rfl, Nat.le_refl _, Nat.zero_le _, fun _ => rfl, fun h => absurd rfl h⟩
  · rw [hao hc]
    have := (h.drop lo (by omega)).take (hi - lo) (by omega)
    rwa [Nat.mul_one] at this

/-- The law of append where what is appended is a string's bytes. -/
theorem wpList_app_str {P : Program} {w : World} {ops : Array Oper} {rest : List Oper} {o : Oper} {a : Act} {Q : Exit → Act → World → Prop} {t e u : TypeId} (hund : P.underlying t = some (.slice e)) (hu : P.underlying u = some .string)
    (hinfo : (P.info? e).map (fun i => (i.zero, i.size, i.bytes)) = some (some (.int .u8 0), 1, 1))
    (hg : o.guard = none) (s x : Operand) (hop : o.op = Op.call { callee := Callee.builtin Builtin.append, args := #[s, x], argTypes := #[t, u] })
    {B : Nat} {v : Value} {xs : List Value} (hs : a.eval s = v) (happ : App w B e 1 v xs) {str : ByteArray} (hx : a.eval x = .string str)
    (hlen : xs.length + str.size ≤ 140737488355328) (hB : B ≤ w.heap.size)
    (K : ∀ v' w', App w' B e 1 v' (xs ++ Lib.strCells str) → Below B w w' → w.grownBy w' v.ownBlock → wpList P ops Q rest (a.put o.dst v') w') : wpList P ops Q (o :: rest) a w := by
  obtain ⟨i, hi, hz, h4, h5⟩ := info_parts hinfo
  have own : ∀ n, w.ownsRow B e 1 v n xs → wpList P ops Q (o :: rest) a w := fun n hown => by
    have hn : xs.length = n := by simpa using hown.1
    exact Lib.wpList_append_own_string w hg s x t u hop B e i hund hu hi hz h4 h5 v n xs hs hown str hx (by unfold maxLen; omega) (by omega) hB
      (fun v' w' h h' _ => K v' w' (.inl ⟨_, h⟩) ((Below.refl B w).grown h' hB (fun k hk => (hown.lt k hk).1)) h')
  rcases happ with ⟨n, hown⟩ | ⟨ao, n, rfl, hxn, hnm, hnone, hxc⟩
  · exact own n hown
  · rw [Nat.mul_one] at hxn
    cases ao with
    | none =>
      obtain rfl := hnone rfl
      obtain rfl : xs = [] := List.eq_nil_of_length_eq_zero hxn
      exact own 0 (World.ownsRow_nil w B e 1)
    | some b0 =>
      by_cases hsz : str.size = 0
      · have he : Lib.strCells str = [] := List.eq_nil_of_length_eq_zero (by rw [Lib.strCells_length]; exact hsz)
        refine wpList_plain hg fun K' hK' => ?_
        have hfin : K' (a.put o.dst (.slice (some b0) n n)) w := hK' _ _ (K _ _ (.inr ⟨some b0, n, rfl, by simpa [he] using hxn, hnm, hnone, by simpa [he] using hxc⟩) (Below.refl B w) ⟨rfl, rfl, rfl, Nat.le_refl _, fun _ _ _ => rfl⟩)
        have hf := Lib.run_firstCells_string (P := P) w 1 str
        rw [hsz, he] at hf
        have hrun : (Builtin.append_ #[t, u] o.type #[.slice (some b0) n n, .string str]).run P w = .ok (.slice (some b0) n n) w := by
          simp [Builtin.append_, run_underlying hund, run_underlying hu, sizeOf, typeInfo, hi, h4, Builtin.lenOf, hsz, hf, storeCells]
        unfold Oper.wp
        simp [execOp, hop, resolve, invoke, builtin, hs, hx, hrun, Result.andThen]
        exact hfin
      · have holds : ∀ j u, xs[j]? = some u → w.cell? (b0.add j) = some u := fun j u hu => by
          obtain ⟨b, off, hbo, _, hc⟩ := hxc (fun e => by subst e; simp at hu)
          cases hbo
          rw [Addr.add_lit]
          exact hc j u hu
        have hr := Lib.run_append_grow_string (P := P) w t u o.type e i (.int .u8 0) hund hu hi hz b0 n n xs (by rw [h4]; omega) holds str (by omega) (by omega) (by rw [h5]; exact growslice_fits (by omega) (by omega))
        refine wpList_plain hg fun K' hK' => ?_
        unfold Oper.wp
        simp [execOp, hop, resolve, invoke, builtin, hs, hx, hr, Result.andThen]
        refine hK' _ _ (K _ _ (.inl ⟨n + str.size, ?_, .inr ⟨w.heap.size, _, _, rfl, hB, heap_alloc_new w.drew _, grownCap_ge w (n + str.size) n e, grownCap_le_maxLen w (n + str.size) n e (by unfold maxLen; omega), ?_, ?_⟩⟩)
          (((Below.refl B w).drew).alloc hB _) ⟨rfl, rfl, rfl, by simp, fun k hk _ => Below.heap_alloc w.drew _ k hk⟩)
        · rw [List.length_append, Lib.strCells_length, Nat.mul_one, hxn]
        · have hge := grownCap_ge w (n + str.size) n e
          have hz1 : (Value.int IntKind.u8 0).cells.size = 1 := rfl
          simp only [Array.size_append, List.size_toArray, size_zeroCells, hz1, List.length_append, hxn, Lib.strCells_length]
          omega
        · simp only [Array.toList_append, List.append_assoc]
          rw [← List.append_assoc, show (n + str.size) * 1 = (xs ++ Lib.strCells str).length from by rw [List.length_append, Lib.strCells_length, hxn, Nat.mul_one]]
          exact List.take_left

end Go.Proofs.YtmmeofiocbfamaaGreatDoor
