/- Lemmas for the claim, no condition. -/
import Derived.Test.YtipddhcfcehcaaaProg
import Derived.WalkKit
import Derived.WalkSpells
import Derived.WalkLawsBesides
import Derived.Lib.Hide
import Derived.Lib.AppendStr
import Derived.Sort.Grow
import Derived.Deep.Draws
import Derived.Sort.Walk0
import Derived.Deep.RegionHeld
namespace Go.Proofs.Ytipddhcfcehcaaa
open Go Go.RowKit

/-- What an element type's row of the table says. -/
structure ElemT (P : Program) (t e : TypeId) (size bytes : Nat) : Prop where
  und : P.underlying t = some (.slice e)
  row : ∃ i z, P.info? e = some i ∧ i.zero = some z ∧ i.size = size ∧ i.bytes = bytes ∧ z.cells.size = size
  pos : 0 < size

theorem ElemT.mk' {P : Program} {t e : TypeId} {z : Value} {size bytes : Nat} (h1 : P.underlying t = some (.slice e))
    (h2 : (P.info? e).map (fun i => (i.zero, i.size, i.bytes)) = some (some z, size, bytes)) (h3 : z.cells.size = size) (h4 : 0 < size) : ElemT P t e size bytes := by
  obtain ⟨i, a, b, c, d⟩ := info_parts h2
  exact ⟨h1, ⟨i, z, a, b, c, d, h3⟩, h4⟩

/-- The worlds agree on the blocks of S. -/
def Same (S : Nat → Prop) (w w' : World) : Prop := ∀ b, S b → w'.heap[b]? = w.heap[b]?

theorem Same.refl (S : Nat → Prop) (w : World) : Same S w w := fun _ _ => rfl
theorem Same.trans {S : Nat → Prop} {a b c : World} (h : Same S a b) (k : Same S b c) : Same S a c := fun x hx => (k x hx).trans (h x hx)
theorem Same.mono {S T : Nat → Prop} {a b : World} (h : Same S a b) (k : ∀ x, T x → S x) : Same T a b := fun x hx => h x (k x hx)
theorem Same.below {B : Nat} {a b : World} (h : Below B a b) : Same (· < B) a b := fun x hx => h.block x hx
theorem Same.cell {S : Nat → Prop} {a b : World} (h : Same S a b) {p : Addr} (hp : S p.block) : b.cell? p = a.cell? p := World.cell?_of_block (h _ hp)

/-- The slice v, of elements of sz cells each, reads in w as the cells xs; the array lies in a block of S. -/
def Sl (S : Nat → Prop) (w : World) (sz : Nat) (v : Value) (xs : List Value) : Prop :=
  ∃ ao n c, v = .slice ao n c ∧ xs.length = n * sz ∧ n ≤ c ∧ c ≤ maxLen ∧ (ao = none → c = 0) ∧
    (xs ≠ [] → ∃ b off, ao = some ⟨b, off, none⟩ ∧ S b ∧ ∀ j u, xs[j]? = some u → w.cell? ⟨b, off + j, none⟩ = some u)

theorem Sl.same {S : Nat → Prop} {w w' : World} {sz : Nat} {v : Value} {xs : List Value} (h : Sl S w sz v xs) (hs : Same S w w') : Sl S w' sz v xs := by
  obtain ⟨ao, n, c, rfl, h1, h2, h3, h4, h5⟩ := h
  refine ⟨ao, n, c, rfl, h1, h2, h3, h4, fun hne => ?_⟩
  obtain ⟨b, off, rfl, hb, hc⟩ := h5 hne
  exact ⟨b, off, rfl, hb, fun j u hu => (hs.cell (p := ⟨b, off + j, none⟩) hb).trans (hc j u hu)⟩

theorem Sl.mono {S T : Nat → Prop} {w : World} {sz : Nat} {v : Value} {xs : List Value} (h : Sl S w sz v xs) (hs : ∀ b, S b → T b) : Sl T w sz v xs := by
  obtain ⟨ao, n, c, rfl, h1, h2, h3, h4, h5⟩ := h
  refine ⟨ao, n, c, rfl, h1, h2, h3, h4, fun hne => ?_⟩
  obtain ⟨b, off, rfl, hb, hc⟩ := h5 hne
  exact ⟨b, off, rfl, hs b hb, hc⟩

theorem Sl.nil (S : Nat → Prop) (w : World) (sz : Nat) : Sl S w sz (.slice none 0 0) [] := ⟨none, 0, 0, rfl, by simp, Nat.le_refl _, Nat.zero_le _, fun _ => rfl, fun h => absurd rfl h⟩

/-- A new block of cells reads as a slice of them. -/
theorem Sl.made (w : World) (S : Nat → Prop) (sz n : Nat) (e : TypeId) (cs : Array Value) (hn : cs.size = n * sz) (hm : n ≤ maxLen) (hS : S w.heap.size) :
    Sl S (w.alloc (.cells cs e)) sz (.slice (some ⟨w.heap.size, 0, none⟩) n n) cs.toList := by
  refine ⟨_, n, n, rfl, by simpa using hn, Nat.le_refl _, hm, (fun h => by cases h), fun _ => ⟨w.heap.size, 0, rfl, hS, fun j u hu => ?_⟩⟩
  rw [cell_of_row _ w.heap.size (0 + j) cs e (0, 0) (heap_alloc_new w _)]
  simpa using hu

theorem Sl.take {S : Nat → Prop} {w : World} {sz : Nat} {ao : Option Addr} {n c : Nat} {xs : List Value} (h : Sl S w sz (.slice ao n c) xs) (k : Nat) (hk : k ≤ n) : Sl S w sz (.slice ao k c) (xs.take (k * sz)) := by
  obtain ⟨ao', n', c', hv, h1, h2, h3, h4, h5⟩ := h
  cases hv
  have hkn := Nat.mul_le_mul_right sz hk
  refine ⟨ao, k, c, rfl, by rw [List.length_take]; omega, by omega, h3, h4, fun hne => ?_⟩
  obtain ⟨b, off, rfl, hb, hc⟩ := h5 (fun e => hne (by simp [e]))
  refine ⟨b, off, rfl, hb, fun j u hu => hc j u ?_⟩
  rw [List.getElem?_take] at hu
  split at hu
  · exact hu
  · cases hu

/-- A slice's tail, of elements of one cell, as the walk writes it where the cut does not stand at the capacity's end. -/
theorem Sl.drop {S : Nat → Prop} {w : World} {ao : Option Addr} {n c : Nat} {xs : List Value} (h : Sl S w 1 (.slice ao n c) xs) (k : Nat) (hk : k ≤ n) :
    Sl S w 1 (.slice (Option.map (fun x => x.add k) ao) (n - k) (c - k)) (xs.drop k) := by
  obtain ⟨ao', n', c', hv, h1, h2, h3, h4, h5⟩ := h
  cases hv
  refine ⟨_, n - k, c - k, rfl, by rw [List.length_drop]; omega, by omega, by omega, fun h => ?_, fun hne => ?_⟩
  · have := h4 (by simpa using h); omega
  · obtain ⟨b, off, rfl, hb, hc⟩ := h5 (fun e => hne (by simp [e]))
    refine ⟨b, off + k, by simp [Addr.add_lit], hb, fun j u hu => ?_⟩
    rw [List.getElem?_drop] at hu
    rw [Nat.add_assoc]
    exact hc _ u hu

theorem Sl.len {S : Nat → Prop} {w : World} {sz : Nat} {v : Value} {xs : List Value} (h : Sl S w sz v xs) : ∃ ao n c, v = .slice ao n c ∧ xs.length = n * sz ∧ n ≤ c ∧ c ≤ 9223372036854775807 := by
  obtain ⟨ao', n', c', hv, h1, h2, h3, h4, h5⟩ := h
  exact ⟨ao', n', c', hv, h1, h2, by unfold maxLen at h3; omega⟩

/-- What may be appended to without writing into memory from before block B: a row of the call's own, or a slice that is full. -/
def App (w : World) (B : Nat) (e : TypeId) (sz : Nat) (v : Value) (xs : List Value) : Prop :=
  (∃ n, w.ownsRow B e sz v n xs) ∨
    (∃ ao n, v = .slice ao n n ∧ xs.length = n * sz ∧ n ≤ maxLen ∧ (ao = none → n = 0) ∧ (xs ≠ [] → ∃ b off, ao = some ⟨b, off, none⟩ ∧ b < B ∧ ∀ j u, xs[j]? = some u → w.cell? ⟨b, off + j, none⟩ = some u))

theorem App.nil (w : World) (B : Nat) (e : TypeId) (sz : Nat) : App w B e sz (.slice none 0 0) [] := .inl ⟨0, World.ownsRow_nil w B e sz⟩

theorem ownsRow_sl {w : World} {B : Nat} {e : TypeId} {sz : Nat} {v : Value} {n : Nat} {xs : List Value} (h : w.ownsRow B e sz v n xs) (S : Nat → Prop) (hS : ∀ g, v.ownBlock = some g → S g) :
    Sl S w sz v xs := by
  rcases h.2 with ⟨rfl, rfl⟩ | ⟨g, cap, cur, rfl, hb, hg, hnc, hcm, hcs, htake⟩
  · have : xs = [] := List.eq_nil_of_length_eq_zero (by simpa using h.1)
    subst this
    exact Sl.nil S w sz
  · refine ⟨_, n, cap, rfl, h.1, hnc, hcm, (fun h => by cases h), fun _ => ⟨g, 0, rfl, hS g rfl, fun j u hu => ?_⟩⟩
    have hj : j < n * sz := by rw [← h.1]; exact (List.getElem?_eq_some_iff.1 hu).1
    rw [Nat.zero_add, h.cellAt j hj]
    exact hu

/-- The block that an appendable value owns, if it owns one. -/
theorem App.sl {w : World} {B : Nat} {e : TypeId} {sz : Nat} {v : Value} {xs : List Value} (h : App w B e sz v xs) : Sl (· < w.heap.size) w sz v xs := by
  rcases h with ⟨n, h⟩ | ⟨ao, n, rfl, h1, h2, h3, h4⟩
  · exact ownsRow_sl h _ (fun g hg => (h.lt g hg).2)
  · refine ⟨ao, n, n, rfl, h1, Nat.le_refl _, h2, h3, fun hne => ?_⟩
    obtain ⟨b, off, rfl, hb, hc⟩ := h4 hne
    refine ⟨b, off, rfl, ?_, hc⟩
    obtain ⟨u, hu⟩ : ∃ u, xs[0]? = some u := by
      cases xs with
      | nil => exact absurd rfl hne
      | cons x _ => exact ⟨x, rfl⟩
    exact World.block_lt_of_cell? w _ (hc 0 u hu)

/-- What is appendable stays so where the blocks that were there have not turned. -/
theorem App.below {w w' : World} {B : Nat} {e : TypeId} {sz : Nat} {v : Value} {xs : List Value} (h : App w B e sz v xs) (hb : Below w.heap.size w w') : App w' B e sz v xs := by
  rcases h with ⟨n, h⟩ | ⟨ao, n, rfl, h1, h2, h3, h4⟩
  · refine .inl ⟨n, h.1, ?_⟩
    rcases h.2 with hn | ⟨g, cap, cur, rfl, hbg, hg, r⟩
    · exact .inl hn
    · exact .inr ⟨g, cap, cur, rfl, hbg, (hb.block g (Array.getElem?_eq_some_iff.1 hg).1).trans hg, r⟩
  · refine .inr ⟨ao, n, rfl, h1, h2, h3, fun hne => ?_⟩
    obtain ⟨b, off, rfl, hbB, hc⟩ := h4 hne
    exact ⟨b, off, rfl, hbB, fun j u hu => (hb.cell (p := ⟨b, off + j, none⟩) (World.block_lt_of_cell? w _ (hc j u hu))).trans (hc j u hu)⟩

theorem grownBy_of_alloc {w w' : World} {o : Obj} {row : Option Nat} (h : (w.alloc o).grownBy w' row) : w.grownBy w' row :=
  ⟨h.os, h.tape, h.output, Nat.le_trans (by simp) h.size, fun k hk hr => (h.block k (by simp; omega) hr).trans (Below.heap_alloc w o k hk)⟩

/-- A part of a slice, of elements of one cell: whatever the walk writes for its address where the cut stands at the capacity's end. -/
theorem Sl.window {S : Nat → Prop} {w : World} {ao ao' : Option Addr} {n c : Nat} {xs : List Value} (h : Sl S w 1 (.slice ao n c) xs) (lo hi : Nat) (h1 : lo ≤ hi) (h2 : hi ≤ n)
    (hao : ¬ c = lo → ao' = Option.map (fun x => x.add lo) ao) : Sl S w 1 (.slice ao' (hi - lo) (c - lo)) ((xs.drop lo).take (hi - lo)) := by
  have hlen := h.len
  obtain ⟨_, _, _, hv, hl, hnc, _⟩ := hlen
  cases hv
  by_cases hc : c = lo
  · have : hi - lo = 0 := by omega
    have e : c - lo = 0 := by omega
    rw [this, e, List.take_zero]
    exact ⟨ao', 0, 0, rfl, rfl, Nat.le_refl _, Nat.zero_le _, fun _ => rfl, fun h => absurd rfl h⟩
  · rw [hao hc]
    have := (h.drop lo (by omega)).take (hi - lo) (by omega)
    rwa [Nat.mul_one] at this

end Go.Proofs.Ytipddhcfcehcaaa
namespace Go.Proofs.Ytipddhcfcehcaaa
open Go Go.RowKit

/-- Block B holds just these cells, none frozen. -/
def Blk (w : World) (B : Nat) (cs : Array Value) (e : TypeId) : Prop := w.heap[B]? = some (.cells cs e (0, 0))

section
variable {w W : World} {B : Nat} {cs : Array Value} {e : TypeId}
theorem Blk.made (w : World) (cs : Array Value) (e : TypeId) : Blk (w.alloc (.cells cs e)) w.heap.size cs e := heap_alloc_new w _
theorem Blk.made' {w : World} {B : Nat} (h : w.heap.size = B) (cs : Array Value) (e : TypeId) : Blk (w.alloc (.cells cs e)) B cs e := h ▸ Blk.made w cs e
theorem Blk.lt (h : Blk w B cs e) : B < w.heap.size := (Array.getElem?_eq_some_iff.1 h).1
theorem Blk.same {S : Nat → Prop} (h : Blk w B cs e) (hs : Same S w W) (hB : S B) : Blk W B cs e := (hs B hB).trans h
theorem Blk.below (h : Blk w B cs e) (hb : Below w.heap.size w W) : Blk W B cs e := (hb.block B h.lt).trans h
theorem Blk.alloc (h : Blk w B cs e) (o : Obj) : Blk (w.alloc o) B cs e := (Below.heap_alloc w o B h.lt).trans h
theorem Blk.drew (h : Blk w B cs e) : Blk w.drew B cs e := h
theorem Blk.cells (h : Blk w B cs e) : ∀ i, w.cell? ⟨B, i, none⟩ = cs[i]? := fun i => cell_of_row w B i cs e (0, 0) h
theorem Blk.free (h : Blk w B cs e) : ∀ i, w.frozen? ⟨B, i, none⟩ = false := fun i => frozen_of_row w B i cs e h
theorem Blk.set (h : Blk w B cs e) (i : Nat) (v : Value) : Blk (w.setCell ⟨B, i, none⟩ v) B (cs.setIfInBounds i v) e := heap_setCell_same w B i cs e v h
theorem Blk.other (h : Blk w B cs e) {a : Addr} (ha : B ≠ a.block) (v : Value) : Blk (w.setCell a v) B cs e := (Below.heap_setCell w a v B ha).trans h
end

theorem setAt {B i : Nat} {w w' : World} {v : Value} (h : Below B w w') : Below B w (w'.setCell ⟨B, i, none⟩ v) := h.setCell (Nat.le_refl B) v

end Go.Proofs.Ytipddhcfcehcaaa
namespace Go.Proofs.Ytipddhcfcehcaaa
open Go Go.RowKit

/-- What lies in K has not turned. -/
structure Kept (K : Nat → Prop) (w w' : World) : Prop where
  os : w'.os = w.os
  tape : w'.tape = w.tape
  output : w'.output = w.output
  size : w.heap.size ≤ w'.heap.size
  block : ∀ b, K b → w'.heap[b]? = w.heap[b]?

section
variable {K : Nat → Prop} {w w' w'' : World} {B : Nat}
theorem Kept.refl (K : Nat → Prop) (w : World) : Kept K w w := ⟨rfl, rfl, rfl, Nat.le_refl _, fun _ _ => rfl⟩
theorem Kept.trans (h : Kept K w w') (k : Kept K w' w'') : Kept K w w'' :=
  ⟨k.os.trans h.os, k.tape.trans h.tape, k.output.trans h.output, Nat.le_trans h.size k.size, fun b hb => (k.block b hb).trans (h.block b hb)⟩
theorem Kept.mono {J : Nat → Prop} (h : Kept K w w') (hj : ∀ b, J b → K b) : Kept J w w' := ⟨h.os, h.tape, h.output, h.size, fun b hb => h.block b (hj b hb)⟩
theorem Below.kept (h : Below B w w') (hk : ∀ b, K b → b < B) : Kept K w w' := ⟨h.os, h.tape, h.output, h.size, fun b hb => h.block b (hk b hb)⟩
theorem Kept.below (h : Kept K w w') (hk : ∀ b, b < B → K b) : Below B w w' := ⟨h.os, h.tape, h.output, h.size, fun b hb => h.block b (hk b hb)⟩
theorem Kept.alloc (h : Kept K w w') (hk : ∀ b, K b → b < w'.heap.size) (o : Obj) : Kept K w (w'.alloc o) := h.trans (Below.kept ((Below.refl _ _).alloc (Nat.le_refl _) o) hk)
theorem Kept.set (h : Kept K w w') {a : Addr} (ha : ¬ K a.block) (v : Value) : Kept K w (w'.setCell a v) :=
  h.trans ⟨rfl, rfl, rfl, Nat.le_of_eq (by simp), fun b hb => Below.heap_setCell w' a v b (fun e => ha (e ▸ hb))⟩
theorem Kept.drew (h : Kept K w w') : Kept K w w'.drew := ⟨h.os, h.tape, h.output, h.size, h.block⟩
theorem Kept.drewN (h : Kept K w w') (n : Nat) : Kept K w (w'.drewN n) := ⟨h.os, h.tape, h.output, h.size, h.block⟩
theorem Blk.drewN {cs : Array Value} {e : TypeId} (h : Blk w B cs e) (n : Nat) : Blk (w.drewN n) B cs e := h
theorem Blk.set_to {cs cs' : Array Value} {e : TypeId} (h : Blk w B cs e) (i : Nat) (v : Value) (he : cs.setIfInBounds i v = cs') : Blk (w.setCell ⟨B, i, none⟩ v) B cs' e := he ▸ h.set i v
theorem Kept.blk (h : Kept K w w') {cs : Array Value} {e : TypeId} (hB : Blk w B cs e) (hk : K B) : Blk w' B cs e := (h.block B hk).trans hB
end

end Go.Proofs.Ytipddhcfcehcaaa
namespace Go.Proofs.Ytipddhcfcehcaaa
open Go Go.RowKit

theorem flat_length {α : Type} {enc : α → List Value} {sz : Nat} (hk : ∀ a, (enc a).length = sz) : ∀ l : List α, (l.flatMap enc).length = l.length * sz
  | [] => by simp
  | a :: l => by rw [List.flatMap_cons, List.length_append, flat_length hk l, hk, List.length_cons, Nat.add_mul, Nat.one_mul, Nat.add_comm]
theorem flat_get {α : Type} {enc : α → List Value} {sz : Nat} (hk : ∀ a, (enc a).length = sz) : ∀ (l : List α) (i : Nat) (h : i < l.length) (j : Nat), j < sz → (l.flatMap enc)[i * sz + j]? = (enc l[i])[j]?
  | a :: l, 0, _, j, hj => by rw [List.flatMap_cons, Nat.zero_mul, Nat.zero_add, List.getElem?_append_left (by rw [hk]; exact hj)]; rfl
  | a :: l, i + 1, h, j, hj => by
    rw [List.flatMap_cons, List.getElem?_append_right (by rw [hk, Nat.add_mul]; omega), hk, show (i + 1) * sz + j - sz = i * sz + j from by rw [Nat.add_mul]; omega]
    exact flat_get hk l i (by simpa using h) j hj

theorem Sl.rows {α : Type} {enc : α → List Value} {sz : Nat} (hk : ∀ a, (enc a).length = sz) (hpos : 0 < sz) {S : Nat → Prop} {w : World} {v : Value} {l : List α} (h : Sl S w sz v (l.flatMap enc)) :
    ∃ ao c, v = .slice ao l.length c ∧ l.length ≤ c ∧ c ≤ 9223372036854775807 ∧
      (0 < l.length → ∃ b off, ao = some ⟨b, off, none⟩ ∧ S b ∧ ∀ i (hi : i < l.length) (j : Nat) u, (enc l[i])[j]? = some u → w.cell? ⟨b, off + i * sz + j, none⟩ = some u) := by
  obtain ⟨ao, n, c, rfl, h1, h2, h3, h4, h5⟩ := h
  rw [flat_length hk] at h1
  obtain rfl : l.length = n := Nat.eq_of_mul_eq_mul_right hpos h1
  refine ⟨ao, c, rfl, h2, by unfold maxLen at h3; omega, fun hl => ?_⟩
  obtain ⟨b, off, rfl, hb, hc⟩ := h5 (fun e => by
    have := congrArg List.length e
    rw [flat_length hk, List.length_nil] at this
    have := Nat.mul_pos hl hpos
    omega)
  refine ⟨b, off, rfl, hb, fun i hi j u hu => ?_⟩
  rw [Nat.add_assoc]
  refine hc (i * sz + j) u ?_
  rw [flat_get hk l i hi j (by rw [← hk l[i]]; exact (List.getElem?_eq_some_iff.1 hu).1)]
  exact hu

theorem upto_succ {n i : Nat} {p : (j : Nat) → j < n → Prop} (h : ∀ j (hj : j < n), j < i → p j hj) (hi : i < n) (hp : p i hi) : ∀ j (hj : j < n), j < i + 1 → p j hj :=
  fun j hj hl => (Nat.lt_succ_iff_lt_or_eq.1 hl).elim (fun e => h j hj e) (fun e => by subst e; exact hp)

theorem ba_beq' {a b : ByteArray} (h : a ≠ b) : (a.data.toList == b.data.toList) = false := by
  rw [beq_eq_false_iff_ne]
  exact fun e => h (ByteArray.ext (by rw [← Array.toList_inj]; exact e))

/-- The world has drawn and has new blocks, no more. -/
def Gr (w w' : World) : Prop := ∃ q os, w' = Sort.grow (w.drewN q) os
theorem Gr.refl (w : World) : Gr w w := ⟨0, #[], by simp [Sort.grow, World.drewN]⟩
theorem Gr.alloc {w w' : World} (h : Gr w w') (o : Obj) : Gr w (w'.alloc o) := by
  obtain ⟨q, os, rfl⟩ := h
  exact ⟨q, os ++ #[o], by rw [Sort.alloc_eq_grow, Sort.grow_grow]⟩
theorem Gr.drew {w w' : World} (h : Gr w w') : Gr w w'.drew := by
  obtain ⟨q, os, rfl⟩ := h
  exact ⟨q + 1, os, rfl⟩
theorem Gr.below {w w' : World} (h : Gr w w') : Below w.heap.size w w' := by
  obtain ⟨q, os, rfl⟩ := h
  exact ⟨rfl, rfl, rfl, by simp [Sort.grow, World.drewN], fun k hk => by simp [Sort.grow, World.drewN, Array.getElem?_append, hk]⟩
theorem Sl.up {w w' : World} {sz : Nat} {v : Value} {xs : List Value} (h : Sl (· < w.heap.size) w sz v xs) (hb : Below w.heap.size w w') : Sl (· < w'.heap.size) w' sz v xs :=
  (h.same (Same.below hb)).mono fun _ hx => Nat.lt_of_lt_of_le hx hb.size

end Go.Proofs.Ytipddhcfcehcaaa
namespace Go.Proofs.Ytipddhcfcehcaaa
open Go Go.RowKit

/-- Is a text less than another? -/
def ltS (a b : ByteArray) : Bool := Op.bytesLess a.toList b.toList
theorem ltS_iff (a b : ByteArray) : ltS a b = decide (a.data.toList < b.data.toList) := by
  unfold ltS
  rw [ByteArray.toList_eq, ByteArray.toList_eq]
  exact bytesLess_eq _ _
theorem ltS_irr (a : ByteArray) : ltS a a = false := by
  rw [ltS_iff]; simp [List.lt_irrefl]
theorem ltS_trans {a b c : ByteArray} (h : ltS a b = true) (k : ltS b c = true) : ltS a c = true := by
  rw [ltS_iff] at *
  simp only [decide_eq_true_eq] at *
  exact List.lt_trans h k
theorem ltS_total {a b : ByteArray} (h : ltS a b = false) (hne : a ≠ b) : ltS b a = true := by
  rw [ltS_iff] at *
  simp only [decide_eq_true_eq, decide_eq_false_iff_not] at *
  have h1 : b.data.toList ≤ a.data.toList := List.not_lt.1 h
  rcases List.le_iff_lt_or_eq.1 h1 with h2 | h2
  · exact h2
  · exact absurd (ByteArray.ext (by rw [← Array.toList_inj]; exact h2.symm)) hne
theorem ba_beq {a b : ByteArray} (h : a ≠ b) : (a.data.toList == b.data.toList) = false := by
  rw [beq_eq_false_iff_ne]
  exact fun e => h (ByteArray.ext (by rw [← Array.toList_inj]; exact e))

def cmpS (a b : ByteArray) : Int := if ltS a b then -1 else if a = b then 0 else 1
theorem cmpS_zero (a b : ByteArray) : cmpS a b = 0 ↔ a = b := by
  unfold cmpS
  by_cases h : a = b
  · subst h; simp [ltS_irr]
  · cases ltS a b <;> simp [h]
theorem cmpS_neg (a b : ByteArray) : cmpS a b < 0 ↔ ltS a b = true := by
  unfold cmpS
  cases h : ltS a b with
  | true => simp
  | false => by_cases e : a = b <;> simp [e]

set_option maxHeartbeats 400000 in
theorem cmpS_any (a b : ByteArray) (w : World) : Calls Try.prog 67 #[.string a, .string b] w fun e w' => e = .returned (.int .i64 (cmpS a b)) ∧ w = w' := by
  by_cases hl : ltS a b = true
  · have HC := Lib.hid (show cmpS a b = -1 from by simp [cmpS, hl])
    unfold ltS at hl
    go_enter Try.func67, Try.ntmps67
    go_wp2
    go_ret
    exact ⟨by rw [HC.out]; rfl, rfl⟩
  · have hl : ltS a b = false := by simpa using hl
    by_cases he : a = b
    · subst he
      have HC := Lib.hid (show cmpS a a = 0 from by simp [cmpS, hl])
      have h1 : Op.bytesLess a.toList a.toList = false := hl
      clear hl
      go_enter Try.func67, Try.ntmps67
      go_wp2
      go_ret
      exact ⟨by rw [HC.out]; rfl, rfl⟩
    · have HC := Lib.hid (show cmpS a b = 1 from by simp [cmpS, hl, he])
      have h1 : Op.bytesLess a.toList b.toList = false := hl
      have h2 := ba_beq he
      rw [← ByteArray.toList_eq, ← ByteArray.toList_eq] at h2
      clear hl he
      go_enter Try.func67, Try.ntmps67
      go_wp2
      go_ret
      exact ⟨by rw [HC.out]; rfl, rfl⟩

/-- The first that is not 0. -/
def orL : List Int → Int
  | [] => 0
  | a :: l => if a = 0 then orL l else a
theorem orL_drop {l : List Int} : ∀ {i : Nat}, (∀ j (hj : j < l.length), j < i → l[j] = 0) → orL l = orL (l.drop i) := by
  induction l with
  | nil => intro i _; simp [orL]
  | cons a l ih =>
    intro i h
    cases i with
    | zero => rfl
    | succ i =>
      have h0 := h 0 (by simp) (by omega)
      simp only [List.getElem_cons_zero] at h0
      rw [orL, if_pos h0, List.drop_succ_cons]
      refine ih fun j hj hji => ?_
      have h1 := h (j + 1) (by simpa using hj) (by omega)
      rwa [List.getElem_cons_succ] at h1

/-- Numbers as cells. -/
def icL (l : List Int) : List Value := l.map fun n => .int .i64 n

set_option maxRecDepth 100000 in
set_option maxHeartbeats 800000 in
theorem orL_any (v : Value) (l : List Int) (w : World) (S : Nat → Prop) (h : Sl S w 1 v (icL l)) :
    Calls Try.prog 66 #[v] w fun e w' => e = .returned (.int .i64 (orL l)) ∧ w = w' := by
  obtain ⟨ao, n, c, rfl, h1, hnc, hcm, _, hc⟩ := h
  have hn : l.length = n := by simpa [icL] using h1
  subst hn
  have hcm' : c ≤ 9223372036854775807 := by unfold maxLen at hcm; omega
  have HC := Lib.hid hc
  clear hc h1 hcm
  go_enter Try.func66, Try.ntmps66
  go_wp2
  go_loop [8] (fun ii => ∃ i : Nat, i ≤ l.length ∧ ii = .int .i64 i ∧ ∀ j (hj : j < l.length), j < i → l[j] = 0) (fun ii => l.length - (intOf ii).toNat)
  case atStart => exact ⟨0, by omega, rfl, fun _ _ h => absurd h (by omega)⟩
  case round =>
    obtain ⟨i, hi, rfl, hall⟩ := hrel
    have HALL := Lib.hid hall
    clear hall
    by_cases hlt : i < l.length
    · obtain ⟨b, off, rfl, -, hcc⟩ := HC.out (by intro e; have := congrArg List.length e; simp [icL] at this; subst this; simp at hlt)
      have hci := hcc i (.int .i64 l[i]) (by simp [icL, hlt])
      have HD := Lib.hid (show orL l = orL (l[i] :: l.drop (i + 1)) from by rw [orL_drop HALL.out, List.drop_eq_getElem_cons hlt])
      have HN := Lib.hid (fun h => upto_succ (p := fun j hj => l[j] = 0) HALL.out hlt h)
      clear hcc
      generalize l[i] = a at *
      by_cases ha : a = 0
      · subst ha
        have HN2 := Lib.hid (HN.out rfl)
        clear HN
        go_wp2
        go_round
        case rel => exact ⟨i + 1, by omega, by go_num, HN2.out⟩
        case measure => simp [intOf]; omega
      · have HV := Lib.hid (show orL l = a from by rw [HD.out, orL, if_neg ha])
        have ha2 : (a != 0) = true := by simpa using ha
        clear ha
        go_wp2
        go_ret
        exact ⟨by rw [HV.out]; rfl, rfl⟩
    · obtain rfl : i = l.length := by omega
      have HV := Lib.hid (show orL l = 0 from by rw [orL_drop HALL.out, List.drop_length]; rfl)
      go_wp2
      go_ret
      exact ⟨by rw [HV.out]; rfl, rfl⟩

end Go.Proofs.Ytipddhcfcehcaaa
namespace Go.Proofs.Ytipddhcfcehcaaa
open Go Go.RowKit

/-- W is w with new blocks. -/
def Ext (w W : World) : Prop := Below w.heap.size w W
theorem Ext.refl (w : World) : Ext w w := Below.refl _ _
theorem Ext.trans {a b c : World} (h : Ext a b) (k : Ext b c) : Ext a c := Below.trans h (Below.mono k (Below.size h))
theorem Ext.drew (w : World) : Ext w w.drew := (Below.refl _ _).drew
theorem Ext.alloc (w : World) (o : Obj) : Ext w (w.alloc o) := (Below.refl _ _).alloc (Nat.le_refl _) o
theorem Ext.same {w W : World} (h : Ext w W) : Same (· < w.heap.size) w W := Same.below h
theorem Ext.size {w W : World} (h : Ext w W) : w.heap.size ≤ W.heap.size := Below.size h
theorem Ext.cell {w W : World} (h : Ext w W) {a : Addr} {v : Value} (hc : w.cell? a = some v) : W.cell? a = some v := (Below.cell h (World.block_lt_of_cell? w a hc)).trans hc

section
variable {P : Program} {ops : Array Oper} {Q : Exit → Act → World → Prop}

/-- May the schedule be followed: what is taken may come up and stands apart from what has not come up; what is made comes up alone. -/
def schedOk (ops : Array Oper) : List (Nat × Bool) → Array Bool → Bool
  | [], l => (Region.ready .any ops l).isEmpty
  | (i, true) :: r, l => Region.free .any ops l i && (Region.ready .any ops l).contains i && schedOk ops r (l.setIfInBounds i true)
  | (i, false) :: r, l => Region.ready .any ops l == [i] && schedOk ops r (l.setIfInBounds i true)

/-- What is to be shown along the schedule. -/
def Walk (P : Program) (ops : Array Oper) (Q : Exit → Act → World → Prop) : List (Nat × Bool) → Act → World → Prop
  | [], a, w => Q .normal a w
  | (i, true) :: r, a, w => ∃ o v, ops[i]? = some o ∧ YieldsIf P ops (Ext w) o v a ∧ Walk P ops Q r (a.put o.dst v) w
  | (i, false) :: r, a, w => ∃ o, ops[i]? = some o ∧ ∀ K' : Act → World → Prop, Shut (∀ a' w', Ext w w' → Walk P ops Q r a' w' → K' a' w') →
      if Region.wanted o (yielded ops a.tmps) = true then Oper.wp P o a w K' Q else K' (a.put o.dst undef) w

theorem wpOp_mono' {i : Nat} {K K' : Act → World → Prop} {a : Act} {w : World} (hk : ∀ a w, K a w → K' a w) (h : wpOp P ops Q i K a w) : wpOp P ops Q i K' a w := wpOp_mono hk h

theorem wpAnyH_mono {md : Region.Mode} {S S' : World → Prop} (hs : ∀ x, S' x → S x) : ∀ (fuel : Nat) (l : Array Bool) (a : Act) (w : World), wpAnyH P md ops Q S' fuel l a w → wpAnyH P md ops Q S fuel l a w
  | 0, _, _, _, h => h
  | fuel + 1, _, _, _, h => ⟨h.1, fun i hi => wpOp_mono' (fun a' w' h' => ⟨hs _ h'.1, wpAnyH_mono hs fuel _ a' w' h'.2⟩) (h.2 i hi)⟩

theorem walk_sound (hns : Region.noSelect ops = true) (hQ : ∀ c a d v w, Q (.panic c) (Act.put a d v) w → Q (.panic c) a w) :
    ∀ (s : List (Nat × Bool)) (k : Nat) (l : Array Bool) (a : Act) (w : World), schedOk ops s l = true → Walk P ops Q s a w → wpAnyH P .any ops Q (Ext w) (s.length + k) l a w
  | [], k, l, a, w, hok, h => wpAnyH_done (by simpa [schedOk] using hok) h _
  | (i, true) :: r, k, l, a, w, hok, ⟨o, v, ho, hy, h⟩ => by
    simp only [schedOk, Bool.and_eq_true] at hok
    have := walk_sound hns hQ r k (l.setIfInBounds i true) (a.put o.dst v) w hok.2 h
    rw [List.length_cons, Nat.add_right_comm]
    exact wpAnyH_take ho hns hok.1.1 hok.1.2 (fun c a w => hQ c a _ _ w) hy (Ext.refl w) this
  | (i, false) :: r, k, l, a, w, hok, ⟨o, ho, h⟩ => by
    simp only [schedOk, Bool.and_eq_true] at hok
    rw [List.length_cons, Nat.add_right_comm]
    refine wpAnyH_all (rs := [i]) (by simpa using hok.1) (by simp) (fun j hj => ?_)
    obtain rfl : j = i := by simpa using hj
    refine wpOp_step ho (fun K' hK => h K' (fun a' w' he hw => hK a' w' ⟨he, ?_⟩))
    exact wpAnyH_mono (fun x hx => he.trans hx) _ _ _ _ (walk_sound hns hQ r k (l.setIfInBounds j true) a' w' hok.2 hw)

/-- The beginning. -/
theorem region_walk {id : Nat} {a : Act} {w : World} (s : List (Nat × Bool)) (hm : P.follows .mixedOrders = true) (hns : Region.noSelect ops = true)
    (hok : schedOk ops s (Array.replicate ops.size false) = true) (hlen : s.length = ops.size) (hQ : ∀ c a d v w, Q (.panic c) (Act.put a d v) w → Q (.panic c) a w)
    (h : Walk P ops Q s a w.drew) : (Code.region id ops true).wp P Q a w := by
  refine wp_region_held (S := Ext w.drew) hm ?_
  have := walk_sound hns hQ s 0 _ a w.drew hok h
  rwa [Nat.add_zero, hlen] at this

theorem Walk.take {i : Nat} {r : List (Nat × Bool)} {a : Act} {w : World} (o : Oper) (v : Value) (ho : ops[i]? = some o) (hw : Region.wanted o (yielded ops a.tmps) = true)
    (hy : ∀ W, Ext w W → (execOp a.eval o).run P W = .ok (.value v) W) (h : Walk P ops Q r (a.put o.dst v) w) : Walk P ops Q ((i, true) :: r) a w := ⟨o, v, ho, .inl ⟨hw, hy⟩, h⟩

theorem Walk.make {i : Nat} {r : List (Nat × Bool)} {a : Act} {w : World} (o : Oper) (ho : ops[i]? = some o) (hw : Region.wanted o (yielded ops a.tmps) = true)
    (h : ∀ K' : Act → World → Prop, Shut (∀ a' w', Ext w w' → Walk P ops Q r a' w' → K' a' w') → Oper.wp P o a w K' Q) : Walk P ops Q ((i, false) :: r) a w := ⟨o, ho, fun K' hK => by rw [if_pos hw]; exact h K' hK⟩
end

end Go.Proofs.Ytipddhcfcehcaaa
