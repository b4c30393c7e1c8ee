/- Lemmas for the claim, no condition. -/
import Derived.Test.YtjdigpfipmckhaaGreatProg
import Derived.WalkKit
import Derived.WalkSpells
import Derived.WalkLawsBesides
import Derived.Lib.Hide
import Derived.Lib.AppendStr
import Derived.Sort.Grow
import Derived.Deep.Draws
import Derived.Deep.RegionHeld
namespace Go.Proofs.YtjdigpfipmckhaaGreat
open Go Go.RowKit
theorem gtA {α : Type} (l : List α) (i : Nat) : l.toArray[i]? = l[i]? := List.getElem?_toArray
theorem gtS {α : Type} (a : α) (l : List α) (i : Nat) : (a :: l)[i + 1]? = l[i]? := List.getElem?_cons_succ
theorem gtZ {α : Type} (a : α) (l : List α) : (a :: l)[0]? = some a := List.getElem?_cons_zero
theorem puA {α : Type} (l : List α) (i : Nat) (a : α) : l.toArray.setIfInBounds i a = (l.set i a).toArray := List.setIfInBounds_toArray _ _ _
theorem puZ {α : Type} (a b : α) (l : List α) : (a :: l).set 0 b = b :: l := List.set_cons_zero
theorem puS {α : Type} (a b : α) (l : List α) (i : Nat) : (a :: l).set (i + 1) b = a :: l.set i b := List.set_cons_succ
structure ElemT (P : Program) (t e : TypeId) (size bytes : Nat) : Prop where
  und : P.underlying t = some (.slice e)
  row : ∃ i z, P.info? e = some i ∧ i.zero = some z ∧ i.size = size ∧ i.bytes = bytes ∧ z.cells.size = size
  pos : 0 < size
theorem ElemT.mk' {P : Program} {t e : TypeId} {z : Value} {size bytes : Nat} (h1 : P.underlying t = some (.slice e))
    (h2 : (P.info? e).map (fun i => (i.zero, i.size, i.bytes)) = some (some z, size, bytes)) (h3 : z.cells.size = size) (h4 : 0 < size) : ElemT P t e size bytes := by
  obtain ⟨i, a, b, c, d⟩ := info_parts h2
  exact ⟨h1, ⟨i, z, a, b, c, d, h3⟩, h4⟩
def Same (S : Nat → Prop) (w w' : World) : Prop := ∀ b, S b → w'.heap[b]? = w.heap[b]?
theorem Same.mono {S T : Nat → Prop} {a b : World} (h : Same S a b) (k : ∀ x, T x → S x) : Same T a b := fun x hx => h x (k x hx)
theorem Same.below {B : Nat} {a b : World} (h : Below B a b) : Same (· < B) a b := fun x hx => h.block x hx
theorem Same.cell {S : Nat → Prop} {a b : World} (h : Same S a b) {p : Addr} (hp : S p.block) : b.cell? p = a.cell? p := World.cell?_of_block (h _ hp)
def Sl (S : Nat → Prop) (w : World) (sz : Nat) (v : Value) (xs : List Value) : Prop :=
  ∃ ao n c, v = .slice ao n c ∧ xs.length = n * sz ∧ n ≤ c ∧ c ≤ maxLen ∧ (ao = none → c = 0) ∧
    (xs ≠ [] → ∃ b off, ao = some ⟨b, off, none⟩ ∧ S b ∧ ∀ j u, xs[j]? = some u → w.cell? ⟨b, off + j, none⟩ = some u)
theorem Sl.same {S : Nat → Prop} {w w' : World} {sz : Nat} {v : Value} {xs : List Value} (h : Sl S w sz v xs) (hs : Same S w w') : Sl S w' sz v xs := by
  obtain ⟨ao, n, c, rfl, h1, h2, h3, h4, h5⟩ := h
  refine ⟨ao, n, c, rfl, h1, h2, h3, h4, fun hne => ?_⟩
  obtain ⟨b, off, rfl, hb, hc⟩ := h5 hne
  exact ⟨b, off, rfl, hb, fun j u hu => (hs.cell (p := ⟨b, off + j, none⟩) hb).trans (hc j u hu)⟩
theorem Sl.mono {S T : Nat → Prop} {w : World} {sz : Nat} {v : Value} {xs : List Value} (h : Sl S w sz v xs) (hs : ∀ b, S b → T b) : Sl T w sz v xs := by
  obtain ⟨ao, n, c, rfl, h1, h2, h3, h4, h5⟩ := h
  refine ⟨ao, n, c, rfl, h1, h2, h3, h4, fun hne => ?_⟩
  obtain ⟨b, off, rfl, hb, hc⟩ := h5 hne
  exact ⟨b, off, rfl, hs b hb, hc⟩
theorem Sl.nil (S : Nat → Prop) (w : World) (sz : Nat) : Sl S w sz (.slice none 0 0) [] := ⟨none, 0, 0, rfl, by simp, Nat.le_refl _, Nat.zero_le _, fun _ => rfl, fun h => absurd rfl h⟩
theorem Sl.made (w : World) (S : Nat → Prop) (sz n : Nat) (e : TypeId) (cs : Array Value) (hn : cs.size = n * sz) (hm : n ≤ maxLen) (hS : S w.heap.size) :
    Sl S (w.alloc (.cells cs e)) sz (.slice (some ⟨w.heap.size, 0, none⟩) n n) cs.toList := by
  refine ⟨_, n, n, rfl, by simpa using hn, Nat.le_refl _, hm, (fun h => by cases h), fun _ => ⟨w.heap.size, 0, rfl, hS, fun j u hu => ?_⟩⟩
  rw [cell_of_row _ w.heap.size (0 + j) cs e (0, 0) (heap_alloc_new w _)]
  simpa using hu
theorem Sl.take {S : Nat → Prop} {w : World} {sz : Nat} {ao : Option Addr} {n c : Nat} {xs : List Value} (h : Sl S w sz (.slice ao n c) xs) (k : Nat) (hk : k ≤ n) : Sl S w sz (.slice ao k c) (xs.take (k * sz)) := by
  obtain ⟨ao', n', c', hv, h1, h2, h3, h4, h5⟩ := h
  cases hv
  have hkn := Nat.mul_le_mul_right sz hk
  refine ⟨ao, k, c, rfl, by rw [List.length_take]; omega, by omega, h3, h4, fun hne => ?_⟩
  obtain ⟨b, off, rfl, hb, hc⟩ := h5 (fun e => hne (by simp [e]))
  refine ⟨b, off, rfl, hb, fun j u hu => hc j u ?_⟩
  rw [List.getElem?_take] at hu
  split at hu
  · exact hu
  · cases hu
theorem Sl.len {S : Nat → Prop} {w : World} {sz : Nat} {v : Value} {xs : List Value} (h : Sl S w sz v xs) : ∃ ao n c, v = .slice ao n c ∧ xs.length = n * sz ∧ n ≤ c ∧ c ≤ 9223372036854775807 := by
  obtain ⟨ao', n', c', hv, h1, h2, h3, h4, h5⟩ := h
  exact ⟨ao', n', c', hv, h1, h2, by unfold maxLen at h3; omega⟩
theorem ownsRow_sl {w : World} {B : Nat} {e : TypeId} {sz : Nat} {v : Value} {n : Nat} {xs : List Value} (h : w.ownsRow B e sz v n xs) (S : Nat → Prop) (hS : ∀ g, v.ownBlock = some g → S g) :
    Sl S w sz v xs := by
  rcases h.2 with ⟨rfl, rfl⟩ | ⟨g, cap, cur, rfl, hb, hg, hnc, hcm, hcs, htake⟩
  · have : xs = [] := List.eq_nil_of_length_eq_zero (by simpa using h.1)
    subst this
    exact Sl.nil S w sz
  · refine ⟨_, n, cap, rfl, h.1, hnc, hcm, (fun h => by cases h), fun _ => ⟨g, 0, rfl, hS g rfl, fun j u hu => ?_⟩⟩
    have hj : j < n * sz := by rw [← h.1]; exact (List.getElem?_eq_some_iff.1 hu).1
    rw [Nat.zero_add, h.cellAt j hj]
    exact hu
end Go.Proofs.YtjdigpfipmckhaaGreat
namespace Go.Proofs.YtjdigpfipmckhaaGreat
open Go Go.RowKit
def Blk (w : World) (B : Nat) (cs : Array Value) (e : TypeId) : Prop := w.heap[B]? = some (.cells cs e (0, 0))
section
variable {w W : World} {B : Nat} {cs : Array Value} {e : TypeId}
theorem Blk.made (w : World) (cs : Array Value) (e : TypeId) : Blk (w.alloc (.cells cs e)) w.heap.size cs e := heap_alloc_new w _
theorem Blk.made' {w : World} {B : Nat} (h : w.heap.size = B) (cs : Array Value) (e : TypeId) : Blk (w.alloc (.cells cs e)) B cs e := h ▸ Blk.made w cs e
theorem Blk.lt (h : Blk w B cs e) : B < w.heap.size := (Array.getElem?_eq_some_iff.1 h).1
theorem Blk.same {S : Nat → Prop} (h : Blk w B cs e) (hs : Same S w W) (hB : S B) : Blk W B cs e := (hs B hB).trans h
theorem Blk.below (h : Blk w B cs e) (hb : Below w.heap.size w W) : Blk W B cs e := (hb.block B h.lt).trans h
theorem Blk.alloc (h : Blk w B cs e) (o : Obj) : Blk (w.alloc o) B cs e := (Below.heap_alloc w o B h.lt).trans h
theorem Blk.drew (h : Blk w B cs e) : Blk w.drew B cs e := h
theorem Blk.cells (h : Blk w B cs e) : ∀ i, w.cell? ⟨B, i, none⟩ = cs[i]? := fun i => cell_of_row w B i cs e (0, 0) h
theorem Blk.free (h : Blk w B cs e) : ∀ i, w.frozen? ⟨B, i, none⟩ = false := fun i => frozen_of_row w B i cs e h
theorem Blk.set (h : Blk w B cs e) (i : Nat) (v : Value) : Blk (w.setCell ⟨B, i, none⟩ v) B (cs.setIfInBounds i v) e := heap_setCell_same w B i cs e v h
theorem Blk.other (h : Blk w B cs e) {a : Addr} (ha : B ≠ a.block) (v : Value) : Blk (w.setCell a v) B cs e := (Below.heap_setCell w a v B ha).trans h
end
end Go.Proofs.YtjdigpfipmckhaaGreat
namespace Go.Proofs.YtjdigpfipmckhaaGreat
open Go Go.RowKit
structure Kept (K : Nat → Prop) (w w' : World) : Prop where
  os : w'.os = w.os
  tape : w'.tape = w.tape
  output : w'.output = w.output
  size : w.heap.size ≤ w'.heap.size
  block : ∀ b, K b → w'.heap[b]? = w.heap[b]?
section
variable {K : Nat → Prop} {w w' w'' : World} {B : Nat}
theorem Kept.refl (K : Nat → Prop) (w : World) : Kept K w w := ⟨rfl, rfl, rfl, Nat.le_refl _, fun _ _ => rfl⟩
theorem Kept.trans (h : Kept K w w') (k : Kept K w' w'') : Kept K w w'' :=
  ⟨k.os.trans h.os, k.tape.trans h.tape, k.output.trans h.output, Nat.le_trans h.size k.size, fun b hb => (k.block b hb).trans (h.block b hb)⟩
theorem Kept.mono {J : Nat → Prop} (h : Kept K w w') (hj : ∀ b, J b → K b) : Kept J w w' := ⟨h.os, h.tape, h.output, h.size, fun b hb => h.block b (hj b hb)⟩
theorem Below.kept (h : Below B w w') (hk : ∀ b, K b → b < B) : Kept K w w' := ⟨h.os, h.tape, h.output, h.size, fun b hb => h.block b (hk b hb)⟩
theorem Kept.below (h : Kept K w w') (hk : ∀ b, b < B → K b) : Below B w w' := ⟨h.os, h.tape, h.output, h.size, fun b hb => h.block b (hk b hb)⟩
theorem Kept.alloc (h : Kept K w w') (hk : ∀ b, K b → b < w'.heap.size) (o : Obj) : Kept K w (w'.alloc o) := h.trans (Below.kept ((Below.refl _ _).alloc (Nat.le_refl _) o) hk)
theorem Kept.set (h : Kept K w w') {a : Addr} (ha : ¬ K a.block) (v : Value) : Kept K w (w'.setCell a v) :=
  h.trans ⟨rfl, rfl, rfl, Nat.le_of_eq (by simp), fun b hb => Below.heap_setCell w' a v b (fun e => ha (e ▸ hb))⟩
theorem Kept.drew (h : Kept K w w') : Kept K w w'.drew := ⟨h.os, h.tape, h.output, h.size, h.block⟩
theorem Blk.set_to {cs cs' : Array Value} {e : TypeId} (h : Blk w B cs e) (i : Nat) (v : Value) (he : cs.setIfInBounds i v = cs') : Blk (w.setCell ⟨B, i, none⟩ v) B cs' e := he ▸ h.set i v
theorem Kept.blk (h : Kept K w w') {cs : Array Value} {e : TypeId} (hB : Blk w B cs e) (hk : K B) : Blk w' B cs e := (h.block B hk).trans hB
end
end Go.Proofs.YtjdigpfipmckhaaGreat
namespace Go.Proofs.YtjdigpfipmckhaaGreat
open Go Go.RowKit
theorem flat_length {α : Type} {enc : α → List Value} {sz : Nat} (hk : ∀ a, (enc a).length = sz) : ∀ l : List α, (l.flatMap enc).length = l.length * sz
  | [] => by simp
  | a :: l => by rw [List.flatMap_cons, List.length_append, flat_length hk l, hk, List.length_cons, Nat.add_mul, Nat.one_mul, Nat.add_comm]
theorem flat_get {α : Type} {enc : α → List Value} {sz : Nat} (hk : ∀ a, (enc a).length = sz) : ∀ (l : List α) (i : Nat) (h : i < l.length) (j : Nat), j < sz → (l.flatMap enc)[i * sz + j]? = (enc l[i])[j]?
  | a :: l, 0, _, j, hj => by rw [List.flatMap_cons, Nat.zero_mul, Nat.zero_add, List.getElem?_append_left (by rw [hk]; exact hj)]; rfl
  | a :: l, i + 1, h, j, hj => by
    rw [List.flatMap_cons, List.getElem?_append_right (by rw [hk, Nat.add_mul]; omega), hk, show (i + 1) * sz + j - sz = i * sz + j from by rw [Nat.add_mul]; omega]
    exact flat_get hk l i (by simpa using h) j hj
theorem Sl.rows {α : Type} {enc : α → List Value} {sz : Nat} (hk : ∀ a, (enc a).length = sz) (hpos : 0 < sz) {S : Nat → Prop} {w : World} {v : Value} {l : List α} (h : Sl S w sz v (l.flatMap enc)) :
    ∃ ao c, v = .slice ao l.length c ∧ l.length ≤ c ∧ c ≤ 9223372036854775807 ∧
      (0 < l.length → ∃ b off, ao = some ⟨b, off, none⟩ ∧ S b ∧ ∀ i (hi : i < l.length) (j : Nat) u, (enc l[i])[j]? = some u → w.cell? ⟨b, off + i * sz + j, none⟩ = some u) := by
  obtain ⟨ao, n, c, rfl, h1, h2, h3, h4, h5⟩ := h
  rw [flat_length hk] at h1
  obtain rfl : l.length = n := Nat.eq_of_mul_eq_mul_right hpos h1
  refine ⟨ao, c, rfl, h2, by unfold maxLen at h3; omega, fun hl => ?_⟩
  obtain ⟨b, off, rfl, hb, hc⟩ := h5 (fun e => by
    have := congrArg List.length e
    rw [flat_length hk, List.length_nil] at this
    have := Nat.mul_pos hl hpos
    omega)
  refine ⟨b, off, rfl, hb, fun i hi j u hu => ?_⟩
  rw [Nat.add_assoc]
  refine hc (i * sz + j) u ?_
  rw [flat_get hk l i hi j (by rw [← hk l[i]]; exact (List.getElem?_eq_some_iff.1 hu).1)]
  exact hu
theorem upto_succ {n i : Nat} {p : (j : Nat) → j < n → Prop} (h : ∀ j (hj : j < n), j < i → p j hj) (hi : i < n) (hp : p i hi) : ∀ j (hj : j < n), j < i + 1 → p j hj :=
  fun j hj hl => (Nat.lt_succ_iff_lt_or_eq.1 hl).elim (fun e => h j hj e) (fun e => by subst e; exact hp)
theorem ba_beq' {a b : ByteArray} (h : a ≠ b) : (a.data.toList == b.data.toList) = false := by
  rw [beq_eq_false_iff_ne]
  exact fun e => h (ByteArray.ext (by rw [← Array.toList_inj]; exact e))
def Gr (w w' : World) : Prop := ∃ q os, w' = Sort.grow (w.drewN q) os
theorem Gr.refl (w : World) : Gr w w := ⟨0, #[], by simp [Sort.grow, World.drewN]⟩
theorem Gr.alloc {w w' : World} (h : Gr w w') (o : Obj) : Gr w (w'.alloc o) := by
  obtain ⟨q, os, rfl⟩ := h
  exact ⟨q, os ++ #[o], by rw [Sort.alloc_eq_grow, Sort.grow_grow]⟩
theorem Gr.drew {w w' : World} (h : Gr w w') : Gr w w'.drew := by
  obtain ⟨q, os, rfl⟩ := h
  exact ⟨q + 1, os, rfl⟩
theorem Gr.below {w w' : World} (h : Gr w w') : Below w.heap.size w w' := by
  obtain ⟨q, os, rfl⟩ := h
  exact ⟨rfl, rfl, rfl, by simp [Sort.grow, World.drewN], fun k hk => by simp [Sort.grow, World.drewN, Array.getElem?_append, hk]⟩
theorem Sl.up {w w' : World} {sz : Nat} {v : Value} {xs : List Value} (h : Sl (· < w.heap.size) w sz v xs) (hb : Below w.heap.size w w') : Sl (· < w'.heap.size) w' sz v xs :=
  (h.same (Same.below hb)).mono fun _ hx => Nat.lt_of_lt_of_le hx hb.size
end Go.Proofs.YtjdigpfipmckhaaGreat
namespace Go.Proofs.YtjdigpfipmckhaaGreat
open Go Go.RowKit
def Ext (w W : World) : Prop := Below w.heap.size w W
theorem Ext.refl (w : World) : Ext w w := Below.refl _ _
theorem Ext.trans {a b c : World} (h : Ext a b) (k : Ext b c) : Ext a c := Below.trans h (Below.mono k (Below.size h))
theorem Ext.drew (w : World) : Ext w w.drew := (Below.refl _ _).drew
theorem Ext.alloc (w : World) (o : Obj) : Ext w (w.alloc o) := (Below.refl _ _).alloc (Nat.le_refl _) o
theorem Ext.size {w W : World} (h : Ext w W) : w.heap.size ≤ W.heap.size := Below.size h
theorem Ext.cell {w W : World} (h : Ext w W) {a : Addr} {v : Value} (hc : w.cell? a = some v) : W.cell? a = some v := (Below.cell h (World.block_lt_of_cell? w a hc)).trans hc
section
variable {P : Program} {ops : Array Oper} {Q : Exit → Act → World → Prop}
end
end Go.Proofs.YtjdigpfipmckhaaGreat
namespace Go.Proofs.YtjdigpfipmckhaaGreat
open Go Go.RowKit
def Own (w : World) (B : Nat) (e : TypeId) (sz : Nat) (v : Value) (xs : List Value) : Prop := ∃ n, w.ownsRow B e sz v n xs
section
variable {w w' : World} {B : Nat} {e : TypeId} {sz : Nat} {v : Value} {xs : List Value}
theorem Own.nil (w : World) (B : Nat) (e : TypeId) (sz : Nat) : Own w B e sz (.slice none 0 0) [] := ⟨0, World.ownsRow_nil w B e sz⟩
theorem Own.sl (h : Own w B e sz v xs) : Sl (fun b => B ≤ b ∧ b < w.heap.size) w sz v xs := by
  obtain ⟨n, h⟩ := h
  exact ownsRow_sl h _ (fun g hg => h.lt g hg)
theorem Own.keep (h : Own w B e sz v xs) (hs : ∀ b, B ≤ b → b < w.heap.size → w'.heap[b]? = w.heap[b]?) : Own w' B e sz v xs := by
  obtain ⟨n, h⟩ := h
  refine ⟨n, h.1, ?_⟩
  rcases h.2 with hn | ⟨g, cap, cur, rfl, hbg, hg, r⟩
  · exact .inl hn
  · exact .inr ⟨g, cap, cur, rfl, hbg, (hs g hbg (Array.getElem?_eq_some_iff.1 hg).1).trans hg, r⟩
theorem Own.below (h : Own w B e sz v xs) (hb : Below w.heap.size w w') : Own w' B e sz v xs := h.keep fun b _ hl => hb.block b hl
theorem Own.block (h : Own w B e sz v xs) : ∀ g, v.ownBlock = some g → B ≤ g ∧ g < w.heap.size := by
  obtain ⟨n, h⟩ := h
  exact fun g hg => h.lt g hg
end
end Go.Proofs.YtjdigpfipmckhaaGreat
namespace Go.Proofs.YtjdigpfipmckhaaGreat
open Go Go.RowKit
section
variable {P : Program} {ops : Array Oper} {Q : Exit → Act → World → Prop} {S : World → Prop}
def WalkN (P : Program) (ops : Array Oper) (Q : Exit → Act → World → Prop) (S : World → Prop) : Nat → Array Bool → Act → World → Prop
  | 0, l, a, w => Region.ready .any ops l = [] ∧ Q .normal a w
  | f + 1, l, a, w => (Region.ready .any ops l = [] ∧ Q .normal a w) ∨
      (∃ i o v, ops[i]? = some o ∧ Region.free .any ops l i = true ∧ (Region.ready .any ops l).contains i = true ∧ YieldsIf P ops S o v a ∧ WalkN P ops Q S f (l.setIfInBounds i true) (a.put o.dst v) w) ∨
      (Region.ready .any ops l ≠ [] ∧ ∀ i ∈ Region.ready .any ops l, ∃ o, ops[i]? = some o ∧ ∀ K' : Act → World → Prop, Shut (∀ a' w', S w' → WalkN P ops Q S f (l.setIfInBounds i true) a' w' → K' a' w') →
        if Region.wanted o (yielded ops a.tmps) = true then Oper.wp P o a w K' Q else K' (a.put o.dst undef) w)
theorem walkN_sound (hns : Region.noSelect ops = true) (hQ : ∀ c a d v w, Q (.panic c) (Act.put a d v) w → Q (.panic c) a w) :
    ∀ (f : Nat) (l : Array Bool) (a : Act) (w : World), S w → WalkN P ops Q S f l a w → wpAnyH P .any ops Q S f l a w
  | 0, l, a, w, _, h => wpAnyH_done h.1 h.2 0
  | f + 1, l, a, w, hs, h => by
    rcases h with ⟨h1, h2⟩ | ⟨i, o, v, ho, hf, hr, hy, h⟩ | ⟨hne, h⟩
    · exact wpAnyH_done h1 h2 _
    · exact wpAnyH_take ho hns hf hr (fun c a w => hQ c a _ _ w) hy hs (walkN_sound hns hQ f _ _ w hs h)
    · refine wpAnyH_all rfl hne (fun i hi => ?_)
      obtain ⟨o, ho, hst⟩ := h i hi
      exact wpOp_step ho (fun K' hK => hst K' (fun a' w' he hw => hK a' w' ⟨he, walkN_sound hns hQ f _ a' w' he hw⟩))
theorem region_walkN {id : Nat} {a : Act} {w : World} (S : World → Prop) (hS : S w.drew) (hm : P.follows .mixedOrders = true) (hns : Region.noSelect ops = true) (hQ : ∀ c a d v w, Q (.panic c) (Act.put a d v) w → Q (.panic c) a w)
    (h : WalkN P ops Q S ops.size (Array.replicate ops.size false) a w.drew) : (Code.region id ops true).wp P Q a w :=
  wp_region_held (S := S) hm (walkN_sound hns hQ _ _ a w.drew hS h)
theorem WalkN.done {f : Nat} {l : Array Bool} {a : Act} {w : World} (hr : Region.ready .any ops l = []) (h : Q .normal a w) : WalkN P ops Q S f l a w := by
  cases f
  · exact ⟨hr, h⟩
  · exact .inl ⟨hr, h⟩
theorem WalkN.take {f : Nat} {l : Array Bool} {a : Act} {w : World} (i : Nat) (o : Oper) (v : Value) (ho : ops[i]? = some o) (hf : Region.free .any ops l i = true) (hr : (Region.ready .any ops l).contains i = true)
    (hw : Region.wanted o (yielded ops a.tmps) = true) (hy : ∀ W, S W → (execOp a.eval o).run P W = .ok (.value v) W) (h : WalkN P ops Q S f (l.setIfInBounds i true) (a.put o.dst v) w) : WalkN P ops Q S (f + 1) l a w :=
  .inr (.inl ⟨i, o, v, ho, hf, hr, .inl ⟨hw, hy⟩, h⟩)
def TkN (P : Program) (ops : Array Oper) (Q : Exit → Act → World → Prop) (S : World → Prop) : List Nat → Nat → Array Bool → Act → World → Prop
  | [], f, l, a, w => WalkN P ops Q S f l a w
  | i :: is, f, l, a, w => ∃ g, f = g + 1 ∧ ∃ o v, ops[i]? = some o ∧ Region.free .any ops l i = true ∧ (Region.ready .any ops l).contains i = true ∧ Region.wanted o (yielded ops a.tmps) = true ∧ (∀ W, S W → (execOp a.eval o).run P W = .ok (.value v) W) ∧ TkN P ops Q S is g (l.setIfInBounds i true) (a.put o.dst v) w
theorem WalkN.tk (is : List Nat) : ∀ {f : Nat} {l : Array Bool} {a : Act} {w : World}, TkN P ops Q S is f l a w → WalkN P ops Q S f l a w := by
  induction is with
  | nil => exact fun h => h
  | cons i is ih =>
    rintro f l a w ⟨g, rfl, o, v, ho, hf, hr, hw, hy, h⟩
    exact WalkN.take i o v ho hf hr hw hy (ih h)
theorem TkN.c {f : Nat} {l : Array Bool} {a : Act} {w : World} {i : Nat} {is : List Nat} (o : Oper) (v : Value) (ho : ops[i]? = some o) (hf : Region.free .any ops l i = true) (hr : (Region.ready .any ops l).contains i = true)
    (hw : Region.wanted o (yielded ops a.tmps) = true) (hy : ∀ W, S W → (execOp a.eval o).run P W = .ok (.value v) W) (h : TkN P ops Q S is f (l.setIfInBounds i true) (a.put o.dst v) w) : TkN P ops Q S (i :: is) (f + 1) l a w :=
  ⟨f, rfl, o, v, ho, hf, hr, hw, hy, h⟩
theorem TkN.n {f : Nat} {l : Array Bool} {a : Act} {w : World} (h : WalkN P ops Q S f l a w) : TkN P ops Q S [] f l a w := h
def MadeN (P : Program) (ops : Array Oper) (Q : Exit → Act → World → Prop) (S : World → Prop) (f : Nat) (l : Array Bool) (a : Act) (w : World) (i : Nat) : Prop :=
  ∃ o, ops[i]? = some o ∧ Region.wanted o (yielded ops a.tmps) = true ∧ ∀ K' : Act → World → Prop, Shut (∀ a' w', S w' → WalkN P ops Q S f (l.setIfInBounds i true) a' w' → K' a' w') → Oper.wp P o a w K' Q
theorem WalkN.one {f : Nat} {l : Array Bool} {a : Act} {w : World} (i : Nat) (hr : Region.ready .any ops l = [i]) (h : MadeN P ops Q S f l a w i) : WalkN P ops Q S (f + 1) l a w := by
  refine .inr (.inr ⟨by rw [hr]; simp, fun j hj => ?_⟩)
  rw [hr] at hj
  obtain rfl : j = i := by simpa using hj
  obtain ⟨o, ho, hw, h⟩ := h
  exact ⟨o, ho, fun K hK => by rw [if_pos hw]; exact h K hK⟩
theorem WalkN.two {f : Nat} {l : Array Bool} {a : Act} {w : World} (i j : Nat) (hr : Region.ready .any ops l = [i, j]) (h : MadeN P ops Q S f l a w i) (h' : MadeN P ops Q S f l a w j) : WalkN P ops Q S (f + 1) l a w := by
  refine .inr (.inr ⟨by rw [hr]; simp, fun k hk => ?_⟩)
  rw [hr] at hk
  have : k = i ∨ k = j := by simpa using hk
  rcases this with rfl | rfl
  · obtain ⟨o, ho, hw, h⟩ := h
    exact ⟨o, ho, fun K hK => by rw [if_pos hw]; exact h K hK⟩
  · obtain ⟨o, ho, hw, h⟩ := h'
    exact ⟨o, ho, fun K hK => by rw [if_pos hw]; exact h K hK⟩
end
theorem wp_own {P : Program} {w : World} {o : Oper} {a : Act} {K : Act → World → Prop} {Q : Exit → Act → World → Prop} {t e : TypeId} {size bytes : Nat} (E : ElemT P t e size bytes)
    (s x : Operand) (hop : o.op = Op.call { callee := Callee.builtin Builtin.append, args := #[s, x], argTypes := #[t, t] })
    {B : Nat} {v : Value} {xs : List Value} (hs : a.eval s = v) (hown : Own w B e size v xs) {T : Nat → Prop} {y : Value} {news : List Value} (hx : a.eval x = y) (hy : Sl T w size y news) (h1 : ∀ u ∈ news, u.oneCell' = true)
    (hlen : xs.length + news.length ≤ 9223372036854775807) (hbytes : (xs.length + news.length) * bytes ≤ 140737488355328) (hB : B ≤ w.heap.size)
    (h : ∀ v' w', Own w' B e size v' (xs ++ news) → Below B w w' → w.grownBy w' v.ownBlock → K (a.put o.dst v') w') : o.wp P a w K Q := by
  obtain ⟨hund, ⟨i, z, hi, hz, h4, h5, h6⟩, hpos⟩ := E
  obtain ⟨n, hown⟩ := hown
  obtain ⟨yo, m, c, rfl, hym, hmc, hcm, hyn, hyc⟩ := hy
  have e1 : ∀ k l : Nat, k ≤ l * size → l * size ≤ k → l ≤ k := fun k l _ hb => Nat.le_trans (Nat.le_mul_of_pos_right l hpos) hb
  have hnl : n ≤ xs.length := e1 _ _ (Nat.le_of_eq hown.1) (Nat.le_of_eq hown.1.symm)
  have hml : m ≤ news.length := e1 _ _ (Nat.le_of_eq hym) (Nat.le_of_eq hym.symm)
  have hb47 : (n + m) * bytes ≤ 140737488355328 := Nat.le_trans (Nat.mul_le_mul_right _ (by omega)) hbytes
  have fin : ∀ v' w', w'.ownsRow B e size v' (n + m) (xs ++ news) → w.grownBy w' v.ownBlock → K (a.put o.dst v') w' :=
    fun v' w' h0 h' => h v' w' ⟨_, h0⟩ ((Below.refl B w).grown h' hB (fun k hk => (hown.lt k hk).1)) h'
  cases yo with
  | some ad =>
    refine wp_append_own w s x t hop B e i z size bytes hund hi hz h4 h5 h6 hpos v n xs hs hown ad m c news hx hym (fun j u hu => ?_) h1 (by unfold maxLen; omega) hb47 hB (fun v' w' h h' _ => fin v' w' h h')
    obtain ⟨b, off, hbo, _, hcc⟩ := hyc (fun e => by subst e; simp at hu)
    cases hbo
    rw [Addr.add_lit]
    exact hcc j u hu
  | none =>
    have hc0 := hyn rfl
    obtain rfl : m = 0 := by omega
    obtain rfl : c = 0 := hc0
    obtain rfl : news = [] := List.eq_nil_of_length_eq_zero (by simpa using hym)
    have hrun := run_append_owned_none (P := P) w B t o.type e i size hund hi v n xs hown
    have := fin v w (by simpa using hown) ⟨rfl, rfl, rfl, Nat.le_refl _, fun _ _ _ => rfl⟩
    unfold Oper.wp
    simp [execOp, hop, resolve, invoke, builtin, hs, hx, hrun, Result.andThen]
    exact this
theorem Own.made (w : World) {B : Nat} (hB : B ≤ w.heap.size) (e : TypeId) (sz : Nat) : Own (w.alloc (.cells #[] e)) B e sz (.slice (some ⟨w.heap.size, 0, none⟩) 0 0) [] :=
  ⟨0, by simp, .inr ⟨w.heap.size, 0, #[], rfl, hB, heap_alloc_new w _, Nat.le_refl _, by unfold maxLen; omega, by simp, by simp⟩⟩
end Go.Proofs.YtjdigpfipmckhaaGreat
namespace Go.Proofs.YtjdigpfipmckhaaGreat
open Go Go.RowKit
theorem Sl.dropK {S : Nat → Prop} {w : World} {ao : Option Addr} {n c sz : Nat} {xs : List Value} (h : Sl S w sz (.slice ao n c) xs) (k : Nat) (hk : k ≤ n) :
    Sl S w sz (.slice (Option.map (fun x => x.add (k * sz)) ao) (n - k) (c - k)) (xs.drop (k * sz)) := by
  obtain ⟨ao', n', c', hv, h1, h2, h3, h4, h5⟩ := h
  cases hv
  refine ⟨_, n - k, c - k, rfl, by rw [List.length_drop, h1, Nat.sub_mul], by omega, by omega, fun h => ?_, fun hne => ?_⟩
  · have := h4 (by simpa using h); omega
  · obtain ⟨b, off, rfl, hb, hc⟩ := h5 (fun e => hne (by simp [e]))
    refine ⟨b, off + k * sz, by simp [Addr.add_lit], hb, fun j u hu => ?_⟩
    rw [List.getElem?_drop] at hu
    rw [Nat.add_assoc]
    exact hc _ u hu
theorem Sl.tailK {S : Nat → Prop} {w : World} {ao ao' : Option Addr} {n c sz : Nat} {xs : List Value} (h : Sl S w sz (.slice ao n c) xs) (lo : Nat) (h1 : lo ≤ n) (hao : ¬ c = lo → ao' = Option.map (fun x => x.add (lo * sz)) ao) :
    Sl S w sz (.slice ao' (n - lo) (c - lo)) (xs.drop (lo * sz)) := by
  obtain ⟨_, _, _, hv, hl, hnc, _⟩ := h.len
  cases hv
  by_cases hc : c = lo
  · have e1 : n - lo = 0 := by omega
    have e2 : c - lo = 0 := by omega
    have e3 : xs.drop (lo * sz) = [] := List.drop_eq_nil_of_le (by rw [hl]; exact Nat.mul_le_mul_right sz (by omega))
    rw [e1, e2, e3]
    exact ⟨ao', 0, 0, rfl, by simp, Nat.le_refl _, Nat.zero_le _, fun _ => rfl, fun h => absurd rfl h⟩
  · rw [hao hc]
    exact h.dropK lo h1
theorem Own.base {w : World} {B B' : Nat} {e : TypeId} {sz : Nat} {v : Value} {xs : List Value} (h : Own w B e sz v xs) (hB : B' ≤ B) : Own w B' e sz v xs := by
  obtain ⟨n, h1, h2⟩ := h
  refine ⟨n, h1, ?_⟩
  rcases h2 with h2 | ⟨g, cap, cur, hv, hg, r⟩
  · exact .inl h2
  · exact .inr ⟨g, cap, cur, hv, Nat.le_trans hB hg, r⟩
theorem Own.shape {w : World} {B : Nat} {e : TypeId} {sz : Nat} {v : Value} {xs : List Value} (h : Own w B e sz v xs) : (v = .slice none 0 0 ∧ xs = []) ∨ ∃ g n c, v = .slice (some ⟨g, 0, none⟩) n c := by
  obtain ⟨n, h1, h2⟩ := h
  rcases h2 with ⟨rfl, h2⟩ | ⟨g, cap, cur, hv, _⟩
  · left
    refine ⟨rfl, List.eq_nil_of_length_eq_zero ?_⟩
    rw [h1, h2, Nat.zero_mul]
  · exact .inr ⟨g, n, cap, hv⟩
theorem Own.slU {w : World} {B : Nat} {e : TypeId} {sz : Nat} {v : Value} {xs : List Value} (h : Own w B e sz v xs) : Sl (· < w.heap.size) w sz v xs := h.sl.mono fun _ h => h.2
end Go.Proofs.YtjdigpfipmckhaaGreat
