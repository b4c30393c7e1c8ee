/- Rows of rows, and sources, in memory; the walks of slices.BinarySearch at rows of texts, of (iter.Rows).Seek, and of sentryref11.Seek. No condition: lemmas. -/
import Derived.Test.YtcglegipdlaoiaaDoorIterQ
import Derived.Test.YtcglegipdlaoiaaDoorRowk
import Derived.Test.YtcglegipdlaoiaaDoorRowOps
namespace Go.Proofs.YtcglegipdlaoiaaDoor
open Go Go.RowKit

/-- A slice of one cell an element, each of which tells R of one of xs. -/
def Each {α : Type} (R : World → Value → α → Prop) (S : Nat → Prop) (w : World) (v : Value) (xs : List α) : Prop :=
  ∃ vs, Sl S w 1 v vs ∧ vs.length = xs.length ∧ ∀ i (h : i < vs.length) (h' : i < xs.length), R w vs[i] xs[i]

theorem Each.get {α : Type} {R : World → Value → α → Prop} {S : Nat → Prop} {w : World} {v : Value} {xs : List α} (h : Each R S w v xs) :
    ∃ ao c, v = .slice ao xs.length c ∧ xs.length ≤ c ∧ c ≤ 9223372036854775807 ∧
      (0 < xs.length → ∃ b off, ao = some ⟨b, off, none⟩ ∧ S b ∧ ∀ i (hi : i < xs.length), ∃ u, w.cell? ⟨b, off + i, none⟩ = some u ∧ R w u xs[i]) := by
  obtain ⟨vs, ⟨ao, n, c, rfl, h1, h2, h3, h4, h5⟩, hl, hr⟩ := h
  rw [Nat.mul_one] at h1
  obtain rfl : xs.length = n := by omega
  refine ⟨ao, c, rfl, h2, by unfold maxLen at h3; omega, fun hp => ?_⟩
  obtain ⟨b, off, rfl, hb, hc⟩ := h5 (fun e => by rw [e] at h1; simp at h1; omega)
  exact ⟨b, off, rfl, hb, fun i hi => ⟨vs[i]'(by omega), hc i _ (List.getElem?_eq_getElem (by omega)), hr i (by omega) hi⟩⟩

theorem Each.same {α : Type} {R : World → Value → α → Prop} {S T : Nat → Prop} {w w' : World} {v : Value} {xs : List α} (h : Each R S w v xs) (hs : Same S w w') (hT : ∀ b, S b → T b)
    (hR : ∀ u x, R w u x → R w' u x) : Each R T w' v xs := by
  obtain ⟨vs, h1, h2, h3⟩ := h
  exact ⟨vs, (h1.same hs).mono hT, h2, fun i hi hi' => hR _ _ (h3 i hi hi')⟩

/-- Rows of texts. -/
def RowT (w : World) (u : Value) (l : List ByteArray) : Prop := Sl (· < w.heap.size) w 1 u (sc l)
/-- Rows of entries. -/
def RowE (w : World) (u : Value) (l : List Ent) : Prop := Sl (· < w.heap.size) w 3 u (ec l)
/-- A source: nil, or a row of texts. -/
def Src (w : World) (u : Value) (l : List ByteArray) : Prop := (u = .nilIface ∧ l = []) ∨ ∃ sv, u = .iface 48 sv ∧ RowT w sv l

theorem RowT.up {w w' : World} {u : Value} {l : List ByteArray} (h : RowT w u l) (hb : Below w.heap.size w w') : RowT w' u l := Sl.up h hb
theorem RowE.up {w w' : World} {u : Value} {l : List Ent} (h : RowE w u l) (hb : Below w.heap.size w w') : RowE w' u l := Sl.up h hb
theorem Src.up {w w' : World} {u : Value} {l : List ByteArray} (h : Src w u l) (hb : Below w.heap.size w w') : Src w' u l := by
  rcases h with h | ⟨sv, h1, h2⟩
  · exact .inl h
  · exact .inr ⟨sv, h1, h2.up hb⟩

abbrev RwsT (w : World) (v : Value) (rows : List (List ByteArray)) : Prop := Each RowT (· < w.heap.size) w v rows
abbrev RwsE (w : World) (v : Value) (rows : List (List Ent)) : Prop := Each RowE (· < w.heap.size) w v rows
abbrev Srcs (w : World) (v : Value) (rows : List (List ByteArray)) : Prop := Each Src (· < w.heap.size) w v rows
theorem RwsT.up {w w' : World} {v : Value} {rows : List (List ByteArray)} (h : RwsT w v rows) (hb : Below w.heap.size w w') : RwsT w' v rows :=
  Each.same h (Same.below hb) (fun _ h => Nat.lt_of_lt_of_le h hb.size) fun _ _ h => h.up hb
theorem RwsE.up {w w' : World} {v : Value} {rows : List (List Ent)} (h : RwsE w v rows) (hb : Below w.heap.size w w') : RwsE w' v rows :=
  Each.same h (Same.below hb) (fun _ h => Nat.lt_of_lt_of_le h hb.size) fun _ _ h => h.up hb
theorem Srcs.up {w w' : World} {v : Value} {rows : List (List ByteArray)} (h : Srcs w v rows) (hb : Below w.heap.size w w') : Srcs w' v rows :=
  Each.same h (Same.below hb) (fun _ h => Nat.lt_of_lt_of_le h hb.size) fun _ _ h => h.up hb

/-- Up to i all are less, from i on none is. -/
def Splits (l : List ByteArray) (k : ByteArray) (i : Nat) : Prop := i ≤ l.length ∧ (∀ j (hj : j < l.length), j < i → ltS l[j] k = true) ∧ ∀ j (hj : j < l.length), i ≤ j → ltS l[j] k = false

theorem splits_seek : ∀ {l : List ByteArray} {k : ByteArray} {i : Nat}, Splits l k i → seekL l k = l[i]?
  | [], k, i, h => by simp [seekL]
  | a :: l, k, 0, ⟨_, _, h⟩ => by
    have := h 0 (by simp) (Nat.le_refl _)
    simp only [List.getElem_cons_zero] at this
    simp [seekL, this]
  | a :: l, k, i + 1, ⟨h1, h2, h3⟩ => by
    have h0 := h2 0 (by simp) (by omega)
    simp only [List.getElem_cons_zero] at h0
    have ih := splits_seek (l := l) (k := k) (i := i) ⟨by simpa using h1, fun j hj h => h2 (j + 1) (by simpa using hj) (by omega), fun j hj h => h3 (j + 1) (by simpa using hj) (by omega)⟩
    unfold seekL at *
    rw [List.find?_cons, h0]
    simpa using ih

theorem up_below {l : List ByteArray} (h : Up l) {k : ByteArray} {i j : Nat} (hi : i < l.length) (hj : j < l.length) (hji : j ≤ i) (hl : ltS l[i] k = true) : ltS l[j] k = true := by
  by_cases e : j = i
  · subst e; exact hl
  · exact ltS_trans (List.pairwise_iff_getElem.1 h j i hj hi (by omega)) hl
theorem up_above {l : List ByteArray} (h : Up l) {k : ByteArray} {i j : Nat} (hi : i < l.length) (hj : j < l.length) (hji : i ≤ j) (hl : ltS l[i] k = false) : ltS l[j] k = false := by
  cases hj' : ltS l[j] k with
  | false => rfl
  | true => rw [up_below h hj hi hji hj'] at hl; cases hl

set_option maxHeartbeats 400000 in
theorem lessStr_any (a b : ByteArray) (w : World) : Calls Tryd.prog 33 #[.string a, .string b] w fun e w' => e = .returned (.bool (ltS a b)) ∧ w = w' := by
  have e1 := ByteArray.toList_eq a
  have e2 := ByteArray.toList_eq b
  cases h : ltS a b with
  | true =>
    have h2 := h
    unfold ltS at h2
    rw [e1, e2] at h2
    clear h
    go_enter Tryd.func33, Tryd.ntmps33
    go_wp2
    go_ret
    exact ⟨rfl, rfl⟩
  | false =>
    have h2 := h
    unfold ltS at h2
    rw [e1, e2] at h2
    clear h
    go_enter Tryd.func33, Tryd.ntmps33
    go_wp2
    go_ret
    exact ⟨rfl, rfl⟩

end Go.Proofs.YtcglegipdlaoiaaDoor
