/- The walk of drop.walk, for whatever function it is handed. No condition: lemmas. -/
import Derived.Test.YtcglegipdlaoiaaDoorDropA
import Derived.Test.YtcglegipdlaoiaaDoorGround
import Derived.Deep.DeepMust
import Derived.BigQuiet
namespace Go.Proofs.YtcglegipdlaoiaaDoor
open Go Go.RowKit

/-- What a round of the handed function may turn: not what lies below B0, nor what lies from Bw to M. -/
def Spares (B0 Bw M : Nat) (w w' : World) : Prop := Below B0 w w' ∧ ∀ b, Bw ≤ b → b < M → w'.heap[b]? = w.heap[b]?
theorem Spares.refl (B0 Bw M : Nat) (w : World) : Spares B0 Bw M w w := ⟨Below.refl _ _, fun _ _ _ => rfl⟩
theorem Spares.trans {B0 Bw M : Nat} {a b c : World} (h : Spares B0 Bw M a b) (k : Spares B0 Bw M b c) : Spares B0 Bw M a c := ⟨h.1.trans k.1, fun x h1 h2 => (k.2 x h1 h2).trans (h.2 x h1 h2)⟩

theorem codeOf_none {l : List ByteArray} {i : Nat} (hi : i < l.length) (h : deco l[i] = none) : codeOf l = 9 := by
  unfold codeOf; rw [if_pos ⟨_, List.getElem_mem hi, h⟩]
theorem codeOf_falls {l : List ByteArray} (ha : ∀ i (hi : i < l.length), deco l[i] ≠ none) {i : Nat} (hi : i + 1 < l.length) (h : ltS l[i] l[i + 1] = false) : codeOf l = 11 := by
  unfold codeOf
  rw [if_neg (by rintro ⟨k, hk, h⟩; obtain ⟨i, hi, rfl⟩ := List.getElem_of_mem hk; exact ha i hi h), if_neg (fun hr => by have := hr i hi; rw [h] at this; cases this)]
theorem codeOf_ok {l : List ByteArray} (ha : ∀ i (hi : i < l.length), deco l[i] ≠ none) (h : Rises l) : codeOf l = 0 := by
  unfold codeOf
  rw [if_neg (by rintro ⟨k, hk, h⟩; obtain ⟨i, hi, rfl⟩ := List.getElem_of_mem hk; exact ha i hi h), if_pos h]

/-- The entries that a row's first inner keys tell. -/
def decos (l : List ByteArray) : List Ent := l.filterMap deco
theorem decos_take (l : List ByteArray) (i : Nat) (hi : i < l.length) (x : Ent) (h : deco l[i] = some x) : decos (l.take (i + 1)) = decos (l.take i) ++ [x] := by
  rw [List.take_succ_eq_append_getElem hi]; simp only [decos, List.filterMap_append, List.filterMap_cons, h, List.filterMap_nil]
theorem decos_length (l : List ByteArray) (h : ∀ i (hi : i < l.length), deco l[i] ≠ none) : (decos l).length = l.length := by
  induction l with
  | nil => rfl
  | cons a l ih =>
    have h0 := h 0 (by simp)
    cases hd : deco a with
    | none => exact absurd hd h0
    | some x =>
      have := ih fun i hi => h (i + 1) (by simpa using hi)
      simp [decos, hd] at this ⊢
      exact this
theorem decos_get (l : List ByteArray) (h : ∀ i (hi : i < l.length), deco l[i] ≠ none) (i : Nat) (hi : i < l.length) : ∃ h', deco l[i] = some ((decos l)[i]'h') := by
  have hl := decos_length l h
  refine ⟨by omega, ?_⟩
  induction l generalizing i with
  | nil => simp at hi
  | cons a l ih =>
    have h0 := h 0 (by simp)
    cases hd : deco a with
    | none => exact absurd hd h0
    | some x =>
      have ht := fun i hi => h (i + 1) (by simpa using hi)
      have e : decos (a :: l) = x :: decos l := by simp [decos, hd]
      cases i with
      | zero => simp [e, hd]
      | succ i => simp only [e, List.getElem_cons_succ]; exact ih ht i (by simpa using hi) (decos_length l ht)
theorem decos_len_le (l : List ByteArray) : (decos l).length ≤ l.length := List.length_filterMap_le _ _

end Go.Proofs.YtcglegipdlaoiaaDoor

namespace Go.Proofs.YtcglegipdlaoiaaDoor
open Go Go.RowKit

/-- The first entry of a Key that isn't newer than a revision: the answer, and what is known behind it (the key, was one told, was there a key). -/
def isStep (rev : Nat) (s : ByteArray × Bool × Bool) (x : Ent) : Bool × (ByteArray × Bool × Bool) :=
  let s' := if s.2.2 = false ∨ x.1 ≠ s.1 then (x.1, false, true) else s
  if rev < x.2.1 ∨ s'.2.1 = true then (false, s') else (true, (s'.1, true, s'.2.2))

def firstC (rev : Nat) (s : ByteArray × Bool × Bool) : Array Value := #[.int .u64 rev, .string s.1, .bool s.2.1, .bool s.2.2]

end Go.Proofs.YtcglegipdlaoiaaDoor

namespace Go.Proofs.YtcglegipdlaoiaaDoor
open Go Go.RowKit

abbrev St := ByteArray × Bool × Bool
/-- drop.Keep's round. -/
def keepF (floor : Nat) (bottom : Bool) (a : St × List ByteArray) (y : ByteArray × Ent) : St × List ByteArray :=
  ((isStep floor a.1 y.2).2, if decide (floor < y.2.2.1) || ((isStep floor a.1 y.2).1 && !(y.2.2.2 && bottom)) then a.2 ++ [y.1] else a.2)
/-- drop.At's round. -/
def atF (rev : Nat) (a : St × List ByteArray) (y : ByteArray × Ent) : St × List ByteArray :=
  ((isStep rev a.1 y.2).2, if (isStep rev a.1 y.2).1 && !y.2.2.2 then a.2 ++ [y.2.1] else a.2)

theorem own_set {w : World} {M b : Nat} {e : TypeId} {v : Value} {xs : List Value} (h : Own w M e 1 v xs) (hb : b < M) (u : Value) : Own (w.setCell ⟨b, 0, none⟩ u) M e 1 v xs :=
  h.keep fun x hx _ => Below.heap_setCell w _ u x (show x ≠ b by omega)
theorem setAtB {w : World} {B b : Nat} {cs : Array Value} {e : TypeId} (h : Blk w B cs e) (hne : b ≠ B) (u : Value) : Blk (w.setCell ⟨b, 0, none⟩ u) B cs e := h.other (a := ⟨b, 0, none⟩) (Ne.symm hne) u

end Go.Proofs.YtcglegipdlaoiaaDoor

namespace Go.Proofs.YtcglegipdlaoiaaDoor
open Go Go.RowKit

end Go.Proofs.YtcglegipdlaoiaaDoor

namespace Go.Proofs.YtcglegipdlaoiaaDoor
open Go Go.RowKit

/-- A row's keys with the entries that they tell. -/
def pairs (l : List ByteArray) : List (ByteArray × Ent) := l.filterMap fun k => (deco k).map fun x => (k, x)
theorem pairs_take (l : List ByteArray) (i : Nat) (hi : i < l.length) (x : Ent) (h : deco l[i] = some x) : pairs (l.take (i + 1)) = pairs (l.take i) ++ [(l[i], x)] := by
  rw [List.take_succ_eq_append_getElem hi]; simp only [pairs, List.filterMap_append, List.filterMap_cons, h, List.filterMap_nil, Option.map_some]
theorem pairs_len_le (l : List ByteArray) : (pairs l).length ≤ l.length := List.length_filterMap_le _ _
abbrev s0 : St := (ByteArray.empty, false, false)
theorem fold_len {f : St × List ByteArray → ByteArray × Ent → St × List ByteArray} (hf : ∀ a y, (f a y).2.length ≤ a.2.length + 1) : ∀ (ys : List (ByteArray × Ent)) (a : St × List ByteArray), (ys.foldl f a).2.length ≤ a.2.length + ys.length
  | [], a => by simp
  | y :: ys, a => by
    have h1 := fold_len hf ys (f a y)
    have h2 := hf a y
    simp only [List.foldl_cons, List.length_cons]
    omega
theorem keepF_len (floor : Nat) (bottom : Bool) (a : St × List ByteArray) (y : ByteArray × Ent) : (keepF floor bottom a y).2.length ≤ a.2.length + 1 := by
  unfold keepF; dsimp only; split <;> simp
theorem atF_len (rev : Nat) (a : St × List ByteArray) (y : ByteArray × Ent) : (atF rev a y).2.length ≤ a.2.length + 1 := by
  unfold atF; dsimp only; split <;> simp
theorem acc_len {f : St × List ByteArray → ByteArray × Ent → St × List ByteArray} (hf : ∀ a y, (f a y).2.length ≤ a.2.length + 1) (l : List ByteArray) (n : Nat) : ((pairs (l.take n)).foldl f (s0, [])).2.length ≤ l.length := by
  have h1 := fold_len hf (pairs (l.take n)) (s0, [])
  have h2 := pairs_len_le (l.take n)
  rw [List.length_take] at h2
  simp only [List.length_nil] at h1
  omega

/-- P18.1: what drop.Keep keeps; what drop.At tells. -/
def keepL (floor : Nat) (bottom : Bool) (l : List ByteArray) : List ByteArray := ((pairs l).foldl (keepF floor bottom) (s0, [])).2
def atL (rev : Nat) (l : List ByteArray) : List ByteArray := ((pairs l).foldl (atF rev) (s0, [])).2
def newL (l : List ByteArray) : Nat := (pairs l).foldl (fun n y => max n y.2.2.1) 0

theorem Below.spares {M B0 Bw bF bO : Nat} {w w' : World} (h : Kept (fun b => b < M ∧ b ≠ bF ∧ b ≠ bO) w w') (hF : B0 ≤ bF ∧ bF < Bw) (hO : B0 ≤ bO ∧ bO < Bw) (hM : Bw ≤ M) : Spares B0 Bw M w w' :=
  ⟨h.below fun b hb => ⟨by omega, by omega, by omega⟩, fun b h1 h2 => h.block b ⟨h2, by omega, by omega⟩⟩

/-- What a call that answers with a row and an error returns. -/
def RetL (l : List ByteArray) (n : Nat) (w : World) (e : Ending) (w' : World) : Prop := ∃ v, e = .returned (.tuple #[v, .int .i64 n]) ∧ Sl (· < w'.heap.size) w' 1 v (sc l) ∧ Below w.heap.size w w'

open Classical in
noncomputable def keepR (floor : Nat) (bottom : Bool) (l : List ByteArray) : List ByteArray := if codeOf l = 0 then keepL floor bottom l else []
open Classical in
noncomputable def atR (rev : Nat) (l : List ByteArray) : List ByteArray := if codeOf l = 0 then atL rev l else []
open Classical in
noncomputable def newR (l : List ByteArray) : Nat := if codeOf l = 0 then newL l else 0


/-- What drop.Newest's function value keeps up. -/
def NewI (l : List ByteArray) (b _M n : Nat) (W : World) : Prop := Blk W b #[.int .u64 ((pairs (l.take n)).foldl (fun n y => max n y.2.2.1) 0 : Nat)] 23

end Go.Proofs.YtcglegipdlaoiaaDoor
