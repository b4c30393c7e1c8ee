/- The walk of drop.walk, for whatever function it is handed. The walk of (*drop.first).is. The walks of drop.Keep, drop.At and drop.Newest's function values. The walks of drop.At's and drop.Newest's function values. The walks of drop.Keep, drop.At and drop.Newest. The walks of sentryref18's Check, Entries and First. The walks of sentryref18's Keep and At. The walks of sentrylaw18's few and rows. The walks of sentrylaw02.CodecInner, CodecOuter and CodecOrder. Plain laws of rows of inner keys: order, sortedness. Plain laws: what drop.Keep, At, Newest answer on rows of inner keys is what the document says. No condition: lemmas. -/
import Derived.Deep.DeepMust
import Derived.BigQuiet
import Derived.Sort.Walk0
import Derived.Test.YtmmeofiocbfamaaGreatDoorZ7
import Derived.Test.YtmmeofiocbfamaaGreatDoorZ1
import Derived.Test.YtmmeofiocbfamaaGreatDoorZ18
import Derived.Test.YtmmeofiocbfamaaGreatDoorZ6
namespace Go.Proofs.YtmmeofiocbfamaaGreatDoor
open Go Go.RowKit

/-- What a round of the handed function may turn: not what lies below B0, nor what lies from Bw to M. -/
def Spares (B0 Bw M : Nat) (w w' : World) : Prop := Below B0 w w' ∧ ∀ b, Bw ≤ b → b < M → w'.heap[b]? = w.heap[b]?
theorem Spares.refl (B0 Bw M : Nat) (w : World) : Spares B0 Bw M w w := ⟨Below.refl _ _, fun _ _ _ => rfl⟩
theorem Spares.trans {B0 Bw M : Nat} {a b c : World} (h : Spares B0 Bw M a b) (k : Spares B0 Bw M b c) : Spares B0 Bw M a c := ⟨h.1.trans k.1, fun x h1 h2 => (k.2 x h1 h2).trans (h.2 x h1 h2)⟩

theorem codeOf_none {l : List ByteArray} {i : Nat} (hi : i < l.length) (h : deco l[i] = none) : codeOf l = 9 := by
  unfold codeOf; rw [if_pos ⟨_, List.getElem_mem hi, h⟩]
theorem codeOf_falls {l : List ByteArray} (ha : ∀ i (hi : i < l.length), deco l[i] ≠ none) {i : Nat} (hi : i + 1 < l.length) (h : ltS l[i] l[i + 1] = false) : codeOf l = 11 := by
  unfold codeOf
  rw [if_neg (by rintro ⟨k, hk, h⟩; obtain ⟨i, hi, rfl⟩ := List.getElem_of_mem hk; exact ha i hi h), if_neg (fun hr => by have := hr i hi; rw [h] at this; cases this)]
theorem codeOf_ok {l : List ByteArray} (ha : ∀ i (hi : i < l.length), deco l[i] ≠ none) (h : Rises l) : codeOf l = 0 := by
  unfold codeOf
  rw [if_neg (by rintro ⟨k, hk, h⟩; obtain ⟨i, hi, rfl⟩ := List.getElem_of_mem hk; exact ha i hi h), if_pos h]

/-- The entries that a row's first inner keys tell. -/
def decos (l : List ByteArray) : List Ent := l.filterMap deco
theorem decos_take (l : List ByteArray) (i : Nat) (hi : i < l.length) (x : Ent) (h : deco l[i] = some x) : decos (l.take (i + 1)) = decos (l.take i) ++ [x] := by
  rw [List.take_succ_eq_append_getElem hi]; simp only [decos, List.filterMap_append, List.filterMap_cons, h, List.filterMap_nil]
theorem decos_length (l : List ByteArray) (h : ∀ i (hi : i < l.length), deco l[i] ≠ none) : (decos l).length = l.length := by
  induction l with
  | nil => rfl
  | cons a l ih =>
    have h0 := h 0 (by simp)
    cases hd : deco a with
    | none => exact absurd hd h0
    | some x =>
      have := ih fun i hi => h (i + 1) (by simpa using hi)
      simp [decos, hd] at this ⊢
      exact this
theorem decos_get (l : List ByteArray) (h : ∀ i (hi : i < l.length), deco l[i] ≠ none) (i : Nat) (hi : i < l.length) : ∃ h', deco l[i] = some ((decos l)[i]'h') := by
  have hl := decos_length l h
  refine ⟨by omega, ?_⟩
  induction l generalizing i with
  | nil => simp at hi
  | cons a l ih =>
    have h0 := h 0 (by simp)
    cases hd : deco a with
    | none => exact absurd hd h0
    | some x =>
      have ht := fun i hi => h (i + 1) (by simpa using hi)
      have e : decos (a :: l) = x :: decos l := by simp [decos, hd]
      cases i with
      | zero => simp [e, hd]
      | succ i => simp only [e, List.getElem_cons_succ]; exact ih ht i (by simpa using hi) (decos_length l ht)
theorem decos_len_le (l : List ByteArray) : (decos l).length ≤ l.length := List.length_filterMap_le _ _

end Go.Proofs.YtmmeofiocbfamaaGreatDoor
namespace Go.Proofs.YtmmeofiocbfamaaGreatDoor
open Go Go.RowKit

/-- The first entry of a Key that isn't newer than a revision: the answer, and what is known behind it (the key, was one told, was there a key). -/
def isStep (rev : Nat) (s : ByteArray × Bool × Bool) (x : Ent) : Bool × (ByteArray × Bool × Bool) :=
  let s' := if s.2.2 = false ∨ x.1 ≠ s.1 then (x.1, false, true) else s
  if rev < x.2.1 ∨ s'.2.1 = true then (false, s') else (true, (s'.1, true, s'.2.2))

def firstC (rev : Nat) (s : ByteArray × Bool × Bool) : Array Value := #[.int .u64 rev, .string s.1, .bool s.2.1, .bool s.2.2]

end Go.Proofs.YtmmeofiocbfamaaGreatDoor
namespace Go.Proofs.YtmmeofiocbfamaaGreatDoor
open Go Go.RowKit

abbrev St := ByteArray × Bool × Bool
/-- drop.Keep's round. -/
def keepF (floor : Nat) (bottom : Bool) (a : St × List ByteArray) (y : ByteArray × Ent) : St × List ByteArray :=
  ((isStep floor a.1 y.2).2, if decide (floor < y.2.2.1) || ((isStep floor a.1 y.2).1 && !(y.2.2.2 && bottom)) then a.2 ++ [y.1] else a.2)
/-- drop.At's round. -/
def atF (rev : Nat) (a : St × List ByteArray) (y : ByteArray × Ent) : St × List ByteArray :=
  ((isStep rev a.1 y.2).2, if (isStep rev a.1 y.2).1 && !y.2.2.2 then a.2 ++ [y.2.1] else a.2)

theorem own_set {w : World} {M b : Nat} {e : TypeId} {v : Value} {xs : List Value} (h : Own w M e 1 v xs) (hb : b < M) (u : Value) : Own (w.setCell ⟨b, 0, none⟩ u) M e 1 v xs :=
  h.keep fun x hx _ => Below.heap_setCell w _ u x (show x ≠ b by omega)
theorem setAtB {w : World} {B b : Nat} {cs : Array Value} {e : TypeId} (h : Blk w B cs e) (hne : b ≠ B) (u : Value) : Blk (w.setCell ⟨b, 0, none⟩ u) B cs e := h.other (a := ⟨b, 0, none⟩) (Ne.symm hne) u

end Go.Proofs.YtmmeofiocbfamaaGreatDoor
namespace Go.Proofs.YtmmeofiocbfamaaGreatDoor
open Go Go.RowKit

end Go.Proofs.YtmmeofiocbfamaaGreatDoor
namespace Go.Proofs.YtmmeofiocbfamaaGreatDoor
open Go Go.RowKit

/-- A row's keys with the entries that they tell. -/
def pairs (l : List ByteArray) : List (ByteArray × Ent) := l.filterMap fun k => (deco k).map fun x => (k, x)
theorem pairs_take (l : List ByteArray) (i : Nat) (hi : i < l.length) (x : Ent) (h : deco l[i] = some x) : pairs (l.take (i + 1)) = pairs (l.take i) ++ [(l[i], x)] := by
  rw [List.take_succ_eq_append_getElem hi]; simp only [pairs, List.filterMap_append, List.filterMap_cons, h, List.filterMap_nil, Option.map_some]
theorem pairs_len_le (l : List ByteArray) : (pairs l).length ≤ l.length := List.length_filterMap_le _ _
abbrev s0 : St := (ByteArray.empty, false, false)
theorem fold_len {f : St × List ByteArray → ByteArray × Ent → St × List ByteArray} (hf : ∀ a y, (f a y).2.length ≤ a.2.length + 1) : ∀ (ys : List (ByteArray × Ent)) (a : St × List ByteArray), (ys.foldl f a).2.length ≤ a.2.length + ys.length
  | [], a => by simp
  | y :: ys, a => by
    have h1 := fold_len hf ys (f a y)
    have h2 := hf a y
    simp only [List.foldl_cons, List.length_cons]
    omega
theorem keepF_len (floor : Nat) (bottom : Bool) (a : St × List ByteArray) (y : ByteArray × Ent) : (keepF floor bottom a y).2.length ≤ a.2.length + 1 := by
  unfold keepF; dsimp only; split <;> simp
theorem atF_len (rev : Nat) (a : St × List ByteArray) (y : ByteArray × Ent) : (atF rev a y).2.length ≤ a.2.length + 1 := by
  unfold atF; dsimp only; split <;> simp
theorem acc_len {f : St × List ByteArray → ByteArray × Ent → St × List ByteArray} (hf : ∀ a y, (f a y).2.length ≤ a.2.length + 1) (l : List ByteArray) (n : Nat) : ((pairs (l.take n)).foldl f (s0, [])).2.length ≤ l.length := by
  have h1 := fold_len hf (pairs (l.take n)) (s0, [])
  have h2 := pairs_len_le (l.take n)
  rw [List.length_take] at h2
  simp only [List.length_nil] at h1
  omega

/-- P18.1: what drop.Keep keeps; what drop.At tells. -/
def keepL (floor : Nat) (bottom : Bool) (l : List ByteArray) : List ByteArray := ((pairs l).foldl (keepF floor bottom) (s0, [])).2
def atL (rev : Nat) (l : List ByteArray) : List ByteArray := ((pairs l).foldl (atF rev) (s0, [])).2
def newL (l : List ByteArray) : Nat := (pairs l).foldl (fun n y => max n y.2.2.1) 0

theorem Below.spares {M B0 Bw bF bO : Nat} {w w' : World} (h : Kept (fun b => b < M ∧ b ≠ bF ∧ b ≠ bO) w w') (hF : B0 ≤ bF ∧ bF < Bw) (hO : B0 ≤ bO ∧ bO < Bw) (hM : Bw ≤ M) : Spares B0 Bw M w w' :=
  ⟨h.below fun b hb => ⟨by omega, by omega, by omega⟩, fun b h1 h2 => h.block b ⟨h2, by omega, by omega⟩⟩

/-- What a call that answers with a row and an error returns. -/
def RetL (l : List ByteArray) (n : Nat) (w : World) (e : Ending) (w' : World) : Prop := ∃ v, e = .returned (.tuple #[v, .int .i64 n]) ∧ Sl (· < w'.heap.size) w' 1 v (sc l) ∧ Below w.heap.size w w'

open Classical in
noncomputable def keepR (floor : Nat) (bottom : Bool) (l : List ByteArray) : List ByteArray := if codeOf l = 0 then keepL floor bottom l else []
open Classical in
noncomputable def atR (rev : Nat) (l : List ByteArray) : List ByteArray := if codeOf l = 0 then atL rev l else []
open Classical in
noncomputable def newR (l : List ByteArray) : Nat := if codeOf l = 0 then newL l else 0


/-- What drop.Newest's function value keeps up. -/
def NewI (l : List ByteArray) (b _M n : Nat) (W : World) : Prop := Blk W b #[.int .u64 ((pairs (l.take n)).foldl (fun n y => max n y.2.2.1) 0 : Nat)] 51

end Go.Proofs.YtmmeofiocbfamaaGreatDoor
namespace Go.Proofs.YtmmeofiocbfamaaGreatDoor
open Go Go.RowKit

/-- What an inner key tells; nothing, if it tells nothing. -/
def decoD (s : ByteArray) : Ent := (deco s).getD (ByteArray.empty, 0, false)
theorem outV_decoD (s : ByteArray) : ∃ n : Int, outV (outerS s.data.toList) = .tuple #[.agg #[.string (decoD s).1, .int .u64 (decoD s).2.1, .bool (decoD s).2.2], .int .i64 n] ∧ (n = 0 ∧ deco s ≠ none ∨ n = 9 ∧ deco s = none) := by
  rw [outV_deco]
  unfold decoD
  cases deco s with
  | none => exact ⟨9, rfl, .inr ⟨rfl, rfl⟩⟩
  | some x => exact ⟨0, rfl, .inl ⟨rfl, by simp⟩⟩

/-- P18.1: is it the first of its Key whose Rev isn't greater? -/
def firstB (l : List Ent) (i rev : Nat) (h : i < l.length) : Bool := decide (l[i].2.1 ≤ rev) && (l.take i).all fun x => !(decide (x.1 = l[i].1) && decide (x.2.1 ≤ rev))

theorem firstB_out {l : List Ent} {i rev : Nat} {h : i < l.length} (hr : rev < l[i].2.1) : firstB l i rev h = false := by
  unfold firstB
  rw [decide_eq_false (by omega)]
  rfl
theorem firstB_hit {l : List Ent} {i rev j : Nat} {h : i < l.length} (hj : j < i) (hk : (l[j]'(by omega)).1 = l[i].1) (hr : (l[j]'(by omega)).2.1 ≤ rev) : firstB l i rev h = false := by
  unfold firstB
  rw [Bool.and_eq_false_iff]
  right
  rw [List.all_eq_false]
  refine ⟨l[j]'(by omega), List.mem_take_iff_getElem.2 ⟨j, by omega, rfl⟩, ?_⟩
  simp [hk, hr]
theorem firstB_ok {l : List Ent} {i rev : Nat} {h : i < l.length} (hr : l[i].2.1 ≤ rev) (ha : ∀ j (hj : j < l.length), j < i → ¬ (l[j].1 = l[i].1 ∧ l[j].2.1 ≤ rev)) : firstB l i rev h = true := by
  unfold firstB
  rw [Bool.and_eq_true, List.all_eq_true]
  refine ⟨by simpa using hr, fun x hx => ?_⟩
  obtain ⟨j, hj, rfl⟩ := List.mem_take_iff_getElem.1 hx
  have := ha j (by omega) (by omega)
  rw [Bool.not_eq_true', Bool.and_eq_false_iff, decide_eq_false_iff_not, decide_eq_false_iff_not]
  exact Classical.not_and_iff_not_or_not.1 this

end Go.Proofs.YtmmeofiocbfamaaGreatDoor
namespace Go.Proofs.YtmmeofiocbfamaaGreatDoor
open Go Go.RowKit

/-- Of the first n numbers those that are chosen, turned to texts. -/
def rk (c : Nat → Bool) (f : Nat → ByteArray) (n : Nat) : List ByteArray := (List.range n).filterMap fun i => if c i then some (f i) else none
theorem rk_hit {c : Nat → Bool} {f : Nat → ByteArray} {n : Nat} (h : c n = true) : rk c f (n + 1) = rk c f n ++ [f n] := by
  unfold rk; rw [List.range_succ, List.filterMap_append]; simp [h]
theorem rk_miss {c : Nat → Bool} {f : Nat → ByteArray} {n : Nat} (h : c n = false) : rk c f (n + 1) = rk c f n := by
  unfold rk; rw [List.range_succ, List.filterMap_append]; simp [h]
theorem rk_length (c : Nat → Bool) (f : Nat → ByteArray) (n : Nat) : (rk c f n).length ≤ n := by
  have := List.length_filterMap_le (fun i => if c i then some (f i) else none) (List.range n)
  rw [List.length_range] at this
  exact this

def keyD (l : List ByteArray) (i : Nat) : ByteArray := l.getD i ByteArray.empty
def eKey (l : List Ent) (i : Nat) : ByteArray := (l.getD i (ByteArray.empty, 0, false)).1
def firstD (l : List Ent) (i rev : Nat) : Bool := if h : i < l.length then firstB l i rev h else false
abbrev entD (l : List Ent) (i : Nat) : Ent := l.getD i (ByteArray.empty, 0, false)
/-- P18.1: does sentryref18.Keep keep number i? -/
def keepC (floor : Nat) (bottom : Bool) (l : List Ent) (i : Nat) : Bool := decide (floor < (entD l i).2.1) || (firstD l i floor && !((entD l i).2.2 && bottom))
def atC (rev : Nat) (l : List Ent) (i : Nat) : Bool := firstD l i rev && !(entD l i).2.2

theorem entD_get {l : List Ent} {i : Nat} (h : i < l.length) : entD l i = l[i] := by unfold entD; rw [List.getD_eq_getElem?_getD, List.getElem?_eq_getElem h]; rfl
theorem firstD_get {l : List Ent} {i rev : Nat} (h : i < l.length) : firstD l i rev = firstB l i rev h := by unfold firstD; rw [dif_pos h]

/-- It returns a row; nothing that was there has turned. -/
def RetS (l : List ByteArray) (w : World) (e : Ending) (w' : World) : Prop := ∃ v, e = .returned v ∧ Sl (· < w'.heap.size) w' 1 v (sc l) ∧ Below w.heap.size w w'

end Go.Proofs.YtmmeofiocbfamaaGreatDoor
namespace Go.Proofs.YtmmeofiocbfamaaGreatDoor
open Go Go.RowKit

/-- An entry's inner key. -/
def innerA (x : Ent) : ByteArray := ⟨(innerB x.1.data.toList x.2.1 x.2.2).toArray⟩
/-- Entries' inner keys, in order, each once. -/
def rowsL (es : List Ent) : List ByteArray := es.foldl (fun out x => (putS out (innerA x)).1) []

theorem putS_length : ∀ (l : List ByteArray) (k : ByteArray), (putS l k).1.length ≤ l.length + 1
  | [], k => by simp [putS]
  | a :: r, k => by
    have := putS_length r k
    unfold putS
    split
    · simp; omega
    · split <;> simp
theorem rows_length : ∀ (es : List Ent) (l : List ByteArray), (es.foldl (fun out x => (putS out (innerA x)).1) l).length ≤ l.length + es.length
  | [], l => by simp
  | x :: es, l => by
    have h1 := rows_length es (putS l (innerA x)).1
    have h2 := putS_length l (innerA x)
    simp only [List.foldl_cons, List.length_cons]
    omega

/-- Are entries few and short? -/
def fewB (es : List Ent) : Bool := es.all (fun x => decide (x.1.size ≤ 100)) && decide (es.length ≤ 100)

theorem fewB_long {es : List Ent} {i : Nat} (hi : i < es.length) (h : 100 < es[i].1.size) : fewB es = false := by
  unfold fewB
  rw [Bool.and_eq_false_iff]
  left
  rw [List.all_eq_false]
  exact ⟨_, List.getElem_mem hi, by simp; omega⟩
theorem fewB_short {es : List Ent} (h : ∀ i (hi : i < es.length), es[i].1.size ≤ 100) : fewB es = decide (es.length ≤ 100) := by
  unfold fewB
  rw [show es.all (fun x => decide (x.1.size ≤ 100)) = true from by
    rw [List.all_eq_true]
    intro x hx
    obtain ⟨i, hi, rfl⟩ := List.getElem_of_mem hx
    simpa using h i hi]
  rfl

end Go.Proofs.YtmmeofiocbfamaaGreatDoor
namespace Go.Proofs.YtmmeofiocbfamaaGreatDoor
open Go Go.RowKit

theorem outer_inner (k : List UInt8) (r : Nat) (d : Bool) (hr : U64 r) : outerS (innerB k r d) = some (k, r, d) := by
  have hl := hr.lt
  have hs : scan (innerB k r d) = some (k, be8 (flip64 r) ++ [if d then 0 else 1]) := by
    have := scan_esc k (be8 (flip64 r) ++ [if d then 0 else 1])
    rw [← this]
    simp [innerB]
  unfold outerS
  rw [hs]
  dsimp only
  have e : ∀ a : Nat, (UInt8.ofNat a).toNat = a % 256 := fun a => by simp
  have hv : revOf ((be8 (flip64 r) ++ [if d then 0 else 1]).take 8) 0 = r := by
    show revOf (be8 (flip64 r)) 0 = r
    simp only [revOf, be8, List.foldl_cons, List.foldl_nil, e]
    unfold flip64
    omega
  rw [hv]
  cases d <;> simp [be8]

end Go.Proofs.YtmmeofiocbfamaaGreatDoor
namespace Go.Proofs.YtmmeofiocbfamaaGreatDoor
open Go Go.RowKit

theorem ltS_iff (a b : ByteArray) : ltS a b = decide (a.data.toList < b.data.toList) := by
  unfold ltS
  rw [ByteArray.toList_eq, ByteArray.toList_eq]
  exact bytesLess_eq _ _
theorem ltS_irr (a : ByteArray) : ltS a a = false := by
  rw [ltS_iff]; simp [List.lt_irrefl]
theorem ltS_trans {a b c : ByteArray} (h : ltS a b = true) (k : ltS b c = true) : ltS a c = true := by
  rw [ltS_iff] at *
  simp only [decide_eq_true_eq] at *
  exact List.lt_trans h k
theorem ltS_total {a b : ByteArray} (h : ltS a b = false) (hne : a ≠ b) : ltS b a = true := by
  rw [ltS_iff] at *
  simp only [decide_eq_true_eq, decide_eq_false_iff_not] at *
  have h1 : b.data.toList ≤ a.data.toList := List.not_lt.1 h
  rcases List.le_iff_lt_or_eq.1 h1 with h2 | h2
  · exact h2
  · exact absurd (ByteArray.ext (by rw [← Array.toList_inj]; exact h2.symm)) hne

/-- A row rises, pair by pair. -/
def Up (l : List ByteArray) : Prop := l.Pairwise fun a b => ltS a b = true

theorem putS_mem : ∀ (l : List ByteArray) (k x : ByteArray), x ∈ (putS l k).1 ↔ x = k ∨ x ∈ l
  | [], k, x => by simp [putS]
  | a :: r, k, x => by
    have ih := putS_mem r k x
    unfold putS
    split
    · simp only [List.mem_cons, ih]
      constructor
      · rintro (h | h | h)
        · exact .inr (.inl h)
        · exact .inl h
        · exact .inr (.inr h)
      · rintro (h | h | h)
        · exact .inr (.inl h)
        · exact .inl h
        · exact .inr (.inr h)
    · split
      · rename_i h
        subst h
        simp
      · simp

theorem putS_up : ∀ (l : List ByteArray) (k : ByteArray), Up l → Up (putS l k).1
  | [], k, _ => by simp [putS, Up]
  | a :: r, k, h => by
    have hr : Up r := (List.pairwise_cons.1 h).2
    have ha := (List.pairwise_cons.1 h).1
    unfold putS
    split
    · rename_i hl
      refine List.pairwise_cons.2 ⟨fun x hx => ?_, putS_up r k hr⟩
      rcases (putS_mem r k x).1 hx with rfl | hx
      · exact hl
      · exact ha x hx
    · rename_i hl
      split
      · exact h
      · rename_i hne
        have hka : ltS k a = true := ltS_total (by simpa using hl) hne
        refine List.pairwise_cons.2 ⟨fun x hx => ?_, h⟩
        rcases List.mem_cons.1 hx with rfl | hx
        · exact hka
        · exact ltS_trans hka (ha x hx)

theorem Up.rises {l : List ByteArray} (h : Up l) : Rises l := fun i hi => List.pairwise_iff_getElem.1 h i (i + 1) (by omega) hi (by omega)

theorem deco_inner (x : Ent) (h : U64 x.2.1) : deco (innerA x) = some x := by
  obtain ⟨k, r, d⟩ := x
  unfold deco innerA
  rw [show (⟨(innerB k.data.toList r d).toArray⟩ : ByteArray).data.toList = innerB k.data.toList r d from rfl, outer_inner _ _ _ h]
  rfl

theorem fold_mem : ∀ (es : List Ent) (l : List ByteArray) (x : ByteArray), x ∈ es.foldl (fun out y => (putS out (innerA y)).1) l ↔ x ∈ l ∨ ∃ e ∈ es, x = innerA e
  | [], l, x => by simp
  | e :: es, l, x => by
    rw [List.foldl_cons, fold_mem es, putS_mem]
    simp only [List.mem_cons, exists_eq_or_imp]
    constructor
    · rintro ((h | h) | h)
      · exact .inr (.inl h)
      · exact .inl h
      · exact .inr (.inr h)
    · rintro (h | h | h)
      · exact .inl (.inr h)
      · exact .inl (.inl h)
      · exact .inr h
theorem fold_up : ∀ (es : List Ent) (l : List ByteArray), Up l → Up (es.foldl (fun out y => (putS out (innerA y)).1) l)
  | [], _, h => h
  | _ :: es, l, h => fold_up es _ (putS_up l _ h)

theorem rowsL_up (es : List Ent) : Up (rowsL es) := fold_up es [] List.Pairwise.nil
theorem rowsL_mem (es : List Ent) (x : ByteArray) : x ∈ rowsL es ↔ ∃ e ∈ es, x = innerA e := by
  unfold rowsL; rw [fold_mem]; simp

/-- A row of inner keys of entries. -/
def Good (l : List ByteArray) : Prop := Up l ∧ ∀ k ∈ l, ∃ e : Ent, U64 e.2.1 ∧ k = innerA e
theorem rowsL_good (es : List Ent) (h : ∀ e ∈ es, U64 e.2.1) : Good (rowsL es) :=
  ⟨rowsL_up es, fun k hk => by obtain ⟨e, he, rfl⟩ := (rowsL_mem es k).1 hk; exact ⟨e, h e he, rfl⟩⟩
theorem Good.deco {l : List ByteArray} (h : Good l) {k : ByteArray} (hk : k ∈ l) : ∃ e : Ent, U64 e.2.1 ∧ k = innerA e ∧ Proofs.YtmmeofiocbfamaaGreatDoor.deco k = some e := by
  obtain ⟨e, he, rfl⟩ := h.2 k hk
  exact ⟨e, he, rfl, deco_inner e he⟩
theorem Good.code {l : List ByteArray} (h : Good l) : codeOf l = 0 :=
  codeOf_ok (fun i hi e => by obtain ⟨x, _, _, hx⟩ := h.deco (List.getElem_mem hi); rw [hx] at e; cases e) h.1.rises
theorem Good.sub {l m : List ByteArray} (h : Good l) (hs : m.Sublist l) : Good m := ⟨h.1.sublist hs, fun k hk => h.2 k (hs.subset hk)⟩

theorem inner_lt {a b : Ent} (ha : U64 a.2.1) (hb : U64 b.2.1) (h : ltS (innerA a) (innerA b) = true) : (a.1 = b.1 ∧ b.2.1 ≤ a.2.1) ∨ ltS a.1 b.1 = true := by
  unfold ltS at *
  rw [ByteArray.toList_eq, ByteArray.toList_eq] at *
  have := inner_less a.1.data.toList a.2.1 a.2.2 b.1.data.toList b.2.1 b.2.2 ha hb
  rw [show Op.bytesLess (innerA a).data.toList (innerA b).data.toList = Op.bytesLess (innerB a.1.data.toList a.2.1 a.2.2) (innerB b.1.data.toList b.2.1 b.2.2) from rfl, this] at h
  unfold lessE at h
  split at h
  · exact .inr h
  · rename_i hk
    left
    have hk : a.1.data.toList = b.1.data.toList := by simpa using hk
    refine ⟨ByteArray.ext (by rw [← Array.toList_inj]; exact hk), ?_⟩
    split at h
    · simp at h; omega
    · rename_i hr
      simp at hr
      omega

end Go.Proofs.YtmmeofiocbfamaaGreatDoor
namespace Go.Proofs.YtmmeofiocbfamaaGreatDoor
open Go Go.RowKit

/-- Entries of a row of inner keys: Keys rise, and of one Key the Revs fall. -/
def Fine (es : List Ent) : Prop := es.Pairwise fun a b => (a.1 = b.1 ∧ b.2.1 ≤ a.2.1) ∨ ltS a.1 b.1 = true

theorem decoD_of {k : ByteArray} {e : Ent} (h : deco k = some e) : decoD k = e := by unfold decoD; rw [h]; rfl

theorem Good.fine {l : List ByteArray} (h : Good l) : Fine (l.map decoD) := by
  unfold Fine
  rw [List.pairwise_map]
  refine List.Pairwise.imp_of_mem ?_ h.1
  intro a b ha hb hlt
  obtain ⟨x, hx, rfl, dx⟩ := h.deco ha
  obtain ⟨y, hy, rfl, dy⟩ := h.deco hb
  rw [decoD_of dx, decoD_of dy]
  exact inner_lt hx hy hlt

theorem good_pairs {l : List ByteArray} (h : Good l) : Proofs.YtmmeofiocbfamaaGreatDoor.pairs l = l.map fun k => (k, decoD k) := by
  unfold Proofs.YtmmeofiocbfamaaGreatDoor.pairs
  have : ∀ m : List ByteArray, (∀ k ∈ m, k ∈ l) → m.filterMap (fun k => (deco k).map fun x => (k, x)) = m.map fun k => (k, decoD k) := by
    intro m
    induction m with
    | nil => intro _; rfl
    | cons a m ih =>
      intro hm
      obtain ⟨e, _, _, he⟩ := h.deco (hm a (by simp))
      rw [List.filterMap_cons, he, List.map_cons, decoD_of he, ih (fun k hk => hm k (by simp [hk]))]
      rfl
  exact this l fun _ h => h

/-- What (*first).is knows behind some entries. -/
structure InvF (rev : Nat) (es : List Ent) (s : St) : Prop where
  none : es = [] → s.2.2 = false
  last : ∀ y ys, es = ys ++ [y] → s.2.2 = true ∧ s.1 = y.1 ∧ (s.2.1 = true ↔ ∃ z ∈ es, z.1 = y.1 ∧ z.2.1 ≤ rev)

theorem fine_new {ys : List Ent} {y x : Ent} (h : Fine (ys ++ [y] ++ [x])) (hne : x.1 ≠ y.1) : ¬ ∃ z ∈ ys ++ [y], z.1 = x.1 := by
  rintro ⟨z, hz, he⟩
  obtain ⟨h1, _, h2⟩ := List.pairwise_append.1 h
  have hyx := h2 y (by simp) x (by simp)
  rcases hyx with ⟨e, _⟩ | hyx
  · exact hne e.symm
  · rcases List.mem_append.1 hz with hz | hz
    · have hzy := (List.pairwise_append.1 h1).2.2 z hz y (by simp)
      rcases hzy with ⟨e, _⟩ | hzy
      · exact hne (he.symm.trans e)
      · have := ltS_trans hzy hyx
        rw [he, ltS_irr] at this
        cases this
    · obtain rfl : z = y := by simpa using hz
      exact hne he.symm

theorem inv_step {rev : Nat} {es : List Ent} {s : St} {x : Ent} (hf : Fine (es ++ [x])) (hi : InvF rev es s) :
    InvF rev (es ++ [x]) (isStep rev s x).2 ∧ ((isStep rev s x).1 = true ↔ x.2.1 ≤ rev ∧ ¬ ∃ z ∈ es, z.1 = x.1 ∧ z.2.1 ≤ rev) := by
  obtain ⟨k, sm, an⟩ := s
  have key : ∃ told : Bool, (if an = false ∨ x.1 ≠ k then (x.1, false, true) else (k, sm, an)) = (x.1, told, true) ∧ (told = true ↔ ∃ z ∈ es, z.1 = x.1 ∧ z.2.1 ≤ rev) := by
    rcases List.eq_nil_or_concat es with rfl | ⟨ys, y, rfl⟩
    · have := hi.none rfl
      simp only at this
      subst this
      exact ⟨false, by simp, by simp⟩
    · rw [List.concat_eq_append] at *
      obtain ⟨h1, h2, h3⟩ := hi.last y ys rfl
      simp only at h1 h2 h3
      subst h1 h2
      by_cases hk : x.1 = y.1
      · refine ⟨sm, by simp [hk], ?_⟩
        rw [hk]
        exact h3
      · refine ⟨false, by simp [hk], ?_⟩
        simp only [Bool.false_eq_true, false_iff]
        rintro ⟨z, hz, he, _⟩
        exact fine_new hf hk ⟨z, hz, he⟩
  obtain ⟨told, e, ht⟩ := key
  have hstep : isStep rev (k, sm, an) x = if rev < x.2.1 ∨ told = true then (false, (x.1, told, true)) else (true, (x.1, true, true)) := by
    unfold isStep
    simp only at e ⊢
    rw [e]
  rw [hstep]
  by_cases hc : rev < x.2.1 ∨ told = true
  · rw [if_pos hc]
    refine ⟨⟨fun h => by simp at h, fun y' ys' hy => ?_⟩, ?_⟩
    · obtain ⟨_, hxy⟩ := List.append_inj' hy rfl
      obtain rfl : x = y' := by simpa using hxy
      refine ⟨rfl, rfl, ?_⟩
      simp only
      rw [ht]
      constructor
      · rintro ⟨z, hz, h⟩; exact ⟨z, by simp [hz], h⟩
      · rintro ⟨z, hz, h⟩
        rcases List.mem_append.1 hz with hz | hz
        · exact ⟨z, hz, h⟩
        · obtain rfl : z = x := by simpa using hz
          rcases hc with hc | hc
          · have := h.2; omega
          · exact ht.1 hc
    · simp only [Bool.false_eq_true, false_iff, not_and, Classical.not_not]
      intro h
      rcases hc with hc | hc
      · omega
      · exact ht.1 hc
  · rw [if_neg hc]
    have h1 : x.2.1 ≤ rev := by have := fun h => hc (.inl h); omega
    have h2 : ¬ told = true := fun h => hc (.inr h)
    refine ⟨⟨fun h => by simp at h, fun y' ys' hy => ?_⟩, ?_⟩
    · obtain ⟨_, hxy⟩ := List.append_inj' hy rfl
      obtain rfl : x = y' := by simpa using hxy
      exact ⟨rfl, rfl, by simp only [true_iff]; exact ⟨x, by simp, rfl, h1⟩⟩
    · simp only [true_iff]
      exact ⟨h1, fun h => h2 (ht.2 h)⟩

end Go.Proofs.YtmmeofiocbfamaaGreatDoor
