/- The common ground of this seat's proofs: what a slice reads as in memory (its cells), a footprint of blocks, what may be appended to, and the law of append. No condition: lemmas. -/
import Derived.Test.YtcglegipdlaoiaaDoorProg
import Derived.WalkKit
import Derived.WalkSpells
import Derived.WalkLawsBesides
import Derived.Lib.Hide
import Derived.Lib.AppendStr
import Derived.Deep.RegionHeld
namespace Go.Proofs.YtcglegipdlaoiaaDoor
open Go Go.RowKit

/-- What an element type's row of the table says. -/
structure ElemT (P : Program) (t e : TypeId) (size bytes : Nat) : Prop where
  und : P.underlying t = some (.slice e)
  row : ∃ i z, P.info? e = some i ∧ i.zero = some z ∧ i.size = size ∧ i.bytes = bytes ∧ z.cells.size = size
  pos : 0 < size

theorem ElemT.mk' {P : Program} {t e : TypeId} {z : Value} {size bytes : Nat} (h1 : P.underlying t = some (.slice e))
    (h2 : (P.info? e).map (fun i => (i.zero, i.size, i.bytes)) = some (some z, size, bytes)) (h3 : z.cells.size = size) (h4 : 0 < size) : ElemT P t e size bytes := by
  obtain ⟨i, a, b, c, d⟩ := info_parts h2
  exact ⟨h1, ⟨i, z, a, b, c, d, h3⟩, h4⟩

/-- The worlds agree on the blocks of S. -/
def Same (S : Nat → Prop) (w w' : World) : Prop := ∀ b, S b → w'.heap[b]? = w.heap[b]?

theorem Same.refl (S : Nat → Prop) (w : World) : Same S w w := fun _ _ => rfl
theorem Same.trans {S : Nat → Prop} {a b c : World} (h : Same S a b) (k : Same S b c) : Same S a c := fun x hx => (k x hx).trans (h x hx)
theorem Same.mono {S T : Nat → Prop} {a b : World} (h : Same S a b) (k : ∀ x, T x → S x) : Same T a b := fun x hx => h x (k x hx)
theorem Same.below {B : Nat} {a b : World} (h : Below B a b) : Same (· < B) a b := fun x hx => h.block x hx
theorem Same.cell {S : Nat → Prop} {a b : World} (h : Same S a b) {p : Addr} (hp : S p.block) : b.cell? p = a.cell? p := World.cell?_of_block (h _ hp)

/-- The slice v, of elements of sz cells each, reads in w as the cells xs; the array lies in a block of S. -/
def Sl (S : Nat → Prop) (w : World) (sz : Nat) (v : Value) (xs : List Value) : Prop :=
  ∃ ao n c, v = .slice ao n c ∧ xs.length = n * sz ∧ n ≤ c ∧ c ≤ maxLen ∧ (ao = none → c = 0) ∧
    (xs ≠ [] → ∃ b off, ao = some ⟨b, off, none⟩ ∧ S b ∧ ∀ j u, xs[j]? = some u → w.cell? ⟨b, off + j, none⟩ = some u)

theorem Sl.same {S : Nat → Prop} {w w' : World} {sz : Nat} {v : Value} {xs : List Value} (h : Sl S w sz v xs) (hs : Same S w w') : Sl S w' sz v xs := by
  obtain ⟨ao, n, c, rfl, h1, h2, h3, h4, h5⟩ := h
  refine ⟨ao, n, c, rfl, h1, h2, h3, h4, fun hne => ?_⟩
  obtain ⟨b, off, rfl, hb, hc⟩ := h5 hne
  exact ⟨b, off, rfl, hb, fun j u hu => (hs.cell (p := ⟨b, off + j, none⟩) hb).trans (hc j u hu)⟩

theorem Sl.mono {S T : Nat → Prop} {w : World} {sz : Nat} {v : Value} {xs : List Value} (h : Sl S w sz v xs) (hs : ∀ b, S b → T b) : Sl T w sz v xs := by
  obtain ⟨ao, n, c, rfl, h1, h2, h3, h4, h5⟩ := h
  refine ⟨ao, n, c, rfl, h1, h2, h3, h4, fun hne => ?_⟩
  obtain ⟨b, off, rfl, hb, hc⟩ := h5 hne
  exact ⟨b, off, rfl, hs b hb, hc⟩

theorem Sl.nil (S : Nat → Prop) (w : World) (sz : Nat) : Sl S w sz (.slice none 0 0) [] := ⟨none, 0, 0, rfl, by simp, Nat.le_refl _, Nat.zero_le _, fun _ => rfl, fun h => absurd rfl h⟩

/-- A new block of cells reads as a slice of them. -/
theorem Sl.made (w : World) (S : Nat → Prop) (sz n : Nat) (e : TypeId) (cs : Array Value) (hn : cs.size = n * sz) (hm : n ≤ maxLen) (hS : S w.heap.size) :
    Sl S (w.alloc (.cells cs e)) sz (.slice (some ⟨w.heap.size, 0, none⟩) n n) cs.toList := by
  refine ⟨_, n, n, rfl, by simpa using hn, Nat.le_refl _, hm, (fun h => by cases h), fun _ => ⟨w.heap.size, 0, rfl, hS, fun j u hu => ?_⟩⟩
  rw [cell_of_row _ w.heap.size (0 + j) cs e (0, 0) (heap_alloc_new w _)]
  simpa using hu

theorem Sl.take {S : Nat → Prop} {w : World} {sz : Nat} {ao : Option Addr} {n c : Nat} {xs : List Value} (h : Sl S w sz (.slice ao n c) xs) (k : Nat) (hk : k ≤ n) : Sl S w sz (.slice ao k c) (xs.take (k * sz)) := by
  obtain ⟨ao', n', c', hv, h1, h2, h3, h4, h5⟩ := h
  cases hv
  have hkn := Nat.mul_le_mul_right sz hk
  refine ⟨ao, k, c, rfl, by rw [List.length_take]; omega, by omega, h3, h4, fun hne => ?_⟩
  obtain ⟨b, off, rfl, hb, hc⟩ := h5 (fun e => hne (by simp [e]))
  refine ⟨b, off, rfl, hb, fun j u hu => hc j u ?_⟩
  rw [List.getElem?_take] at hu
  split at hu
  · exact hu
  · cases hu

/-- A slice's tail, of elements of one cell, as the walk writes it where the cut does not stand at the capacity's end. -/
theorem Sl.drop {S : Nat → Prop} {w : World} {ao : Option Addr} {n c : Nat} {xs : List Value} (h : Sl S w 1 (.slice ao n c) xs) (k : Nat) (hk : k ≤ n) :
    Sl S w 1 (.slice (Option.map (fun x => x.add k) ao) (n - k) (c - k)) (xs.drop k) := by
  obtain ⟨ao', n', c', hv, h1, h2, h3, h4, h5⟩ := h
  cases hv
  refine ⟨_, n - k, c - k, rfl, by rw [List.length_drop]; omega, by omega, by omega, fun h => ?_, fun hne => ?_⟩
  · have := h4 (by simpa using h); omega
  · obtain ⟨b, off, rfl, hb, hc⟩ := h5 (fun e => hne (by simp [e]))
    refine ⟨b, off + k, by simp [Addr.add_lit], hb, fun j u hu => ?_⟩
    rw [List.getElem?_drop] at hu
    rw [Nat.add_assoc]
    exact hc _ u hu

theorem Sl.len {S : Nat → Prop} {w : World} {sz : Nat} {v : Value} {xs : List Value} (h : Sl S w sz v xs) : ∃ ao n c, v = .slice ao n c ∧ xs.length = n * sz ∧ n ≤ c ∧ c ≤ 9223372036854775807 := by
  obtain ⟨ao', n', c', hv, h1, h2, h3, h4, h5⟩ := h
  exact ⟨ao', n', c', hv, h1, h2, by unfold maxLen at h3; omega⟩

/-- What may be appended to without writing into memory from before block B: a row of the call's own, or a slice that is full. -/
def App (w : World) (B : Nat) (e : TypeId) (sz : Nat) (v : Value) (xs : List Value) : Prop :=
  (∃ n, w.ownsRow B e sz v n xs) ∨
    (∃ ao n, v = .slice ao n n ∧ xs.length = n * sz ∧ n ≤ maxLen ∧ (ao = none → n = 0) ∧ (xs ≠ [] → ∃ b off, ao = some ⟨b, off, none⟩ ∧ b < B ∧ ∀ j u, xs[j]? = some u → w.cell? ⟨b, off + j, none⟩ = some u))

theorem App.nil (w : World) (B : Nat) (e : TypeId) (sz : Nat) : App w B e sz (.slice none 0 0) [] := .inl ⟨0, World.ownsRow_nil w B e sz⟩

theorem ownsRow_sl {w : World} {B : Nat} {e : TypeId} {sz : Nat} {v : Value} {n : Nat} {xs : List Value} (h : w.ownsRow B e sz v n xs) (S : Nat → Prop) (hS : ∀ g, v.ownBlock = some g → S g) :
    Sl S w sz v xs := by
  rcases h.2 with ⟨rfl, rfl⟩ | ⟨g, cap, cur, rfl, hb, hg, hnc, hcm, hcs, htake⟩
  · have : xs = [] := List.eq_nil_of_length_eq_zero (by simpa using h.1)
    subst this
    exact Sl.nil S w sz
  · refine ⟨_, n, cap, rfl, h.1, hnc, hcm, (fun h => by cases h), fun _ => ⟨g, 0, rfl, hS g rfl, fun j u hu => ?_⟩⟩
    have hj : j < n * sz := by rw [← h.1]; exact (List.getElem?_eq_some_iff.1 hu).1
    rw [Nat.zero_add, h.cellAt j hj]
    exact hu

/-- The block that an appendable value owns, if it owns one. -/
theorem App.sl {w : World} {B : Nat} {e : TypeId} {sz : Nat} {v : Value} {xs : List Value} (h : App w B e sz v xs) : Sl (· < w.heap.size) w sz v xs := by
  rcases h with ⟨n, h⟩ | ⟨ao, n, rfl, h1, h2, h3, h4⟩
  · exact ownsRow_sl h _ (fun g hg => (h.lt g hg).2)
  · refine ⟨ao, n, n, rfl, h1, Nat.le_refl _, h2, h3, fun hne => ?_⟩
    obtain ⟨b, off, rfl, hb, hc⟩ := h4 hne
    refine ⟨b, off, rfl, ?_, hc⟩
    obtain ⟨u, hu⟩ : ∃ u, xs[0]? = some u := by
      cases xs with
      | nil => exact absurd rfl hne
      | cons x _ => exact ⟨x, rfl⟩
    exact World.block_lt_of_cell? w _ (hc 0 u hu)

/-- A slice that is full may be appended to. -/
theorem App.full {w : World} {B : Nat} {e : TypeId} {sz : Nat} {ao : Option Addr} {n : Nat} {xs : List Value} (h : Sl (· < B) w sz (.slice ao n n) xs) : App w B e sz (.slice ao n n) xs := by
  obtain ⟨ao', n', c', hv, h1, h2, h3, h4, h5⟩ := h
  simp only [Value.slice.injEq] at hv
  obtain ⟨rfl, rfl, rfl⟩ := hv
  exact .inr ⟨ao, n, rfl, h1, h3, h4, h5⟩

/-- What is appendable stays so where the blocks that were there have not turned. -/
theorem App.below {w w' : World} {B : Nat} {e : TypeId} {sz : Nat} {v : Value} {xs : List Value} (h : App w B e sz v xs) (hb : Below w.heap.size w w') : App w' B e sz v xs := by
  rcases h with ⟨n, h⟩ | ⟨ao, n, rfl, h1, h2, h3, h4⟩
  · refine .inl ⟨n, h.1, ?_⟩
    rcases h.2 with hn | ⟨g, cap, cur, rfl, hbg, hg, r⟩
    · exact .inl hn
    · exact .inr ⟨g, cap, cur, rfl, hbg, (hb.block g (Array.getElem?_eq_some_iff.1 hg).1).trans hg, r⟩
  · refine .inr ⟨ao, n, rfl, h1, h2, h3, fun hne => ?_⟩
    obtain ⟨b, off, rfl, hbB, hc⟩ := h4 hne
    exact ⟨b, off, rfl, hbB, fun j u hu => (hb.cell (p := ⟨b, off + j, none⟩) (World.block_lt_of_cell? w _ (hc j u hu))).trans (hc j u hu)⟩

/-- THE LAW OF APPEND, for the walk: whatever may be appended to, whatever is appended. -/
theorem wpList_app {P : Program} {w : World} {ops : Array Oper} {rest : List Oper} {o : Oper} {a : Act} {Q : Exit → Act → World → Prop} {t e : TypeId} {size bytes : Nat} (E : ElemT P t e size bytes)
    (hg : o.guard = none) (s x : Operand) (hop : o.op = Op.call { callee := Callee.builtin Builtin.append, args := #[s, x], argTypes := #[t, t] })
    {B : Nat} {v : Value} {xs : List Value} (hs : a.eval s = v) (happ : App w B e size v xs) {S : Nat → Prop} {y : Value} {news : List Value} (hx : a.eval x = y) (hy : Sl S w size y news) (h1 : ∀ u ∈ news, u.oneCell' = true)
    (hlen : xs.length + news.length ≤ 9223372036854775807) (hbytes : (xs.length + news.length) * bytes ≤ 140737488355328) (hB : B ≤ w.heap.size)
    (K : ∀ v' w', App w' B e size v' (xs ++ news) → Below B w w' → w.grownBy w' v.ownBlock → wpList P ops Q rest (a.put o.dst v') w') : wpList P ops Q (o :: rest) a w := by
  obtain ⟨hund, ⟨i, z, hi, hz, h4, h5, h6⟩, hpos⟩ := E
  obtain ⟨yo, m, c, rfl, hym, hmc, hcm, hyn, hyc⟩ := hy
  have e1 : ∀ k l : Nat, k ≤ l * size → l * size ≤ k → l ≤ k := fun k l _ hb => Nat.le_trans (Nat.le_mul_of_pos_right l hpos) hb
  rcases happ with ⟨n, hown⟩ | ⟨ao, n, rfl, hxn, hnm, hnone, hxc⟩
  · have hnl : n ≤ xs.length := e1 _ _ (Nat.le_of_eq hown.1) (Nat.le_of_eq hown.1.symm)
    have hml : m ≤ news.length := e1 _ _ (Nat.le_of_eq hym) (Nat.le_of_eq hym.symm)
    have hb63 : n + m ≤ maxLen := by unfold maxLen; omega
    have hb47 : (n + m) * bytes ≤ 140737488355328 := Nat.le_trans (Nat.mul_le_mul_right _ (by omega)) hbytes
    have fin : ∀ v' w', w'.ownsRow B e size v' (n + m) (xs ++ news) → w.grownBy w' v.ownBlock → wpList P ops Q rest (a.put o.dst v') w' :=
      fun v' w' h h' => K v' w' (.inl ⟨_, h⟩) ((Below.refl B w).grown h' hB (fun k hk => (hown.lt k hk).1)) h'
    cases yo with
    | some ad =>
      refine wpList_append_own w hg s x t hop B e i z size bytes hund hi hz h4 h5 h6 hpos v n xs hs hown ad m c news hx hym (fun j u hu => ?_) h1 hb63 hb47 hB (fun v' w' h h' _ => fin v' w' h h')
      obtain ⟨b, off, hbo, _, hcc⟩ := hyc (fun e => by subst e; simp at hu)
      cases hbo
      rw [Addr.add_lit]
      exact hcc j u hu
    | none =>
      have hc0 := hyn rfl
      obtain rfl : m = 0 := by omega
      obtain rfl : c = 0 := hc0
      obtain rfl : news = [] := List.eq_nil_of_length_eq_zero (by simpa using hym)
      refine wpList_plain hg fun K' hK' => ?_
      have hrun := run_append_owned_none (P := P) w B t o.type e i size hund hi v n xs hown
      unfold Oper.wp
      simp [execOp, hop, resolve, invoke, builtin, hs, hx, hrun, Result.andThen]
      exact hK' _ _ (fin _ _ (by simpa using hown) ⟨rfl, rfl, rfl, Nat.le_refl _, fun _ _ _ => rfl⟩)
  · have hnl : n ≤ xs.length := e1 _ _ (Nat.le_of_eq hxn) (Nat.le_of_eq hxn.symm)
    have hml : m ≤ news.length := e1 _ _ (Nat.le_of_eq hym) (Nat.le_of_eq hym.symm)
    have hb63 : n + m ≤ maxLen := by unfold maxLen; omega
    have hb47 : (n + m) * bytes ≤ 140737488355328 := Nat.le_trans (Nat.mul_le_mul_right _ (by omega)) hbytes
    by_cases hm0 : m = 0
    · subst hm0
      obtain rfl : news = [] := List.eq_nil_of_length_eq_zero (by simpa using hym)
      refine wpList_plain hg fun K' hK' => ?_
      have hfin : K' (a.put o.dst (.slice ao n n)) w := hK' _ _ (K _ _ (.inr ⟨ao, n, rfl, by simpa using hxn, hnm, hnone, by simpa using hxc⟩) (Below.refl B w) ⟨rfl, rfl, rfl, Nat.le_refl _, fun _ _ _ => rfl⟩)
      have hrun : (Builtin.append_ #[t, t] o.type #[.slice ao n n, .slice yo 0 c]).run P w = .ok (.slice ao n n) w := by
        cases ao with
        | none =>
          obtain rfl := hnone rfl
          cases yo <;> simp [Builtin.append_, run_underlying hund, sizeOf, typeInfo, hi, Builtin.lenOf, Builtin.firstCells, loadCells, loadCellsFrom]
        | some ad =>
          cases yo <;> simp [Builtin.append_, run_underlying hund, sizeOf, typeInfo, hi, Builtin.lenOf, Builtin.firstCells, loadCells, loadCellsFrom, storeCells]
      unfold Oper.wp
      simp [execOp, hop, resolve, invoke, builtin, hs, hx, hrun, Result.andThen]
      exact hfin
    · have hne : news ≠ [] := by
        intro e
        subst e
        have := Nat.mul_pos (Nat.pos_of_ne_zero hm0) hpos
        simp at hym
        omega
      obtain ⟨b, off, rfl, _, hcc⟩ := hyc hne
      refine wpList_append_grows w hg s x t hop e i z size bytes hund hi hz h4 h5 h6 hpos ao n n xs hs (fun h => ⟨hnone h, hnone h⟩) hxn (fun ad had j u hu => ?_) ⟨b, off, none⟩ m c news hx hym (fun j u hu => by rw [Addr.add_lit]; exact hcc j u hu) h1 (by omega) hb63 hb47 (fun v' w' h h' => ?_)
      · obtain ⟨b', off', hbo, _, hc'⟩ := hxc (fun e => by subst e; simp at hu)
        rw [had] at hbo
        cases hbo
        rw [Addr.add_lit]
        exact hc' j u hu
      · refine K v' w' (.inl ⟨n + m, h.1, ?_⟩) ((Below.refl B w).grown h' hB (fun k hk => by cases hk)) ⟨h'.os, h'.tape, h'.output, h'.size, fun k hk _ => h'.block k hk (by simp)⟩
        rcases h.2 with hn | ⟨g, cap, cur, hv, hbg, r⟩
        · exact .inl hn
        · exact .inr ⟨g, cap, cur, hv, by omega, r⟩

theorem grownBy_of_alloc {w w' : World} {o : Obj} {row : Option Nat} (h : (w.alloc o).grownBy w' row) : w.grownBy w' row :=
  ⟨h.os, h.tape, h.output, Nat.le_trans (by simp) h.size, fun k hk hr => (h.block k (by simp; omega) hr).trans (Below.heap_alloc w o k hk)⟩

/-- The same where what is appended is a literal list of elements, which the program lays in a new block first. -/
theorem wpList_app_lit {P : Program} {w : World} {ops : Array Oper} {rest : List Oper} {o : Oper} {a : Act} {Q : Exit → Act → World → Prop} {t e : TypeId} {size bytes : Nat} (E : ElemT P t e size bytes)
    (hg : o.guard = none) (s x : Operand) (hop : o.op = Op.call { callee := Callee.builtin Builtin.append, args := #[s, x], argTypes := #[t, t] })
    {B : Nat} {v : Value} {xs : List Value} (hs : a.eval s = v) (happ : App w B e size v xs) {cs : Array Value} {m : Nat} (hx : a.eval x = .slice (some ⟨w.heap.size, 0, none⟩) m m) (hm : cs.size = m * size) (h1 : ∀ u ∈ cs.toList, u.oneCell' = true)
    (hlen : xs.length + cs.size ≤ 9223372036854775807) (hbytes : (xs.length + cs.size) * bytes ≤ 140737488355328) (hB : B ≤ w.heap.size)
    (K : ∀ v' w', App w' B e size v' (xs ++ cs.toList) → Below B w w' → w.grownBy w' v.ownBlock → wpList P ops Q rest (a.put o.dst v') w') : wpList P ops Q (o :: rest) a (w.alloc (.cells cs e)) := by
  have hmm : m ≤ cs.size := by rw [hm]; exact Nat.le_mul_of_pos_right m E.pos
  refine wpList_app E hg s x hop hs (happ.below ((Below.refl _ _).alloc (Nat.le_refl _) _)) hx (Sl.made w (fun _ => True) size m e cs hm (by unfold maxLen; omega) trivial) h1 (by simpa using hlen) (by simpa using hbytes) (by simp; omega) (fun v' w' h h' h'' => ?_)
  exact K v' w' h (((Below.refl B w).alloc hB _).trans h') (grownBy_of_alloc h'')

/-- A part of a slice, of elements of one cell: whatever the walk writes for its address where the cut stands at the capacity's end. -/
theorem Sl.window {S : Nat → Prop} {w : World} {ao ao' : Option Addr} {n c : Nat} {xs : List Value} (h : Sl S w 1 (.slice ao n c) xs) (lo hi : Nat) (h1 : lo ≤ hi) (h2 : hi ≤ n)
    (hao : ¬ c = lo → ao' = Option.map (fun x => x.add lo) ao) : Sl S w 1 (.slice ao' (hi - lo) (c - lo)) ((xs.drop lo).take (hi - lo)) := by
  have hlen := h.len
  obtain ⟨_, _, _, hv, hl, hnc, _⟩ := hlen
  cases hv
  by_cases hc : c = lo
  · have : hi - lo = 0 := by omega
    have e : c - lo = 0 := by omega
    rw [this, e, List.take_zero]
    exact ⟨ao', 0, 0, rfl, rfl, Nat.le_refl _, Nat.zero_le _, fun _ => rfl, fun h => absurd rfl h⟩
  · rw [hao hc]
    have := (h.drop lo (by omega)).take (hi - lo) (by omega)
    rwa [Nat.mul_one] at this

/-- The law of append where what is appended is a string's bytes. -/
theorem wpList_app_str {P : Program} {w : World} {ops : Array Oper} {rest : List Oper} {o : Oper} {a : Act} {Q : Exit → Act → World → Prop} {t e u : TypeId} (hund : P.underlying t = some (.slice e)) (hu : P.underlying u = some .string)
    (hinfo : (P.info? e).map (fun i => (i.zero, i.size, i.bytes)) = some (some (.int .u8 0), 1, 1))
    (hg : o.guard = none) (s x : Operand) (hop : o.op = Op.call { callee := Callee.builtin Builtin.append, args := #[s, x], argTypes := #[t, u] })
    {B : Nat} {v : Value} {xs : List Value} (hs : a.eval s = v) (happ : App w B e 1 v xs) {str : ByteArray} (hx : a.eval x = .string str)
    (hlen : xs.length + str.size ≤ 140737488355328) (hB : B ≤ w.heap.size)
    (K : ∀ v' w', App w' B e 1 v' (xs ++ Lib.strCells str) → Below B w w' → w.grownBy w' v.ownBlock → wpList P ops Q rest (a.put o.dst v') w') : wpList P ops Q (o :: rest) a w := by
  obtain ⟨i, hi, hz, h4, h5⟩ := info_parts hinfo
  have own : ∀ n, w.ownsRow B e 1 v n xs → wpList P ops Q (o :: rest) a w := fun n hown => by
    have hn : xs.length = n := by simpa using hown.1
    exact Lib.wpList_append_own_string w hg s x t u hop B e i hund hu hi hz h4 h5 v n xs hs hown str hx (by unfold maxLen; omega) (by omega) hB
      (fun v' w' h h' _ => K v' w' (.inl ⟨_, h⟩) ((Below.refl B w).grown h' hB (fun k hk => (hown.lt k hk).1)) h')
  rcases happ with ⟨n, hown⟩ | ⟨ao, n, rfl, hxn, hnm, hnone, hxc⟩
  · exact own n hown
  · rw [Nat.mul_one] at hxn
    cases ao with
    | none =>
      obtain rfl := hnone rfl
      obtain rfl : xs = [] := List.eq_nil_of_length_eq_zero hxn
      exact own 0 (World.ownsRow_nil w B e 1)
    | some b0 =>
      by_cases hsz : str.size = 0
      · have he : Lib.strCells str = [] := List.eq_nil_of_length_eq_zero (by rw [Lib.strCells_length]; exact hsz)
        refine wpList_plain hg fun K' hK' => ?_
        have hfin : K' (a.put o.dst (.slice (some b0) n n)) w := hK' _ _ (K _ _ (.inr ⟨some b0, n, rfl, by simpa [he] using hxn, hnm, hnone, by simpa [he] using hxc⟩) (Below.refl B w) ⟨rfl, rfl, rfl, Nat.le_refl _, fun _ _ _ => rfl⟩)
        have hf := Lib.run_firstCells_string (P := P) w 1 str
        rw [hsz, he] at hf
        have hrun : (Builtin.append_ #[t, u] o.type #[.slice (some b0) n n, .string str]).run P w = .ok (.slice (some b0) n n) w := by
          simp [Builtin.append_, run_underlying hund, run_underlying hu, sizeOf, typeInfo, hi, h4, Builtin.lenOf, hsz, hf, storeCells]
        unfold Oper.wp
        simp [execOp, hop, resolve, invoke, builtin, hs, hx, hrun, Result.andThen]
        exact hfin
      · have holds : ∀ j u, xs[j]? = some u → w.cell? (b0.add j) = some u := fun j u hu => by
          obtain ⟨b, off, hbo, _, hc⟩ := hxc (fun e => by subst e; simp at hu)
          cases hbo
          rw [Addr.add_lit]
          exact hc j u hu
        have hr := Lib.run_append_grow_string (P := P) w t u o.type e i (.int .u8 0) hund hu hi hz b0 n n xs (by rw [h4]; omega) holds str (by omega) (by omega) (by rw [h5]; exact growslice_fits (by omega) (by omega))
        refine wpList_plain hg fun K' hK' => ?_
        unfold Oper.wp
        simp [execOp, hop, resolve, invoke, builtin, hs, hx, hr, Result.andThen]
        refine hK' _ _ (K _ _ (.inl ⟨n + str.size, ?_, .inr ⟨w.heap.size, _, _, rfl, hB, heap_alloc_new w.drew _, grownCap_ge w (n + str.size) n e, grownCap_le_maxLen w (n + str.size) n e (by unfold maxLen; omega), ?_, ?_⟩⟩)
          (((Below.refl B w).drew).alloc hB _) ⟨rfl, rfl, rfl, by simp, fun k hk _ => Below.heap_alloc w.drew _ k hk⟩)
        · rw [List.length_append, Lib.strCells_length, Nat.mul_one, hxn]
        · have hge := grownCap_ge w (n + str.size) n e
          have hz1 : (Value.int IntKind.u8 0).cells.size = 1 := rfl
          simp only [Array.size_append, List.size_toArray, size_zeroCells, hz1, List.length_append, hxn, Lib.strCells_length]
          omega
        · simp only [Array.toList_append, List.append_assoc]
          rw [← List.append_assoc, show (n + str.size) * 1 = (xs ++ Lib.strCells str).length from by rw [List.length_append, Lib.strCells_length, hxn, Nat.mul_one]]
          exact List.take_left

end Go.Proofs.YtcglegipdlaoiaaDoor

namespace Go.Proofs.YtcglegipdlaoiaaDoor
open Go Go.RowKit

/-- W is w with new blocks. -/
def Ext (w W : World) : Prop := Below w.heap.size w W
theorem Ext.refl (w : World) : Ext w w := Below.refl _ _
theorem Ext.trans {a b c : World} (h : Ext a b) (k : Ext b c) : Ext a c := Below.trans h (Below.mono k (Below.size h))
theorem Ext.drew (w : World) : Ext w w.drew := (Below.refl _ _).drew
theorem Ext.alloc (w : World) (o : Obj) : Ext w (w.alloc o) := (Below.refl _ _).alloc (Nat.le_refl _) o
theorem Ext.same {w W : World} (h : Ext w W) : Same (· < w.heap.size) w W := Same.below h
theorem Ext.size {w W : World} (h : Ext w W) : w.heap.size ≤ W.heap.size := Below.size h
theorem Ext.cell {w W : World} (h : Ext w W) {a : Addr} {v : Value} (hc : w.cell? a = some v) : W.cell? a = some v := (Below.cell h (World.block_lt_of_cell? w a hc)).trans hc

section
variable {P : Program} {ops : Array Oper} {Q : Exit → Act → World → Prop}

/-- May the schedule be followed: what is taken may come up and stands apart from what has not come up; what is made comes up alone. -/
def schedOk (ops : Array Oper) : List (Nat × Bool) → Array Bool → Bool
  | [], l => (Region.ready .any ops l).isEmpty
  | (i, true) :: r, l => Region.free .any ops l i && (Region.ready .any ops l).contains i && schedOk ops r (l.setIfInBounds i true)
  | (i, false) :: r, l => Region.ready .any ops l == [i] && schedOk ops r (l.setIfInBounds i true)

/-- What is to be shown along the schedule. -/
def Walk (P : Program) (ops : Array Oper) (Q : Exit → Act → World → Prop) : List (Nat × Bool) → Act → World → Prop
  | [], a, w => Q .normal a w
  | (i, true) :: r, a, w => ∃ o v, ops[i]? = some o ∧ YieldsIf P ops (Ext w) o v a ∧ Walk P ops Q r (a.put o.dst v) w
  | (i, false) :: r, a, w => ∃ o, ops[i]? = some o ∧ ∀ K' : Act → World → Prop, Shut (∀ a' w', Ext w w' → Walk P ops Q r a' w' → K' a' w') →
      if Region.wanted o (yielded ops a.tmps) = true then Oper.wp P o a w K' Q else K' (a.put o.dst undef) w

theorem wpOp_mono' {i : Nat} {K K' : Act → World → Prop} {a : Act} {w : World} (hk : ∀ a w, K a w → K' a w) (h : wpOp P ops Q i K a w) : wpOp P ops Q i K' a w := wpOp_mono hk h

theorem wpAnyH_mono {md : Region.Mode} {S S' : World → Prop} (hs : ∀ x, S' x → S x) : ∀ (fuel : Nat) (l : Array Bool) (a : Act) (w : World), wpAnyH P md ops Q S' fuel l a w → wpAnyH P md ops Q S fuel l a w
  | 0, _, _, _, h => h
  | fuel + 1, _, _, _, h => ⟨h.1, fun i hi => wpOp_mono' (fun a' w' h' => ⟨hs _ h'.1, wpAnyH_mono hs fuel _ a' w' h'.2⟩) (h.2 i hi)⟩

theorem walk_sound (hns : Region.noSelect ops = true) (hQ : ∀ c a d v w, Q (.panic c) (Act.put a d v) w → Q (.panic c) a w) :
    ∀ (s : List (Nat × Bool)) (k : Nat) (l : Array Bool) (a : Act) (w : World), schedOk ops s l = true → Walk P ops Q s a w → wpAnyH P .any ops Q (Ext w) (s.length + k) l a w
  | [], k, l, a, w, hok, h => wpAnyH_done (by simpa [schedOk] using hok) h _
  | (i, true) :: r, k, l, a, w, hok, ⟨o, v, ho, hy, h⟩ => by
    simp only [schedOk, Bool.and_eq_true] at hok
    have := walk_sound hns hQ r k (l.setIfInBounds i true) (a.put o.dst v) w hok.2 h
    rw [List.length_cons, Nat.add_right_comm]
    exact wpAnyH_take ho hns hok.1.1 hok.1.2 (fun c a w => hQ c a _ _ w) hy (Ext.refl w) this
  | (i, false) :: r, k, l, a, w, hok, ⟨o, ho, h⟩ => by
    simp only [schedOk, Bool.and_eq_true] at hok
    rw [List.length_cons, Nat.add_right_comm]
    refine wpAnyH_all (rs := [i]) (by simpa using hok.1) (by simp) (fun j hj => ?_)
    obtain rfl : j = i := by simpa using hj
    refine wpOp_step ho (fun K' hK => h K' (fun a' w' he hw => hK a' w' ⟨he, ?_⟩))
    exact wpAnyH_mono (fun x hx => he.trans hx) _ _ _ _ (walk_sound hns hQ r k (l.setIfInBounds j true) a' w' hok.2 hw)

/-- The beginning. -/
theorem region_walk {id : Nat} {a : Act} {w : World} (s : List (Nat × Bool)) (hm : P.follows .mixedOrders = true) (hns : Region.noSelect ops = true)
    (hok : schedOk ops s (Array.replicate ops.size false) = true) (hlen : s.length = ops.size) (hQ : ∀ c a d v w, Q (.panic c) (Act.put a d v) w → Q (.panic c) a w)
    (h : Walk P ops Q s a w.drew) : (Code.region id ops true).wp P Q a w := by
  refine wp_region_held (S := Ext w.drew) hm ?_
  have := walk_sound hns hQ s 0 _ a w.drew hok h
  rwa [Nat.add_zero, hlen] at this

theorem Walk.take {i : Nat} {r : List (Nat × Bool)} {a : Act} {w : World} (o : Oper) (v : Value) (ho : ops[i]? = some o) (hw : Region.wanted o (yielded ops a.tmps) = true)
    (hy : ∀ W, Ext w W → (execOp a.eval o).run P W = .ok (.value v) W) (h : Walk P ops Q r (a.put o.dst v) w) : Walk P ops Q ((i, true) :: r) a w := ⟨o, v, ho, .inl ⟨hw, hy⟩, h⟩

theorem Walk.pass {i : Nat} {r : List (Nat × Bool)} {a : Act} {w : World} (o : Oper) (ho : ops[i]? = some o) (hw : Region.wanted o (yielded ops a.tmps) = false)
    (h : Walk P ops Q r (a.put o.dst undef) w) : Walk P ops Q ((i, true) :: r) a w := ⟨o, undef, ho, .inr ⟨hw, rfl⟩, h⟩

theorem Walk.make {i : Nat} {r : List (Nat × Bool)} {a : Act} {w : World} (o : Oper) (ho : ops[i]? = some o) (hw : Region.wanted o (yielded ops a.tmps) = true)
    (h : ∀ K' : Act → World → Prop, Shut (∀ a' w', Ext w w' → Walk P ops Q r a' w' → K' a' w') → Oper.wp P o a w K' Q) : Walk P ops Q ((i, false) :: r) a w := ⟨o, ho, fun K' hK => by rw [if_pos hw]; exact h K' hK⟩
end

end Go.Proofs.YtcglegipdlaoiaaDoor

namespace Go.Proofs.YtcglegipdlaoiaaDoor
open Go Go.RowKit

/-- Block B holds just these cells, none frozen. -/
def Blk (w : World) (B : Nat) (cs : Array Value) (e : TypeId) : Prop := w.heap[B]? = some (.cells cs e (0, 0))

section
variable {w W : World} {B : Nat} {cs : Array Value} {e : TypeId}
theorem Blk.made (w : World) (cs : Array Value) (e : TypeId) : Blk (w.alloc (.cells cs e)) w.heap.size cs e := heap_alloc_new w _
theorem Blk.made' {w : World} {B : Nat} (h : w.heap.size = B) (cs : Array Value) (e : TypeId) : Blk (w.alloc (.cells cs e)) B cs e := h ▸ Blk.made w cs e
theorem Blk.lt (h : Blk w B cs e) : B < w.heap.size := (Array.getElem?_eq_some_iff.1 h).1
theorem Blk.same {S : Nat → Prop} (h : Blk w B cs e) (hs : Same S w W) (hB : S B) : Blk W B cs e := (hs B hB).trans h
theorem Blk.below (h : Blk w B cs e) (hb : Below w.heap.size w W) : Blk W B cs e := (hb.block B h.lt).trans h
theorem Blk.alloc (h : Blk w B cs e) (o : Obj) : Blk (w.alloc o) B cs e := (Below.heap_alloc w o B h.lt).trans h
theorem Blk.drew (h : Blk w B cs e) : Blk w.drew B cs e := h
theorem Blk.cells (h : Blk w B cs e) : ∀ i, w.cell? ⟨B, i, none⟩ = cs[i]? := fun i => cell_of_row w B i cs e (0, 0) h
theorem Blk.free (h : Blk w B cs e) : ∀ i, w.frozen? ⟨B, i, none⟩ = false := fun i => frozen_of_row w B i cs e h
theorem Blk.set (h : Blk w B cs e) (i : Nat) (v : Value) : Blk (w.setCell ⟨B, i, none⟩ v) B (cs.setIfInBounds i v) e := heap_setCell_same w B i cs e v h
theorem Blk.other (h : Blk w B cs e) {a : Addr} (ha : B ≠ a.block) (v : Value) : Blk (w.setCell a v) B cs e := (Below.heap_setCell w a v B ha).trans h
end

theorem setAt {B i : Nat} {w w' : World} {v : Value} (h : Below B w w') : Below B w (w'.setCell ⟨B, i, none⟩ v) := h.setCell (Nat.le_refl B) v

end Go.Proofs.YtcglegipdlaoiaaDoor

namespace Go.Proofs.YtcglegipdlaoiaaDoor
open Go Go.RowKit

/-- What lies in K has not turned. -/
structure Kept (K : Nat → Prop) (w w' : World) : Prop where
  os : w'.os = w.os
  tape : w'.tape = w.tape
  output : w'.output = w.output
  size : w.heap.size ≤ w'.heap.size
  block : ∀ b, K b → w'.heap[b]? = w.heap[b]?

section
variable {K : Nat → Prop} {w w' w'' : World} {B : Nat}
theorem Kept.refl (K : Nat → Prop) (w : World) : Kept K w w := ⟨rfl, rfl, rfl, Nat.le_refl _, fun _ _ => rfl⟩
theorem Kept.trans (h : Kept K w w') (k : Kept K w' w'') : Kept K w w'' :=
  ⟨k.os.trans h.os, k.tape.trans h.tape, k.output.trans h.output, Nat.le_trans h.size k.size, fun b hb => (k.block b hb).trans (h.block b hb)⟩
theorem Kept.mono {J : Nat → Prop} (h : Kept K w w') (hj : ∀ b, J b → K b) : Kept J w w' := ⟨h.os, h.tape, h.output, h.size, fun b hb => h.block b (hj b hb)⟩
theorem Below.kept (h : Below B w w') (hk : ∀ b, K b → b < B) : Kept K w w' := ⟨h.os, h.tape, h.output, h.size, fun b hb => h.block b (hk b hb)⟩
theorem Kept.below (h : Kept K w w') (hk : ∀ b, b < B → K b) : Below B w w' := ⟨h.os, h.tape, h.output, h.size, fun b hb => h.block b (hk b hb)⟩
theorem Kept.alloc (h : Kept K w w') (hk : ∀ b, K b → b < w'.heap.size) (o : Obj) : Kept K w (w'.alloc o) := h.trans (Below.kept ((Below.refl _ _).alloc (Nat.le_refl _) o) hk)
theorem Kept.set (h : Kept K w w') {a : Addr} (ha : ¬ K a.block) (v : Value) : Kept K w (w'.setCell a v) :=
  h.trans ⟨rfl, rfl, rfl, Nat.le_of_eq (by simp), fun b hb => Below.heap_setCell w' a v b (fun e => ha (e ▸ hb))⟩
theorem Kept.drew (h : Kept K w w') : Kept K w w'.drew := ⟨h.os, h.tape, h.output, h.size, h.block⟩
theorem Kept.drewN (h : Kept K w w') (n : Nat) : Kept K w (w'.drewN n) := ⟨h.os, h.tape, h.output, h.size, h.block⟩
theorem Blk.drewN {cs : Array Value} {e : TypeId} (h : Blk w B cs e) (n : Nat) : Blk (w.drewN n) B cs e := h
theorem Blk.set_to {cs cs' : Array Value} {e : TypeId} (h : Blk w B cs e) (i : Nat) (v : Value) (he : cs.setIfInBounds i v = cs') : Blk (w.setCell ⟨B, i, none⟩ v) B cs' e := he ▸ h.set i v
theorem Kept.blk (h : Kept K w w') {cs : Array Value} {e : TypeId} (hB : Blk w B cs e) (hk : K B) : Blk w' B cs e := (h.block B hk).trans hB
end

end Go.Proofs.YtcglegipdlaoiaaDoor

namespace Go.Proofs.YtcglegipdlaoiaaDoor
open Go Go.RowKit

/-- A row of the call's own: it lies at B or above, or nowhere. -/
def Own (w : World) (B : Nat) (e : TypeId) (sz : Nat) (v : Value) (xs : List Value) : Prop := ∃ n, w.ownsRow B e sz v n xs

section
variable {w w' : World} {B : Nat} {e : TypeId} {sz : Nat} {v : Value} {xs : List Value}
theorem Own.nil (w : World) (B : Nat) (e : TypeId) (sz : Nat) : Own w B e sz (.slice none 0 0) [] := ⟨0, World.ownsRow_nil w B e sz⟩
theorem Own.app (h : Own w B e sz v xs) : App w B e sz v xs := .inl h
theorem Own.sl (h : Own w B e sz v xs) : Sl (fun b => B ≤ b ∧ b < w.heap.size) w sz v xs := by
  obtain ⟨n, h⟩ := h
  exact ownsRow_sl h _ (fun g hg => h.lt g hg)
theorem Own.keep (h : Own w B e sz v xs) (hs : ∀ b, B ≤ b → b < w.heap.size → w'.heap[b]? = w.heap[b]?) : Own w' B e sz v xs := by
  obtain ⟨n, h⟩ := h
  refine ⟨n, h.1, ?_⟩
  rcases h.2 with hn | ⟨g, cap, cur, rfl, hbg, hg, r⟩
  · exact .inl hn
  · exact .inr ⟨g, cap, cur, rfl, hbg, (hs g hbg (Array.getElem?_eq_some_iff.1 hg).1).trans hg, r⟩
theorem Own.below (h : Own w B e sz v xs) (hb : Below w.heap.size w w') : Own w' B e sz v xs := h.keep fun b _ hl => hb.block b hl
theorem Own.block (h : Own w B e sz v xs) : ∀ g, v.ownBlock = some g → B ≤ g ∧ g < w.heap.size := by
  obtain ⟨n, h⟩ := h
  exact fun g hg => h.lt g hg
end

theorem wpList_own_lit {P : Program} {w : World} {ops : Array Oper} {rest : List Oper} {o : Oper} {a : Act} {Q : Exit → Act → World → Prop} {t e : TypeId} {size bytes : Nat} (E : ElemT P t e size bytes)
    (hg : o.guard = none) (s x : Operand) (hop : o.op = Op.call { callee := Callee.builtin Builtin.append, args := #[s, x], argTypes := #[t, t] })
    {B : Nat} {v : Value} {xs : List Value} (hs : a.eval s = v) (hown : Own w B e size v xs) {cs : Array Value} {m : Nat} (hx : a.eval x = .slice (some ⟨w.heap.size, 0, none⟩) m m) (hm : cs.size = m * size) (h1 : ∀ u ∈ cs.toList, u.oneCell' = true)
    (hlen : xs.length + cs.size ≤ 9223372036854775807) (hbytes : (xs.length + cs.size) * bytes ≤ 140737488355328) (hB : B ≤ w.heap.size)
    (K : ∀ v' w', Own w' B e size v' (xs ++ cs.toList) → Below B w w' → w.grownBy w' v.ownBlock → wpList P ops Q rest (a.put o.dst v') w') : wpList P ops Q (o :: rest) a (w.alloc (.cells cs e)) := by
  obtain ⟨hund, ⟨i, z, hi, hz, h4, h5, h6⟩, hpos⟩ := E
  obtain ⟨n, hown⟩ := hown
  have e1 : ∀ k l : Nat, k ≤ l * size → l * size ≤ k → l ≤ k := fun k l _ hb => Nat.le_trans (Nat.le_mul_of_pos_right l hpos) hb
  have hnl : n ≤ xs.length := e1 _ _ (Nat.le_of_eq hown.1) (Nat.le_of_eq hown.1.symm)
  have hml : m ≤ cs.size := e1 _ _ (Nat.le_of_eq hm) (Nat.le_of_eq hm.symm)
  have hb47 : (n + m) * bytes ≤ 140737488355328 := Nat.le_trans (Nat.mul_le_mul_right _ (by omega)) hbytes
  refine wpList_append_own _ hg s x t hop B e i z size bytes hund hi hz h4 h5 h6 hpos v n xs hs (hown.alloc _) ⟨w.heap.size, 0, none⟩ m m cs.toList hx (by simpa using hm) (fun j u hu => ?_) h1 (by unfold maxLen; omega) hb47 (by simp; omega) (fun v' w' h h' _ => ?_)
  · rw [Addr.add_lit, cell_of_row _ w.heap.size (0 + j) cs e (0, 0) (heap_alloc_new w _)]
    simpa using hu
  · have hgr := grownBy_of_alloc h'
    exact K v' w' ⟨_, h⟩ ((Below.refl B w).grown hgr hB (fun k hk => (hown.lt k hk).1)) hgr

end Go.Proofs.YtcglegipdlaoiaaDoor

namespace Go.Proofs.YtcglegipdlaoiaaDoor
open Go Go.RowKit

section
variable {P : Program} {ops : Array Oper} {Q : Exit → Act → World → Prop} {S : World → Prop}

/-- What is to be shown from here on: all have come up; or one is taken that yields the same in every world of S; or each that may come up is made, and the world stays in S. -/
def WalkN (P : Program) (ops : Array Oper) (Q : Exit → Act → World → Prop) (S : World → Prop) : Nat → Array Bool → Act → World → Prop
  | 0, l, a, w => Region.ready .any ops l = [] ∧ Q .normal a w
  | f + 1, l, a, w => (Region.ready .any ops l = [] ∧ Q .normal a w) ∨
      (∃ i o v, ops[i]? = some o ∧ Region.free .any ops l i = true ∧ (Region.ready .any ops l).contains i = true ∧ YieldsIf P ops S o v a ∧ WalkN P ops Q S f (l.setIfInBounds i true) (a.put o.dst v) w) ∨
      (Region.ready .any ops l ≠ [] ∧ ∀ i ∈ Region.ready .any ops l, ∃ o, ops[i]? = some o ∧ ∀ K' : Act → World → Prop, Shut (∀ a' w', S w' → WalkN P ops Q S f (l.setIfInBounds i true) a' w' → K' a' w') →
        if Region.wanted o (yielded ops a.tmps) = true then Oper.wp P o a w K' Q else K' (a.put o.dst undef) w)

theorem walkN_sound (hns : Region.noSelect ops = true) (hQ : ∀ c a d v w, Q (.panic c) (Act.put a d v) w → Q (.panic c) a w) :
    ∀ (f : Nat) (l : Array Bool) (a : Act) (w : World), S w → WalkN P ops Q S f l a w → wpAnyH P .any ops Q S f l a w
  | 0, l, a, w, _, h => wpAnyH_done h.1 h.2 0
  | f + 1, l, a, w, hs, h => by
    rcases h with ⟨h1, h2⟩ | ⟨i, o, v, ho, hf, hr, hy, h⟩ | ⟨hne, h⟩
    · exact wpAnyH_done h1 h2 _
    · exact wpAnyH_take ho hns hf hr (fun c a w => hQ c a _ _ w) hy hs (walkN_sound hns hQ f _ _ w hs h)
    · refine wpAnyH_all rfl hne (fun i hi => ?_)
      obtain ⟨o, ho, hst⟩ := h i hi
      exact wpOp_step ho (fun K' hK => hst K' (fun a' w' he hw => hK a' w' ⟨he, walkN_sound hns hQ f _ a' w' he hw⟩))

theorem region_walkN {id : Nat} {a : Act} {w : World} (S : World → Prop) (hS : S w.drew) (hm : P.follows .mixedOrders = true) (hns : Region.noSelect ops = true) (hQ : ∀ c a d v w, Q (.panic c) (Act.put a d v) w → Q (.panic c) a w)
    (h : WalkN P ops Q S ops.size (Array.replicate ops.size false) a w.drew) : (Code.region id ops true).wp P Q a w :=
  wp_region_held (S := S) hm (walkN_sound hns hQ _ _ a w.drew hS h)

theorem WalkN.done {f : Nat} {l : Array Bool} {a : Act} {w : World} (hr : Region.ready .any ops l = []) (h : Q .normal a w) : WalkN P ops Q S f l a w := by
  cases f
  · exact ⟨hr, h⟩
  · exact .inl ⟨hr, h⟩

theorem WalkN.take {f : Nat} {l : Array Bool} {a : Act} {w : World} (i : Nat) (o : Oper) (v : Value) (ho : ops[i]? = some o) (hf : Region.free .any ops l i = true) (hr : (Region.ready .any ops l).contains i = true)
    (hw : Region.wanted o (yielded ops a.tmps) = true) (hy : ∀ W, S W → (execOp a.eval o).run P W = .ok (.value v) W) (h : WalkN P ops Q S f (l.setIfInBounds i true) (a.put o.dst v) w) : WalkN P ops Q S (f + 1) l a w :=
  .inr (.inl ⟨i, o, v, ho, hf, hr, .inl ⟨hw, hy⟩, h⟩)

/-- What is owed for number i: it is made, and the walk goes on. -/
def MadeN (P : Program) (ops : Array Oper) (Q : Exit → Act → World → Prop) (S : World → Prop) (f : Nat) (l : Array Bool) (a : Act) (w : World) (i : Nat) : Prop :=
  ∃ o, ops[i]? = some o ∧ Region.wanted o (yielded ops a.tmps) = true ∧ ∀ K' : Act → World → Prop, Shut (∀ a' w', S w' → WalkN P ops Q S f (l.setIfInBounds i true) a' w' → K' a' w') → Oper.wp P o a w K' Q

theorem WalkN.one {f : Nat} {l : Array Bool} {a : Act} {w : World} (i : Nat) (hr : Region.ready .any ops l = [i]) (h : MadeN P ops Q S f l a w i) : WalkN P ops Q S (f + 1) l a w := by
  refine .inr (.inr ⟨by rw [hr]; simp, fun j hj => ?_⟩)
  rw [hr] at hj
  obtain rfl : j = i := by simpa using hj
  obtain ⟨o, ho, hw, h⟩ := h
  exact ⟨o, ho, fun K hK => by rw [if_pos hw]; exact h K hK⟩

theorem WalkN.two {f : Nat} {l : Array Bool} {a : Act} {w : World} (i j : Nat) (hr : Region.ready .any ops l = [i, j]) (h : MadeN P ops Q S f l a w i) (h' : MadeN P ops Q S f l a w j) : WalkN P ops Q S (f + 1) l a w := by
  refine .inr (.inr ⟨by rw [hr]; simp, fun k hk => ?_⟩)
  rw [hr] at hk
  have : k = i ∨ k = j := by simpa using hk
  rcases this with rfl | rfl
  · obtain ⟨o, ho, hw, h⟩ := h
    exact ⟨o, ho, fun K hK => by rw [if_pos hw]; exact h K hK⟩
  · obtain ⟨o, ho, hw, h⟩ := h'
    exact ⟨o, ho, fun K hK => by rw [if_pos hw]; exact h K hK⟩
end

/-- The law of append to a row of the call's own, for one operation. -/
theorem wp_own {P : Program} {w : World} {o : Oper} {a : Act} {K : Act → World → Prop} {Q : Exit → Act → World → Prop} {t e : TypeId} {size bytes : Nat} (E : ElemT P t e size bytes)
    (s x : Operand) (hop : o.op = Op.call { callee := Callee.builtin Builtin.append, args := #[s, x], argTypes := #[t, t] })
    {B : Nat} {v : Value} {xs : List Value} (hs : a.eval s = v) (hown : Own w B e size v xs) {T : Nat → Prop} {y : Value} {news : List Value} (hx : a.eval x = y) (hy : Sl T w size y news) (h1 : ∀ u ∈ news, u.oneCell' = true)
    (hlen : xs.length + news.length ≤ 9223372036854775807) (hbytes : (xs.length + news.length) * bytes ≤ 140737488355328) (hB : B ≤ w.heap.size)
    (h : ∀ v' w', Own w' B e size v' (xs ++ news) → Below B w w' → w.grownBy w' v.ownBlock → K (a.put o.dst v') w') : o.wp P a w K Q := by
  obtain ⟨hund, ⟨i, z, hi, hz, h4, h5, h6⟩, hpos⟩ := E
  obtain ⟨n, hown⟩ := hown
  obtain ⟨yo, m, c, rfl, hym, hmc, hcm, hyn, hyc⟩ := hy
  have e1 : ∀ k l : Nat, k ≤ l * size → l * size ≤ k → l ≤ k := fun k l _ hb => Nat.le_trans (Nat.le_mul_of_pos_right l hpos) hb
  have hnl : n ≤ xs.length := e1 _ _ (Nat.le_of_eq hown.1) (Nat.le_of_eq hown.1.symm)
  have hml : m ≤ news.length := e1 _ _ (Nat.le_of_eq hym) (Nat.le_of_eq hym.symm)
  have hb47 : (n + m) * bytes ≤ 140737488355328 := Nat.le_trans (Nat.mul_le_mul_right _ (by omega)) hbytes
  have fin : ∀ v' w', w'.ownsRow B e size v' (n + m) (xs ++ news) → w.grownBy w' v.ownBlock → K (a.put o.dst v') w' :=
    fun v' w' h0 h' => h v' w' ⟨_, h0⟩ ((Below.refl B w).grown h' hB (fun k hk => (hown.lt k hk).1)) h'
  cases yo with
  | some ad =>
    refine wp_append_own w s x t hop B e i z size bytes hund hi hz h4 h5 h6 hpos v n xs hs hown ad m c news hx hym (fun j u hu => ?_) h1 (by unfold maxLen; omega) hb47 hB (fun v' w' h h' _ => fin v' w' h h')
    obtain ⟨b, off, hbo, _, hcc⟩ := hyc (fun e => by subst e; simp at hu)
    cases hbo
    rw [Addr.add_lit]
    exact hcc j u hu
  | none =>
    have hc0 := hyn rfl
    obtain rfl : m = 0 := by omega
    obtain rfl : c = 0 := hc0
    obtain rfl : news = [] := List.eq_nil_of_length_eq_zero (by simpa using hym)
    have hrun := run_append_owned_none (P := P) w B t o.type e i size hund hi v n xs hown
    have := fin v w (by simpa using hown) ⟨rfl, rfl, rfl, Nat.le_refl _, fun _ _ _ => rfl⟩
    unfold Oper.wp
    simp [execOp, hop, resolve, invoke, builtin, hs, hx, hrun, Result.andThen]
    exact this

/-- A new row without room. -/
theorem Own.made (w : World) {B : Nat} (hB : B ≤ w.heap.size) (e : TypeId) (sz : Nat) : Own (w.alloc (.cells #[] e)) B e sz (.slice (some ⟨w.heap.size, 0, none⟩) 0 0) [] :=
  ⟨0, by simp, .inr ⟨w.heap.size, 0, #[], rfl, hB, heap_alloc_new w _, Nat.le_refl _, by unfold maxLen; omega, by simp, by simp⟩⟩

end Go.Proofs.YtcglegipdlaoiaaDoor
