/- The common ground of this seat's proofs: what a slice reads as in memory (its cells), a footprint of blocks, what may be appended to, and the law of append. A block that a call made, known whole. A world behind a call that has turned nothing but what it may. No condition: lemmas. -/
import Derived.Test.YtipddhcfcehcaaaProg
import Derived.WalkKit
import Derived.WalkSpells
import Derived.WalkLawsBesides
import Derived.Lib.Hide
import Derived.Lib.AppendStr
namespace Go.Proofs.Ytipddhcfcehcaaa
open Go Go.RowKit

/-- What an element type's row of the table says. -/
structure ElemT (P : Program) (t e : TypeId) (size bytes : Nat) : Prop where
  und : P.underlying t = some (.slice e)
  row : ∃ i z, P.info? e = some i ∧ i.zero = some z ∧ i.size = size ∧ i.bytes = bytes ∧ z.cells.size = size
  pos : 0 < size

theorem ElemT.mk' {P : Program} {t e : TypeId} {z : Value} {size bytes : Nat} (h1 : P.underlying t = some (.slice e))
    (h2 : (P.info? e).map (fun i => (i.zero, i.size, i.bytes)) = some (some z, size, bytes)) (h3 : z.cells.size = size) (h4 : 0 < size) : ElemT P t e size bytes := by
  obtain ⟨i, a, b, c, d⟩ := info_parts h2
  exact ⟨h1, ⟨i, z, a, b, c, d, h3⟩, h4⟩

/-- The worlds agree on the blocks of S. -/
def Same (S : Nat → Prop) (w w' : World) : Prop := ∀ b, S b → w'.heap[b]? = w.heap[b]?

theorem Same.refl (S : Nat → Prop) (w : World) : Same S w w := fun _ _ => rfl
theorem Same.trans {S : Nat → Prop} {a b c : World} (h : Same S a b) (k : Same S b c) : Same S a c := fun x hx => (k x hx).trans (h x hx)
theorem Same.mono {S T : Nat → Prop} {a b : World} (h : Same S a b) (k : ∀ x, T x → S x) : Same T a b := fun x hx => h x (k x hx)
theorem Same.below {B : Nat} {a b : World} (h : Below B a b) : Same (· < B) a b := fun x hx => h.block x hx
theorem Same.cell {S : Nat → Prop} {a b : World} (h : Same S a b) {p : Addr} (hp : S p.block) : b.cell? p = a.cell? p := World.cell?_of_block (h _ hp)

/-- The slice v, of elements of sz cells each, reads in w as the cells xs; the array lies in a block of S. -/
def Sl (S : Nat → Prop) (w : World) (sz : Nat) (v : Value) (xs : List Value) : Prop :=
  ∃ ao n c, v = .slice ao n c ∧ xs.length = n * sz ∧ n ≤ c ∧ c ≤ maxLen ∧ (ao = none → c = 0) ∧
    (xs ≠ [] → ∃ b off, ao = some ⟨b, off, none⟩ ∧ S b ∧ ∀ j u, xs[j]? = some u → w.cell? ⟨b, off + j, none⟩ = some u)

theorem Sl.same {S : Nat → Prop} {w w' : World} {sz : Nat} {v : Value} {xs : List Value} (h : Sl S w sz v xs) (hs : Same S w w') : Sl S w' sz v xs := by
  obtain ⟨ao, n, c, rfl, h1, h2, h3, h4, h5⟩ := h
  refine ⟨ao, n, c, rfl, h1, h2, h3, h4, fun hne => ?_⟩
  obtain ⟨b, off, rfl, hb, hc⟩ := h5 hne
  exact ⟨b, off, rfl, hb, fun j u hu => (hs.cell (p := ⟨b, off + j, none⟩) hb).trans (hc j u hu)⟩

theorem Sl.mono {S T : Nat → Prop} {w : World} {sz : Nat} {v : Value} {xs : List Value} (h : Sl S w sz v xs) (hs : ∀ b, S b → T b) : Sl T w sz v xs := by
  obtain ⟨ao, n, c, rfl, h1, h2, h3, h4, h5⟩ := h
  refine ⟨ao, n, c, rfl, h1, h2, h3, h4, fun hne => ?_⟩
  obtain ⟨b, off, rfl, hb, hc⟩ := h5 hne
  exact ⟨b, off, rfl, hs b hb, hc⟩

theorem Sl.nil (S : Nat → Prop) (w : World) (sz : Nat) : Sl S w sz (.slice none 0 0) [] := ⟨none, 0, 0, rfl, by simp, Nat.le_refl _, Nat.zero_le _, fun _ => rfl, fun h => absurd rfl h⟩

/-- A new block of cells reads as a slice of them. -/
theorem Sl.made (w : World) (S : Nat → Prop) (sz n : Nat) (e : TypeId) (cs : Array Value) (hn : cs.size = n * sz) (hm : n ≤ maxLen) (hS : S w.heap.size) :
    Sl S (w.alloc (.cells cs e)) sz (.slice (some ⟨w.heap.size, 0, none⟩) n n) cs.toList := by
  refine ⟨_, n, n, rfl, by simpa using hn, Nat.le_refl _, hm, (fun h => by cases h), fun _ => ⟨w.heap.size, 0, rfl, hS, fun j u hu => ?_⟩⟩
  rw [cell_of_row _ w.heap.size (0 + j) cs e (0, 0) (heap_alloc_new w _)]
  simpa using hu

theorem Sl.take {S : Nat → Prop} {w : World} {sz : Nat} {ao : Option Addr} {n c : Nat} {xs : List Value} (h : Sl S w sz (.slice ao n c) xs) (k : Nat) (hk : k ≤ n) : Sl S w sz (.slice ao k c) (xs.take (k * sz)) := by
  obtain ⟨ao', n', c', hv, h1, h2, h3, h4, h5⟩ := h
  cases hv
  have hkn := Nat.mul_le_mul_right sz hk
  refine ⟨ao, k, c, rfl, by rw [List.length_take]; omega, by omega, h3, h4, fun hne => ?_⟩
  obtain ⟨b, off, rfl, hb, hc⟩ := h5 (fun e => hne (by simp [e]))
  refine ⟨b, off, rfl, hb, fun j u hu => hc j u ?_⟩
  rw [List.getElem?_take] at hu
  split at hu
  · exact hu
  · cases hu

/-- A slice's tail, of elements of one cell, as the walk writes it where the cut does not stand at the capacity's end. -/
theorem Sl.drop {S : Nat → Prop} {w : World} {ao : Option Addr} {n c : Nat} {xs : List Value} (h : Sl S w 1 (.slice ao n c) xs) (k : Nat) (hk : k ≤ n) :
    Sl S w 1 (.slice (Option.map (fun x => x.add k) ao) (n - k) (c - k)) (xs.drop k) := by
  obtain ⟨ao', n', c', hv, h1, h2, h3, h4, h5⟩ := h
  cases hv
  refine ⟨_, n - k, c - k, rfl, by rw [List.length_drop]; omega, by omega, by omega, fun h => ?_, fun hne => ?_⟩
  · have := h4 (by simpa using h); omega
  · obtain ⟨b, off, rfl, hb, hc⟩ := h5 (fun e => hne (by simp [e]))
    refine ⟨b, off + k, by simp [Addr.add_lit], hb, fun j u hu => ?_⟩
    rw [List.getElem?_drop] at hu
    rw [Nat.add_assoc]
    exact hc _ u hu

theorem Sl.len {S : Nat → Prop} {w : World} {sz : Nat} {v : Value} {xs : List Value} (h : Sl S w sz v xs) : ∃ ao n c, v = .slice ao n c ∧ xs.length = n * sz ∧ n ≤ c ∧ c ≤ 9223372036854775807 := by
  obtain ⟨ao', n', c', hv, h1, h2, h3, h4, h5⟩ := h
  exact ⟨ao', n', c', hv, h1, h2, by unfold maxLen at h3; omega⟩

/-- What may be appended to without writing into memory from before block B: a row of the call's own, or a slice that is full. -/
def App (w : World) (B : Nat) (e : TypeId) (sz : Nat) (v : Value) (xs : List Value) : Prop :=
  (∃ n, w.ownsRow B e sz v n xs) ∨
    (∃ ao n, v = .slice ao n n ∧ xs.length = n * sz ∧ n ≤ maxLen ∧ (ao = none → n = 0) ∧ (xs ≠ [] → ∃ b off, ao = some ⟨b, off, none⟩ ∧ b < B ∧ ∀ j u, xs[j]? = some u → w.cell? ⟨b, off + j, none⟩ = some u))

theorem App.nil (w : World) (B : Nat) (e : TypeId) (sz : Nat) : App w B e sz (.slice none 0 0) [] := .inl ⟨0, World.ownsRow_nil w B e sz⟩

theorem ownsRow_sl {w : World} {B : Nat} {e : TypeId} {sz : Nat} {v : Value} {n : Nat} {xs : List Value} (h : w.ownsRow B e sz v n xs) (S : Nat → Prop) (hS : ∀ g, v.ownBlock = some g → S g) :
    Sl S w sz v xs := by
  rcases h.2 with ⟨rfl, rfl⟩ | ⟨g, cap, cur, rfl, hb, hg, hnc, hcm, hcs, htake⟩
  · have : xs = [] := List.eq_nil_of_length_eq_zero (by simpa using h.1)
    subst this
    exact Sl.nil S w sz
  · refine ⟨_, n, cap, rfl, h.1, hnc, hcm, (fun h => by cases h), fun _ => ⟨g, 0, rfl, hS g rfl, fun j u hu => ?_⟩⟩
    have hj : j < n * sz := by rw [← h.1]; exact (List.getElem?_eq_some_iff.1 hu).1
    rw [Nat.zero_add, h.cellAt j hj]
    exact hu

/-- The block that an appendable value owns, if it owns one. -/
theorem App.sl {w : World} {B : Nat} {e : TypeId} {sz : Nat} {v : Value} {xs : List Value} (h : App w B e sz v xs) : Sl (· < w.heap.size) w sz v xs := by
  rcases h with ⟨n, h⟩ | ⟨ao, n, rfl, h1, h2, h3, h4⟩
  · exact ownsRow_sl h _ (fun g hg => (h.lt g hg).2)
  · refine ⟨ao, n, n, rfl, h1, Nat.le_refl _, h2, h3, fun hne => ?_⟩
    obtain ⟨b, off, rfl, hb, hc⟩ := h4 hne
    refine ⟨b, off, rfl, ?_, hc⟩
    obtain ⟨u, hu⟩ : ∃ u, xs[0]? = some u := by
      cases xs with
      | nil => exact absurd rfl hne
      | cons x _ => exact ⟨x, rfl⟩
    exact World.block_lt_of_cell? w _ (hc 0 u hu)

/-- A slice that is full may be appended to. -/
theorem App.full {w : World} {B : Nat} {e : TypeId} {sz : Nat} {ao : Option Addr} {n : Nat} {xs : List Value} (h : Sl (· < B) w sz (.slice ao n n) xs) : App w B e sz (.slice ao n n) xs := by
  obtain ⟨ao', n', c', hv, h1, h2, h3, h4, h5⟩ := h
  simp only [Value.slice.injEq] at hv
  obtain ⟨rfl, rfl, rfl⟩ := hv
  exact .inr ⟨ao, n, rfl, h1, h3, h4, h5⟩

/-- What is appendable stays so where the blocks that were there have not turned. -/
theorem App.below {w w' : World} {B : Nat} {e : TypeId} {sz : Nat} {v : Value} {xs : List Value} (h : App w B e sz v xs) (hb : Below w.heap.size w w') : App w' B e sz v xs := by
  rcases h with ⟨n, h⟩ | ⟨ao, n, rfl, h1, h2, h3, h4⟩
  · refine .inl ⟨n, h.1, ?_⟩
    rcases h.2 with hn | ⟨g, cap, cur, rfl, hbg, hg, r⟩
    · exact .inl hn
    · exact .inr ⟨g, cap, cur, rfl, hbg, (hb.block g (Array.getElem?_eq_some_iff.1 hg).1).trans hg, r⟩
  · refine .inr ⟨ao, n, rfl, h1, h2, h3, fun hne => ?_⟩
    obtain ⟨b, off, rfl, hbB, hc⟩ := h4 hne
    exact ⟨b, off, rfl, hbB, fun j u hu => (hb.cell (p := ⟨b, off + j, none⟩) (World.block_lt_of_cell? w _ (hc j u hu))).trans (hc j u hu)⟩

/-- THE LAW OF APPEND, for the walk: whatever may be appended to, whatever is appended. -/
theorem wpList_app {P : Program} {w : World} {ops : Array Oper} {rest : List Oper} {o : Oper} {a : Act} {Q : Exit → Act → World → Prop} {t e : TypeId} {size bytes : Nat} (E : ElemT P t e size bytes)
    (hg : o.guard = none) (s x : Operand) (hop : o.op = Op.call { callee := Callee.builtin Builtin.append, args := #[s, x], argTypes := #[t, t] })
    {B : Nat} {v : Value} {xs : List Value} (hs : a.eval s = v) (happ : App w B e size v xs) {S : Nat → Prop} {y : Value} {news : List Value} (hx : a.eval x = y) (hy : Sl S w size y news) (h1 : ∀ u ∈ news, u.oneCell' = true)
    (hlen : xs.length + news.length ≤ 9223372036854775807) (hbytes : (xs.length + news.length) * bytes ≤ 140737488355328) (hB : B ≤ w.heap.size)
    (K : ∀ v' w', App w' B e size v' (xs ++ news) → Below B w w' → w.grownBy w' v.ownBlock → wpList P ops Q rest (a.put o.dst v') w') : wpList P ops Q (o :: rest) a w := by
  obtain ⟨hund, ⟨i, z, hi, hz, h4, h5, h6⟩, hpos⟩ := E
  obtain ⟨yo, m, c, rfl, hym, hmc, hcm, hyn, hyc⟩ := hy
  have e1 : ∀ k l : Nat, k ≤ l * size → l * size ≤ k → l ≤ k := fun k l _ hb => Nat.le_trans (Nat.le_mul_of_pos_right l hpos) hb
  rcases happ with ⟨n, hown⟩ | ⟨ao, n, rfl, hxn, hnm, hnone, hxc⟩
  · have hnl : n ≤ xs.length := e1 _ _ (Nat.le_of_eq hown.1) (Nat.le_of_eq hown.1.symm)
    have hml : m ≤ news.length := e1 _ _ (Nat.le_of_eq hym) (Nat.le_of_eq hym.symm)
    have hb63 : n + m ≤ maxLen := by unfold maxLen; omega
    have hb47 : (n + m) * bytes ≤ 140737488355328 := Nat.le_trans (Nat.mul_le_mul_right _ (by omega)) hbytes
    have fin : ∀ v' w', w'.ownsRow B e size v' (n + m) (xs ++ news) → w.grownBy w' v.ownBlock → wpList P ops Q rest (a.put o.dst v') w' :=
      fun v' w' h h' => K v' w' (.inl ⟨_, h⟩) ((Below.refl B w).grown h' hB (fun k hk => (hown.lt k hk).1)) h'
    cases yo with
    | some ad =>
      refine wpList_append_own w hg s x t hop B e i z size bytes hund hi hz h4 h5 h6 hpos v n xs hs hown ad m c news hx hym (fun j u hu => ?_) h1 hb63 hb47 hB (fun v' w' h h' _ => fin v' w' h h')
      obtain ⟨b, off, hbo, _, hcc⟩ := hyc (fun e => by subst e; simp at hu)
      cases hbo
      rw [Addr.add_lit]
      exact hcc j u hu
    | none =>
      have hc0 := hyn rfl
      obtain rfl : m = 0 := by omega
      obtain rfl : c = 0 := hc0
      obtain rfl : news = [] := List.eq_nil_of_length_eq_zero (by simpa using hym)
      refine wpList_plain hg fun K' hK' => ?_
      have hrun := run_append_owned_none (P := P) w B t o.type e i size hund hi v n xs hown
      unfold Oper.wp
      simp [execOp, hop, resolve, invoke, builtin, hs, hx, hrun, Result.andThen]
      exact hK' _ _ (fin _ _ (by simpa using hown) ⟨rfl, rfl, rfl, Nat.le_refl _, fun _ _ _ => rfl⟩)
  · have hnl : n ≤ xs.length := e1 _ _ (Nat.le_of_eq hxn) (Nat.le_of_eq hxn.symm)
    have hml : m ≤ news.length := e1 _ _ (Nat.le_of_eq hym) (Nat.le_of_eq hym.symm)
    have hb63 : n + m ≤ maxLen := by unfold maxLen; omega
    have hb47 : (n + m) * bytes ≤ 140737488355328 := Nat.le_trans (Nat.mul_le_mul_right _ (by omega)) hbytes
    by_cases hm0 : m = 0
    · subst hm0
      obtain rfl : news = [] := List.eq_nil_of_length_eq_zero (by simpa using hym)
      refine wpList_plain hg fun K' hK' => ?_
      have hfin : K' (a.put o.dst (.slice ao n n)) w := hK' _ _ (K _ _ (.inr ⟨ao, n, rfl, by simpa using hxn, hnm, hnone, by simpa using hxc⟩) (Below.refl B w) ⟨rfl, rfl, rfl, Nat.le_refl _, fun _ _ _ => rfl⟩)
      have hrun : (Builtin.append_ #[t, t] o.type #[.slice ao n n, .slice yo 0 c]).run P w = .ok (.slice ao n n) w := by
        cases ao with
        | none =>
          obtain rfl := hnone rfl
          cases yo <;> simp [Builtin.append_, run_underlying hund, sizeOf, typeInfo, hi, Builtin.lenOf, Builtin.firstCells, loadCells, loadCellsFrom]
        | some ad =>
          cases yo <;> simp [Builtin.append_, run_underlying hund, sizeOf, typeInfo, hi, Builtin.lenOf, Builtin.firstCells, loadCells, loadCellsFrom, storeCells]
      unfold Oper.wp
      simp [execOp, hop, resolve, invoke, builtin, hs, hx, hrun, Result.andThen]
      exact hfin
    · have hne : news ≠ [] := by
        intro e
        subst e
        have := Nat.mul_pos (Nat.pos_of_ne_zero hm0) hpos
        simp at hym
        omega
      obtain ⟨b, off, rfl, _, hcc⟩ := hyc hne
      refine wpList_append_grows w hg s x t hop e i z size bytes hund hi hz h4 h5 h6 hpos ao n n xs hs (fun h => ⟨hnone h, hnone h⟩) hxn (fun ad had j u hu => ?_) ⟨b, off, none⟩ m c news hx hym (fun j u hu => by rw [Addr.add_lit]; exact hcc j u hu) h1 (by omega) hb63 hb47 (fun v' w' h h' => ?_)
      · obtain ⟨b', off', hbo, _, hc'⟩ := hxc (fun e => by subst e; simp at hu)
        rw [had] at hbo
        cases hbo
        rw [Addr.add_lit]
        exact hc' j u hu
      · refine K v' w' (.inl ⟨n + m, h.1, ?_⟩) ((Below.refl B w).grown h' hB (fun k hk => by cases hk)) ⟨h'.os, h'.tape, h'.output, h'.size, fun k hk _ => h'.block k hk (by simp)⟩
        rcases h.2 with hn | ⟨g, cap, cur, hv, hbg, r⟩
        · exact .inl hn
        · exact .inr ⟨g, cap, cur, hv, by omega, r⟩

theorem grownBy_of_alloc {w w' : World} {o : Obj} {row : Option Nat} (h : (w.alloc o).grownBy w' row) : w.grownBy w' row :=
  ⟨h.os, h.tape, h.output, Nat.le_trans (by simp) h.size, fun k hk hr => (h.block k (by simp; omega) hr).trans (Below.heap_alloc w o k hk)⟩

/-- The same where what is appended is a literal list of elements, which the program lays in a new block first. -/
theorem wpList_app_lit {P : Program} {w : World} {ops : Array Oper} {rest : List Oper} {o : Oper} {a : Act} {Q : Exit → Act → World → Prop} {t e : TypeId} {size bytes : Nat} (E : ElemT P t e size bytes)
    (hg : o.guard = none) (s x : Operand) (hop : o.op = Op.call { callee := Callee.builtin Builtin.append, args := #[s, x], argTypes := #[t, t] })
    {B : Nat} {v : Value} {xs : List Value} (hs : a.eval s = v) (happ : App w B e size v xs) {cs : Array Value} {m : Nat} (hx : a.eval x = .slice (some ⟨w.heap.size, 0, none⟩) m m) (hm : cs.size = m * size) (h1 : ∀ u ∈ cs.toList, u.oneCell' = true)
    (hlen : xs.length + cs.size ≤ 9223372036854775807) (hbytes : (xs.length + cs.size) * bytes ≤ 140737488355328) (hB : B ≤ w.heap.size)
    (K : ∀ v' w', App w' B e size v' (xs ++ cs.toList) → Below B w w' → w.grownBy w' v.ownBlock → wpList P ops Q rest (a.put o.dst v') w') : wpList P ops Q (o :: rest) a (w.alloc (.cells cs e)) := by
  have hmm : m ≤ cs.size := by rw [hm]; exact Nat.le_mul_of_pos_right m E.pos
  refine wpList_app E hg s x hop hs (happ.below ((Below.refl _ _).alloc (Nat.le_refl _) _)) hx (Sl.made w (fun _ => True) size m e cs hm (by unfold maxLen; omega) trivial) h1 (by simpa using hlen) (by simpa using hbytes) (by simp; omega) (fun v' w' h h' h'' => ?_)
  exact K v' w' h (((Below.refl B w).alloc hB _).trans h') (grownBy_of_alloc h'')

/-- A part of a slice, of elements of one cell: whatever the walk writes for its address where the cut stands at the capacity's end. -/
theorem Sl.window {S : Nat → Prop} {w : World} {ao ao' : Option Addr} {n c : Nat} {xs : List Value} (h : Sl S w 1 (.slice ao n c) xs) (lo hi : Nat) (h1 : lo ≤ hi) (h2 : hi ≤ n)
    (hao : ¬ c = lo → ao' = Option.map (fun x => x.add lo) ao) : Sl S w 1 (.slice ao' (hi - lo) (c - lo)) ((xs.drop lo).take (hi - lo)) := by
  have hlen := h.len
  obtain ⟨_, _, _, hv, hl, hnc, _⟩ := hlen
  cases hv
  by_cases hc : c = lo
  · have : hi - lo = 0 := by omega
    have e : c - lo = 0 := by omega
    rw [this, e, List.take_zero]
    exact ⟨ao', 0, 0, rfl, rfl, Nat.le_refl _, Nat.zero_le _, fun _ => rfl, fun h => absurd rfl h⟩
  · rw [hao hc]
    have := (h.drop lo (by omega)).take (hi - lo) (by omega)
    rwa [Nat.mul_one] at this

/-- The law of append where what is appended is a string's bytes. -/
theorem wpList_app_str {P : Program} {w : World} {ops : Array Oper} {rest : List Oper} {o : Oper} {a : Act} {Q : Exit → Act → World → Prop} {t e u : TypeId} (hund : P.underlying t = some (.slice e)) (hu : P.underlying u = some .string)
    (hinfo : (P.info? e).map (fun i => (i.zero, i.size, i.bytes)) = some (some (.int .u8 0), 1, 1))
    (hg : o.guard = none) (s x : Operand) (hop : o.op = Op.call { callee := Callee.builtin Builtin.append, args := #[s, x], argTypes := #[t, u] })
    {B : Nat} {v : Value} {xs : List Value} (hs : a.eval s = v) (happ : App w B e 1 v xs) {str : ByteArray} (hx : a.eval x = .string str)
    (hlen : xs.length + str.size ≤ 140737488355328) (hB : B ≤ w.heap.size)
    (K : ∀ v' w', App w' B e 1 v' (xs ++ Lib.strCells str) → Below B w w' → w.grownBy w' v.ownBlock → wpList P ops Q rest (a.put o.dst v') w') : wpList P ops Q (o :: rest) a w := by
  obtain ⟨i, hi, hz, h4, h5⟩ := info_parts hinfo
  have own : ∀ n, w.ownsRow B e 1 v n xs → wpList P ops Q (o :: rest) a w := fun n hown => by
    have hn : xs.length = n := by simpa using hown.1
    exact Lib.wpList_append_own_string w hg s x t u hop B e i hund hu hi hz h4 h5 v n xs hs hown str hx (by unfold maxLen; omega) (by omega) hB
      (fun v' w' h h' _ => K v' w' (.inl ⟨_, h⟩) ((Below.refl B w).grown h' hB (fun k hk => (hown.lt k hk).1)) h')
  rcases happ with ⟨n, hown⟩ | ⟨ao, n, rfl, hxn, hnm, hnone, hxc⟩
  · exact own n hown
  · rw [Nat.mul_one] at hxn
    cases ao with
    | none =>
      obtain rfl := hnone rfl
      obtain rfl : xs = [] := List.eq_nil_of_length_eq_zero hxn
      exact own 0 (World.ownsRow_nil w B e 1)
    | some b0 =>
      by_cases hsz : str.size = 0
      · have he : Lib.strCells str = [] := List.eq_nil_of_length_eq_zero (by rw [Lib.strCells_length]; exact hsz)
        refine wpList_plain hg fun K' hK' => ?_
        have hfin : K' (a.put o.dst (.slice (some b0) n n)) w := hK' _ _ (K _ _ (.inr ⟨some b0, n, rfl, by simpa [he] using hxn, hnm, hnone, by simpa [he] using hxc⟩) (Below.refl B w) ⟨rfl, rfl, rfl, Nat.le_refl _, fun _ _ _ => rfl⟩)
        have hf := Lib.run_firstCells_string (P := P) w 1 str
        rw [hsz, he] at hf
        have hrun : (Builtin.append_ #[t, u] o.type #[.slice (some b0) n n, .string str]).run P w = .ok (.slice (some b0) n n) w := by
          simp [Builtin.append_, run_underlying hund, run_underlying hu, sizeOf, typeInfo, hi, h4, Builtin.lenOf, hsz, hf, storeCells]
        unfold Oper.wp
        simp [execOp, hop, resolve, invoke, builtin, hs, hx, hrun, Result.andThen]
        exact hfin
      · have holds : ∀ j u, xs[j]? = some u → w.cell? (b0.add j) = some u := fun j u hu => by
          obtain ⟨b, off, hbo, _, hc⟩ := hxc (fun e => by subst e; simp at hu)
          cases hbo
          rw [Addr.add_lit]
          exact hc j u hu
        have hr := Lib.run_append_grow_string (P := P) w t u o.type e i (.int .u8 0) hund hu hi hz b0 n n xs (by rw [h4]; omega) holds str (by omega) (by omega) (by rw [h5]; exact growslice_fits (by omega) (by omega))
        refine wpList_plain hg fun K' hK' => ?_
        unfold Oper.wp
        simp [execOp, hop, resolve, invoke, builtin, hs, hx, hr, Result.andThen]
        refine hK' _ _ (K _ _ (.inl ⟨n + str.size, ?_, .inr ⟨w.heap.size, _, _, rfl, hB, heap_alloc_new w.drew _, grownCap_ge w (n + str.size) n e, grownCap_le_maxLen w (n + str.size) n e (by unfold maxLen; omega), ?_, ?_⟩⟩)
          (((Below.refl B w).drew).alloc hB _) ⟨rfl, rfl, rfl, by simp, fun k hk _ => Below.heap_alloc w.drew _ k hk⟩)
        · rw [List.length_append, Lib.strCells_length, Nat.mul_one, hxn]
        · have hge := grownCap_ge w (n + str.size) n e
          have hz1 : (Value.int IntKind.u8 0).cells.size = 1 := rfl
          simp only [Array.size_append, List.size_toArray, size_zeroCells, hz1, List.length_append, hxn, Lib.strCells_length]
          omega
        · simp only [Array.toList_append, List.append_assoc]
          rw [← List.append_assoc, show (n + str.size) * 1 = (xs ++ Lib.strCells str).length from by rw [List.length_append, Lib.strCells_length, hxn, Nat.mul_one]]
          exact List.take_left

end Go.Proofs.Ytipddhcfcehcaaa
namespace Go.Proofs.Ytipddhcfcehcaaa
open Go Go.RowKit

/-- Block B holds just these cells, none frozen. -/
def Blk (w : World) (B : Nat) (cs : Array Value) (e : TypeId) : Prop := w.heap[B]? = some (.cells cs e (0, 0))

section
variable {w W : World} {B : Nat} {cs : Array Value} {e : TypeId}
theorem Blk.made (w : World) (cs : Array Value) (e : TypeId) : Blk (w.alloc (.cells cs e)) w.heap.size cs e := heap_alloc_new w _
theorem Blk.made' {w : World} {B : Nat} (h : w.heap.size = B) (cs : Array Value) (e : TypeId) : Blk (w.alloc (.cells cs e)) B cs e := h ▸ Blk.made w cs e
theorem Blk.lt (h : Blk w B cs e) : B < w.heap.size := (Array.getElem?_eq_some_iff.1 h).1
theorem Blk.same {S : Nat → Prop} (h : Blk w B cs e) (hs : Same S w W) (hB : S B) : Blk W B cs e := (hs B hB).trans h
theorem Blk.below (h : Blk w B cs e) (hb : Below w.heap.size w W) : Blk W B cs e := (hb.block B h.lt).trans h
theorem Blk.alloc (h : Blk w B cs e) (o : Obj) : Blk (w.alloc o) B cs e := (Below.heap_alloc w o B h.lt).trans h
theorem Blk.drew (h : Blk w B cs e) : Blk w.drew B cs e := h
theorem Blk.cells (h : Blk w B cs e) : ∀ i, w.cell? ⟨B, i, none⟩ = cs[i]? := fun i => cell_of_row w B i cs e (0, 0) h
theorem Blk.free (h : Blk w B cs e) : ∀ i, w.frozen? ⟨B, i, none⟩ = false := fun i => frozen_of_row w B i cs e h
theorem Blk.set (h : Blk w B cs e) (i : Nat) (v : Value) : Blk (w.setCell ⟨B, i, none⟩ v) B (cs.setIfInBounds i v) e := heap_setCell_same w B i cs e v h
theorem Blk.other (h : Blk w B cs e) {a : Addr} (ha : B ≠ a.block) (v : Value) : Blk (w.setCell a v) B cs e := (Below.heap_setCell w a v B ha).trans h
end

theorem setAt {B i : Nat} {w w' : World} {v : Value} (h : Below B w w') : Below B w (w'.setCell ⟨B, i, none⟩ v) := h.setCell (Nat.le_refl B) v

end Go.Proofs.Ytipddhcfcehcaaa
namespace Go.Proofs.Ytipddhcfcehcaaa
open Go Go.RowKit

/-- What lies in K has not turned. -/
structure Kept (K : Nat → Prop) (w w' : World) : Prop where
  os : w'.os = w.os
  tape : w'.tape = w.tape
  output : w'.output = w.output
  size : w.heap.size ≤ w'.heap.size
  block : ∀ b, K b → w'.heap[b]? = w.heap[b]?

section
variable {K : Nat → Prop} {w w' w'' : World} {B : Nat}
theorem Kept.refl (K : Nat → Prop) (w : World) : Kept K w w := ⟨rfl, rfl, rfl, Nat.le_refl _, fun _ _ => rfl⟩
theorem Kept.trans (h : Kept K w w') (k : Kept K w' w'') : Kept K w w'' :=
  ⟨k.os.trans h.os, k.tape.trans h.tape, k.output.trans h.output, Nat.le_trans h.size k.size, fun b hb => (k.block b hb).trans (h.block b hb)⟩
theorem Kept.mono {J : Nat → Prop} (h : Kept K w w') (hj : ∀ b, J b → K b) : Kept J w w' := ⟨h.os, h.tape, h.output, h.size, fun b hb => h.block b (hj b hb)⟩
theorem Below.kept (h : Below B w w') (hk : ∀ b, K b → b < B) : Kept K w w' := ⟨h.os, h.tape, h.output, h.size, fun b hb => h.block b (hk b hb)⟩
theorem Kept.below (h : Kept K w w') (hk : ∀ b, b < B → K b) : Below B w w' := ⟨h.os, h.tape, h.output, h.size, fun b hb => h.block b (hk b hb)⟩
theorem Kept.alloc (h : Kept K w w') (hk : ∀ b, K b → b < w'.heap.size) (o : Obj) : Kept K w (w'.alloc o) := h.trans (Below.kept ((Below.refl _ _).alloc (Nat.le_refl _) o) hk)
theorem Kept.set (h : Kept K w w') {a : Addr} (ha : ¬ K a.block) (v : Value) : Kept K w (w'.setCell a v) :=
  h.trans ⟨rfl, rfl, rfl, Nat.le_of_eq (by simp), fun b hb => Below.heap_setCell w' a v b (fun e => ha (e ▸ hb))⟩
theorem Kept.drew (h : Kept K w w') : Kept K w w'.drew := ⟨h.os, h.tape, h.output, h.size, h.block⟩
theorem Kept.drewN (h : Kept K w w') (n : Nat) : Kept K w (w'.drewN n) := ⟨h.os, h.tape, h.output, h.size, h.block⟩
theorem Blk.drewN {cs : Array Value} {e : TypeId} (h : Blk w B cs e) (n : Nat) : Blk (w.drewN n) B cs e := h
theorem Blk.set_to {cs cs' : Array Value} {e : TypeId} (h : Blk w B cs e) (i : Nat) (v : Value) (he : cs.setIfInBounds i v = cs') : Blk (w.setCell ⟨B, i, none⟩ v) B cs' e := he ▸ h.set i v
theorem Kept.blk (h : Kept K w w') {cs : Array Value} {e : TypeId} (hB : Blk w B cs e) (hk : K B) : Blk w' B cs e := (h.block B hk).trans hB
end

end Go.Proofs.Ytipddhcfcehcaaa
