/- The walk of edit.Check. No condition: lemmas. -/
import Derived.Test.YtkllfdfipkcddaaEditE
import Derived.Test.YtkllfdfipkcddaaMap
namespace Go.Proofs.Ytkllfdfipkcddaa
open Go Go.RowKit

def gtS (a b : ByteArray) : Bool := !Op.bytesLess a.toList b.toList && !(a.toList == b.toList)
/-- What a version has besides its tables: may it be? -/
def headBad (x : Ver) : Bool := decide (x.next < 1) || (decide (4611686018427387904 ≤ x.next) || (decide (x.log < 0) || (decide (x.next < x.log) || decide (x.head < x.floor))))
def tabBad (nx : Int) (t : Tab) : Bool :=
  decide (t.num < 1) || (decide (nx ≤ t.num) || (decide (t.lvl < 0) || (decide (4 ≤ t.lvl) || (decide (t.size < 1) || (decide (4611686018427387904 ≤ t.size) || gtS t.first t.last)))))
def pairBad (u t : Tab) : Bool := !lessT u t || (decide (u.lvl = t.lvl) && (decide (0 < t.lvl) && !ltS u.last t.first))
structure ChkT (nx : Int) (l : List Tab) : Prop where
  tab : ∀ j (hj : j < l.length), tabBad nx l[j] = false
  pair : ∀ j (hj : j + 1 < l.length), pairBad l[j] l[j + 1] = false
  nums : (l.map (·.num)).Nodup
open Classical in
/-- P16.1: may a version be? -/
noncomputable def chkN (x : Ver) : Nat := if headBad x = false ∧ ChkT x.next x.tabs then 0 else 9

theorem chkN_head {x : Ver} (h : headBad x = true) : chkN x = 9 := by unfold chkN; rw [if_neg (by rw [h]; simp)]
theorem chkN_tab {x : Ver} {i : Nat} (hi : i < x.tabs.length) (h : tabBad x.next x.tabs[i] = true) : chkN x = 9 := by
  unfold chkN; rw [if_neg (fun hc => by have := hc.2.tab i hi; rw [h] at this; cases this)]
theorem chkN_pair {x : Ver} {i : Nat} (hi : i + 1 < x.tabs.length) (h : pairBad x.tabs[i] x.tabs[i + 1] = true) : chkN x = 9 := by
  unfold chkN; rw [if_neg (fun hc => by have := hc.2.pair i hi; rw [h] at this; cases this)]
theorem chkN_nums {x : Ver} (h : ¬ (x.tabs.map (·.num)).Nodup) : chkN x = 9 := by
  unfold chkN; rw [if_neg (fun hc => h hc.2.nums)]
theorem chkN_ok {x : Ver} (h : headBad x = false) (h1 : ∀ j (hj : j < x.tabs.length), tabBad x.next x.tabs[j] = false) (h2 : ∀ j (hj : j + 1 < x.tabs.length), pairBad x.tabs[j] x.tabs[j + 1] = false) (h3 : (x.tabs.map (·.num)).Nodup) : chkN x = 0 := by
  unfold chkN; rw [if_pos ⟨h, h1, h2, h3⟩]

theorem headBad_cases {x : Ver} (h : headBad x = true) : x.next < 1 ∨ (1 ≤ x.next ∧ 4611686018427387904 ≤ x.next) ∨ (1 ≤ x.next ∧ x.next < 4611686018427387904 ∧ x.log < 0) ∨ (1 ≤ x.next ∧ x.next < 4611686018427387904 ∧ 0 ≤ x.log ∧ x.next < x.log) ∨
    (1 ≤ x.next ∧ x.next < 4611686018427387904 ∧ 0 ≤ x.log ∧ x.log ≤ x.next ∧ x.head < x.floor) := by
  simp only [headBad, Bool.or_eq_true, decide_eq_true_eq] at h
  omega
theorem headBad_ok {x : Ver} (h : headBad x = false) : 1 ≤ x.next ∧ x.next < 4611686018427387904 ∧ 0 ≤ x.log ∧ x.log ≤ x.next ∧ x.floor ≤ x.head := by
  simp only [headBad, Bool.or_eq_false_iff, decide_eq_false_iff_not] at h
  omega
theorem tabBad_cases {nx : Int} {t : Tab} (h : tabBad nx t = true) : t.num < 1 ∨ (1 ≤ t.num ∧ nx ≤ t.num) ∨ (1 ≤ t.num ∧ t.num < nx ∧ t.lvl < 0) ∨ (1 ≤ t.num ∧ t.num < nx ∧ 0 ≤ t.lvl ∧ 4 ≤ t.lvl) ∨ (1 ≤ t.num ∧ t.num < nx ∧ 0 ≤ t.lvl ∧ t.lvl < 4 ∧ t.size < 1) ∨
    (1 ≤ t.num ∧ t.num < nx ∧ 0 ≤ t.lvl ∧ t.lvl < 4 ∧ 1 ≤ t.size ∧ 4611686018427387904 ≤ t.size) ∨ (1 ≤ t.num ∧ t.num < nx ∧ 0 ≤ t.lvl ∧ t.lvl < 4 ∧ 1 ≤ t.size ∧ t.size < 4611686018427387904 ∧ gtS t.first t.last = true) := by
  simp only [tabBad, Bool.or_eq_true, decide_eq_true_eq] at h
  cases hg : gtS t.first t.last
  · rw [hg] at h
    simp only [Bool.false_eq_true, or_false, and_false] at h ⊢
    omega
  · simp only [and_true]
    omega
theorem tabBad_ok {nx : Int} {t : Tab} (h : tabBad nx t = false) : 1 ≤ t.num ∧ t.num < nx ∧ 0 ≤ t.lvl ∧ t.lvl < 4 ∧ 1 ≤ t.size ∧ t.size < 4611686018427387904 ∧ gtS t.first t.last = false := by
  simp only [tabBad, Bool.or_eq_false_iff, decide_eq_false_iff_not] at h
  exact ⟨by omega, by omega, by omega, by omega, by omega, by omega, h.2.2.2.2.2.2⟩

theorem cmpI_neg (a b : Int) : cmpI a b < 0 ↔ a < b := by
  unfold cmpI; split
  · simp_all
  · split <;> simp_all
theorem cmpI_zero (a b : Int) : cmpI a b = 0 ↔ a = b := by
  unfold cmpI; split
  · rename_i h; constructor
    · intro h; cases h
    · intro e; omega
  · split
    · rename_i h h'; constructor
      · intro h; cases h
      · intro e; omega
    · rename_i h h'; constructor
      · intro _; omega
      · intro _; rfl
theorem cmpS_neg (a b : ByteArray) : cmpS a b < 0 ↔ ltS a b = true := by
  unfold cmpS; split
  · simp_all
  · split <;> simp_all
theorem cmpS_zero (a b : ByteArray) (h : ltS a b = false) : cmpS a b = 0 ↔ a = b := by
  unfold cmpS; rw [h]; simp
theorem ltS_self (a : ByteArray) : ltS a a = false := by
  have key : ∀ l : List UInt8, Op.bytesLess l l = false := by
    intro l
    induction l with
    | nil => rfl
    | cons a l ih => unfold Op.bytesLess; simp [ih]
  exact key _
/-- edit.order and sentryref16.Less say one. -/
theorem ord_less (a b : Tab) : ordT a b < 0 ↔ lessT a b = true := by
  unfold ordT lessT
  by_cases hl : a.lvl = b.lvl
  · have hz := (cmpI_zero a.lvl b.lvl).2 hl
    have hz' : ¬ (cmpI a.lvl b.lvl ≠ 0) := by simp [hz]
    have hl' : ¬ (a.lvl ≠ b.lvl) := by simp [hl]
    rw [if_neg hz', if_neg hl']
    by_cases h0 : a.lvl = 0
    · rw [if_pos h0, if_pos (.inl h0), cmpI_neg]; simp
    · rw [if_neg h0]
      by_cases hf : a.first = b.first
      · have : cmpS a.first b.first = 0 := by rw [hf]; exact (cmpS_zero _ _ (ltS_self _)).2 rfl
        rw [if_pos (.inr hf), orI, if_pos this, cmpI_neg]; simp
      · rw [if_neg (by rintro (h | h); exact h0 h; exact hf h)]
        have hne : cmpS a.first b.first ≠ 0 := by
          cases h : ltS a.first b.first
          · exact fun e => hf ((cmpS_zero _ _ h).1 e)
          · unfold cmpS; rw [h]; simp
        rw [orI, if_neg hne, cmpS_neg]
  · have hz : cmpI a.lvl b.lvl ≠ 0 := fun e => hl ((cmpI_zero _ _).1 e)
    rw [if_pos hz, if_pos hl, cmpI_neg]; simp

theorem ord_ge {a b : Tab} (h : lessT a b = false) : 0 ≤ ordT a b := by
  rcases Int.lt_or_le (ordT a b) 0 with h1 | h1
  · rw [(ord_less a b).1 h1] at h; cases h
  · exact h1
theorem ord_lt {a b : Tab} (h : lessT a b = true) : ordT a b < 0 := (ord_less a b).2 h

theorem pairBad_cases {u t : Tab} (h : pairBad u t = true) : lessT u t = false ∨ (lessT u t = true ∧ u.lvl = t.lvl ∧ 0 < t.lvl ∧ ltS u.last t.first = false) := by
  unfold pairBad at h
  cases hl : lessT u t
  · exact .inl rfl
  · right
    rw [hl] at h
    simpa using h
theorem pairBad_ok {u t : Tab} (h : pairBad u t = false) : lessT u t = true ∧ (u.lvl ≠ t.lvl ∨ (u.lvl = t.lvl ∧ t.lvl ≤ 0) ∨ (u.lvl = t.lvl ∧ 0 < t.lvl ∧ ltS u.last t.first = true)) := by
  unfold pairBad at h
  simp only [Bool.or_eq_false_iff, Bool.not_eq_false', Bool.and_eq_false_iff, decide_eq_false_iff_not] at h
  refine ⟨h.1, ?_⟩
  by_cases e : u.lvl = t.lvl
  · rcases h.2 with h2 | h2 | h2
    · exact absurd e h2
    · exact .inr (.inl ⟨e, by omega⟩)
    · by_cases e2 : 0 < t.lvl
      · exact .inr (.inr ⟨e, e2, by simpa using h2⟩)
      · exact .inr (.inl ⟨e, by omega⟩)
  · exact .inl e

/-- The numbers that are there. -/
def numsM (l : List Tab) : List (Int × Bool) := l.foldl (fun m t => putA m t.num true) []
theorem putA_keys {κ α : Type} [DecidableEq κ] (a : κ) (x : α) : ∀ l : List (κ × α), ((putA l a x).map (·.1)) = if a ∈ l.map (·.1) then l.map (·.1) else l.map (·.1) ++ [a]
  | [] => by simp [putA]
  | p :: r => by
    by_cases h : p.1 = a
    · simp [putA, h]
    · have ih := putA_keys a x r
      simp only [putA, if_neg h, List.map_cons, ih, List.mem_cons]
      by_cases hm : a ∈ r.map (·.1)
      · simp [hm]
      · rw [if_neg hm, if_neg (by rintro (e | e); exact h e.symm; exact hm e)]; rfl
theorem numsM_keys : ∀ (l : List Tab) (m : List (Int × Bool)), (m.map (·.1)).Nodup → ((m.map (·.1) ++ l.map (·.num)).Nodup → ((l.foldl (fun m t => putA m t.num true) m).length = m.length + l.length)) ∧
    (¬ (m.map (·.1) ++ l.map (·.num)).Nodup → ((l.foldl (fun m t => putA m t.num true) m).length < m.length + l.length))
  | [], m, hn => by simp [hn]
  | t :: l, m, hn => by
    have hk := putA_keys t.num true m
    have hlen : (putA m t.num true).length = ((putA m t.num true).map (·.1)).length := by simp
    by_cases hm : t.num ∈ m.map (·.1)
    · rw [if_pos hm] at hk
      have ih := numsM_keys l (putA m t.num true) (by rw [hk]; exact hn)
      rw [hk] at ih hlen
      simp only [List.length_map] at hlen
      refine ⟨fun h => ?_, fun _ => ?_⟩
      · exfalso
        rw [List.nodup_append] at h
        exact h.2.2 _ hm _ (by simp) rfl
      · simp only [List.foldl_cons, List.length_cons]
        by_cases h2 : (m.map (·.1) ++ l.map (·.num)).Nodup
        · rw [ih.1 h2]; omega
        · have := ih.2 h2; omega
    · rw [if_neg hm] at hk
      have ih := numsM_keys l (putA m t.num true) (by rw [hk, List.nodup_append]; exact ⟨hn, by simp, fun a ha b hb e => by simp at hb; subst hb; subst e; exact hm ha⟩)
      rw [hk] at ih hlen
      simp only [List.length_append, List.length_map, List.length_cons, List.length_nil] at hlen
      have e : m.map (·.1) ++ [t.num] ++ l.map (·.num) = m.map (·.1) ++ (t :: l).map (·.num) := by simp
      rw [e] at ih
      refine ⟨fun h => ?_, fun h => ?_⟩
      · simp only [List.foldl_cons, List.length_cons]; rw [ih.1 h]; omega
      · simp only [List.foldl_cons, List.length_cons]; have := ih.2 h; omega
theorem numsM_nodup {l : List Tab} (h : (l.map (·.num)).Nodup) : (numsM l).length = l.length := by
  have := (numsM_keys l [] (by simp)).1 (by simpa using h)
  simpa [numsM] using this
theorem numsM_dup {l : List Tab} (h : ¬ (l.map (·.num)).Nodup) : (numsM l).length < l.length := by
  have := (numsM_keys l [] (by simp)).2 (by simpa using h)
  simpa [numsM] using this
theorem numsM_take {l : List Tab} {i : Nat} (hi : i < l.length) : numsM (l.take (i + 1)) = putA (numsM (l.take i)) l[i].num true := by
  unfold numsM; rw [List.take_succ_eq_append_getElem hi, List.foldl_append]; rfl

theorem intKey : Go.Maps.Keyed Try.prog 3 := Go.Maps.int_keyed Try.underlying3
abbrev kI (n : Int) : Value := .int .i64 n
theorem kI_inj : ∀ a b, kI a = kI b → a = b := by intro a b h; simpa [kI] using h
theorem kI_ok {n : Int} (h : I64 n) : ∃ q, keyOf Try.prog 3 (kI n) = some q := ⟨_, Go.Maps.keyOf_int_mk Try.underlying3 (WalkArith.wf_i64 h)⟩

theorem upto_pair {l : List Tab} {n : Nat} (h : ∀ j (hj : j + 1 < l.length), j + 1 < n + 1 → pairBad l[j] l[j + 1] = false) {hn : n + 1 < l.length} (hp : pairBad l[n] l[n + 1] = false) : ∀ j (hj : j + 1 < l.length), j + 1 < n + 1 + 1 → pairBad l[j] l[j + 1] = false := by
  intro j hj h'
  by_cases e : j + 1 < n + 1
  · exact h j hj e
  · obtain rfl : j = n := by omega
    exact hp

abbrev kB (b : Bool) : Value := .bool b
abbrev tabO (t : Tab) : Obj := .cells #[.int .i64 t.num, .int .i64 t.lvl, .int .i64 t.size, .string t.first, .string t.last] 38
abbrev tabA (t : Tab) : Array Value := #[.int .i64 t.num, .int .i64 t.lvl, .int .i64 t.size, .string t.first, .string t.last]

end Go.Proofs.Ytkllfdfipkcddaa
