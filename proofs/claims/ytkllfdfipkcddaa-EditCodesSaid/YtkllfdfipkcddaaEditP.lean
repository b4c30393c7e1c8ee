/- Plain laws: the order of tables; what an edit makes of a version, by the program's way and by the document's. No condition: lemmas. -/
import Derived.Test.YtkllfdfipkcddaaEditF
import Derived.Sort.Walk0
import Derived.Shelf.SlSortCmp.WholeK
namespace Go.Proofs.Ytkllfdfipkcddaa
open Go Go.RowKit

theorem ltS_iff (a b : ByteArray) : ltS a b = true ↔ a.data.toList < b.data.toList := by
  unfold ltS
  rw [ByteArray.toList_eq, ByteArray.toList_eq, bytesLess_eq]
  simp
theorem ba_ext {a b : ByteArray} (h : a.data.toList = b.data.toList) : a = b := ByteArray.ext (by rw [← Array.toList_inj]; exact h)

/-- By what a table stands, behind its level. -/
def keyT (t : Tab) : List UInt8 := if t.lvl = 0 then [] else t.first.data.toList

theorem lessT_iff (a b : Tab) : lessT a b = true ↔ a.lvl < b.lvl ∨ a.lvl = b.lvl ∧ (keyT a < keyT b ∨ keyT a = keyT b ∧ a.num < b.num) := by
  unfold lessT keyT
  by_cases hl : a.lvl = b.lvl
  · rw [if_neg (by simpa using hl)]
    by_cases h0 : a.lvl = 0
    · rw [if_pos (.inl h0), if_pos h0, if_pos (hl ▸ h0)]
      simp [hl]
    · have hb0 : ¬ b.lvl = 0 := hl ▸ h0
      simp only [h0, hb0, if_false, false_or]
      by_cases hf : a.first = b.first
      · rw [if_pos hf, hf, decide_eq_true_eq]
        simp only [hl, Int.lt_irrefl, false_or, true_and, List.lt_irrefl]
      · rw [if_neg hf, ltS_iff]
        have hne : ¬ a.first.data.toList = b.first.data.toList := fun e => hf (ba_ext e)
        simp only [hl, hne, false_and, or_false, Int.lt_irrefl, false_or, true_and]
  · rw [if_pos hl]
    simp [hl]

theorem less_irr (a : Tab) : lessT a a = false := by
  rw [Bool.eq_false_iff]
  intro h
  rw [lessT_iff] at h
  rcases h with h | ⟨_, h | ⟨_, h⟩⟩
  · omega
  · exact List.lt_irrefl _ h
  · omega
theorem less_trans {a b c : Tab} (h : lessT a b = true) (k : lessT b c = true) : lessT a c = true := by
  rw [lessT_iff] at *
  rcases h with h | ⟨h1, h⟩
  · rcases k with k | ⟨k1, _⟩
    · exact .inl (by omega)
    · exact .inl (by omega)
  · rcases k with k | ⟨k1, k⟩
    · exact .inl (by omega)
    · refine .inr ⟨h1.trans k1, ?_⟩
      rcases h with h | ⟨h2, h⟩
      · rcases k with k | ⟨k2, _⟩
        · exact .inl (List.lt_trans h k)
        · exact .inl (k2 ▸ h)
      · rcases k with k | ⟨k2, k⟩
        · exact .inl (h2 ▸ k)
        · exact .inr ⟨h2.trans k2, by omega⟩
theorem list_tri (x y : List UInt8) : x < y ∨ x = y ∨ y < x := by
  by_cases h : x < y
  · exact .inl h
  · rcases List.le_iff_lt_or_eq.1 (List.not_lt.1 h) with h | h
    · exact .inr (.inr h)
    · exact .inr (.inl h.symm)
theorem less_total {a b : Tab} (h : a.num ≠ b.num) : lessT a b = true ∨ lessT b a = true := by
  rw [lessT_iff, lessT_iff]
  by_cases h1 : a.lvl < b.lvl
  · exact .inl (.inl h1)
  · by_cases h2 : b.lvl < a.lvl
    · exact .inr (.inl h2)
    · have h3 : a.lvl = b.lvl := by omega
      rcases list_tri (keyT a) (keyT b) with h4 | h4 | h4
      · exact .inl (.inr ⟨h3, .inl h4⟩)
      · by_cases h5 : a.num < b.num
        · exact .inl (.inr ⟨h3, .inr ⟨h4, h5⟩⟩)
        · exact .inr (.inr ⟨h3.symm, .inr ⟨h4.symm, by omega⟩⟩)
      · exact .inr (.inr ⟨h3.symm, .inl h4⟩)
theorem less_ntrans {a b c : Tab} (h : lessT a b = false) (k : lessT b c = false) : lessT a c = false := by
  rw [Bool.eq_false_iff] at *
  intro hc
  rw [ne_eq, lessT_iff] at h k
  rw [lessT_iff] at hc
  rcases hc with hc | ⟨h1, hc⟩
  · by_cases e : a.lvl < b.lvl
    · exact h (.inl e)
    · by_cases e2 : b.lvl < c.lvl
      · exact k (.inl e2)
      · omega
  · by_cases e : a.lvl < b.lvl
    · exact h (.inl e)
    · by_cases e2 : b.lvl < c.lvl
      · exact k (.inl e2)
      · have e3 : a.lvl = b.lvl := by omega
        have e4 : b.lvl = c.lvl := by omega
        rcases hc with hc | ⟨hk, hc⟩
        · rcases list_tri (keyT a) (keyT b) with h4 | h4 | h4
          · exact h (.inr ⟨e3, .inl h4⟩)
          · exact k (.inr ⟨e4, .inl (h4 ▸ hc)⟩)
          · exact k (.inr ⟨e4, .inl (List.lt_trans h4 hc)⟩)
        · rcases list_tri (keyT a) (keyT b) with h4 | h4 | h4
          · exact h (.inr ⟨e3, .inl h4⟩)
          · by_cases e5 : a.num < b.num
            · exact h (.inr ⟨e3, .inr ⟨h4, e5⟩⟩)
            · exact k (.inr ⟨e4, .inr ⟨h4 ▸ hk, by omega⟩⟩)
          · exact k (.inr ⟨e4, .inl (hk ▸ h4)⟩)

instance : Inhabited Tab := ⟨⟨0, 0, 0, ByteArray.empty, ByteArray.empty⟩⟩
theorem lt_ord (a b : Tab) : Go.Proofs.ltOf ordT a b = lessT a b := by
  unfold Go.Proofs.ltOf
  rw [Bool.eq_iff_iff, decide_eq_true_eq]
  exact ord_less a b
theorem swoT : Go.Sort.SWO (Go.Proofs.ltOf ordT) where
  irrefl x := by rw [lt_ord]; exact less_irr x
  trans x y z h k := by rw [lt_ord] at *; exact less_trans h k
  ntrans x y z h k := by rw [lt_ord] at *; exact less_ntrans h k

/-- Rows of tables in order, no number twice. -/
def UpT (l : List Tab) : Prop := l.Pairwise fun a b => lessT a b = true
def NumsT (l : List Tab) : Prop := (l.map (·.num)).Nodup

theorem ChkT.up {nx : Int} {l : List Tab} (h : ChkT nx l) : UpT l := by
  have key : ∀ (l : List Tab), (∀ j (hj : j + 1 < l.length), lessT l[j] l[j + 1] = true) → UpT l := by
    intro l
    induction l with
    | nil => intro _; exact List.Pairwise.nil
    | cons a l ih =>
      intro h
      have hl := ih fun j hj => h (j + 1) (by simpa using hj)
      refine List.pairwise_cons.2 ⟨fun x hx => ?_, hl⟩
      cases l with
      | nil => simp at hx
      | cons b l =>
        have hab := h 0 (by simp)
        simp only [List.getElem_cons_zero, List.getElem_cons_succ] at hab
        rcases List.mem_cons.1 hx with rfl | hx
        · exact hab
        · exact less_trans hab ((List.pairwise_cons.1 hl).1 x hx)
  exact key l fun j hj => (pairBad_ok (h.pair j hj)).1

/-- Two rows in order of the same tables are one. -/
theorem up_unique : ∀ {l m : List Tab}, UpT l → UpT m → l.Perm m → l = m
  | [], m, _, _, h => (List.nil_perm.1 h).symm
  | a :: l, [], _, _, h => by have := h.length_eq; simp at this
  | a :: l, b :: m, hl, hm, h => by
    have hab : a = b := by
      have ha : a ∈ b :: m := h.mem_iff.1 (by simp)
      have hb : b ∈ a :: l := h.mem_iff.2 (by simp)
      rcases List.mem_cons.1 ha with rfl | ha
      · rfl
      · rcases List.mem_cons.1 hb with rfl | hb
        · rfl
        · have h1 := (List.pairwise_cons.1 hm).1 a ha
          have h2 := (List.pairwise_cons.1 hl).1 b hb
          have := less_trans h1 h2
          rw [less_irr] at this
          cases this
    subst hab
    rw [up_unique (List.pairwise_cons.1 hl).2 (List.pairwise_cons.1 hm).2 ((List.perm_cons a).1 h)]

/-- A table, put in its place. -/
def insT : List Tab → Tab → List Tab
  | [], t => [t]
  | a :: l, t => if lessT a t then a :: insT l t else t :: a :: l
theorem insT_perm : ∀ (l : List Tab) (t : Tab), (insT l t).Perm (l ++ [t])
  | [], t => List.Perm.refl _
  | a :: l, t => by
    unfold insT
    split
    · exact (insT_perm l t).cons a
    · exact (List.perm_append_comm (l₁ := [t]) (l₂ := a :: l))
theorem insT_up : ∀ {l : List Tab} {t : Tab}, UpT l → (∀ a ∈ l, a.num ≠ t.num) → UpT (insT l t)
  | [], t, _, _ => by simp [insT, UpT]
  | a :: l, t, h, hn => by
    obtain ⟨h1, h2⟩ := List.pairwise_cons.1 h
    unfold insT
    split
    · rename_i hl
      refine List.pairwise_cons.2 ⟨fun x hx => ?_, insT_up h2 fun b hb => hn b (by simp [hb])⟩
      have := (insT_perm l t).mem_iff.1 hx
      rcases List.mem_append.1 this with hx | hx
      · exact h1 x hx
      · obtain rfl : x = t := by simpa using hx
        exact hl
    · rename_i hl
      have hta : lessT t a = true := (less_total (hn a (by simp))).resolve_left hl
      refine List.pairwise_cons.2 ⟨fun x hx => ?_, h⟩
      rcases List.mem_cons.1 hx with rfl | hx
      · exact hta
      · exact less_trans hta (h1 x hx)

/-- All that is dropped, and added, one behind the other. -/
def hasN (l : List Tab) (n : Int) : Bool := l.any fun t => decide (t.num = n)
def lessN (l : List Tab) (n : Int) : List Tab := l.filter fun t => decide (t.num ≠ n)
def dropAll : List Tab → List Int → Option (List Tab)
  | l, [] => some l
  | l, n :: ns => if hasN l n then dropAll (lessN l n) ns else none
def addAll (put : List Tab → Tab → List Tab) : List Tab → List Tab → Option (List Tab)
  | l, [] => some l
  | l, t :: ts => if hasN l t.num then none else addAll put (put l t) ts

theorem hasN_iff {l : List Tab} {n : Int} : hasN l n = true ↔ n ∈ l.map (·.num) := by
  unfold hasN
  rw [List.any_eq_true]
  simp
theorem hasN_perm {l m : List Tab} (h : l.Perm m) (n : Int) : hasN l n = hasN m n := by
  rw [Bool.eq_iff_iff, hasN_iff, hasN_iff]
  exact (h.map _).mem_iff
theorem addAll_perm : ∀ (ts : List Tab) {l m : List Tab}, l.Perm m → (addAll insT l ts = none ∧ addAll (fun l t => l ++ [t]) m ts = none) ∨ ∃ a b, addAll insT l ts = some a ∧ addAll (fun l t => l ++ [t]) m ts = some b ∧ a.Perm b
  | [], l, m, h => .inr ⟨l, m, rfl, rfl, h⟩
  | t :: ts, l, m, h => by
    unfold addAll
    rw [hasN_perm h]
    cases hasN m t.num
    · simp only [Bool.false_eq_true, if_false]
      exact addAll_perm ts ((insT_perm l t).trans (h.append_right [t]))
    · exact .inl ⟨rfl, rfl⟩
theorem lessN_nums {l : List Tab} {n : Int} (h : NumsT l) : NumsT (lessN l n) := h.sublist (List.Sublist.map _ List.filter_sublist)
theorem dropAll_keep : ∀ (ns : List Int) {l m : List Tab}, dropAll l ns = some m → m.Sublist l
  | [], l, m, h => by obtain rfl : l = m := by simpa [dropAll] using h
                      exact List.Sublist.refl _
  | n :: ns, l, m, h => by
    unfold dropAll at h
    split at h
    · exact (dropAll_keep ns h).trans List.filter_sublist
    · cases h
theorem put_nums {l : List Tab} {t : Tab} (h : NumsT l) (hn : hasN l t.num = false) : NumsT (l ++ [t]) := by
  unfold NumsT at *
  rw [List.map_append, List.nodup_append]
  refine ⟨h, by simp, fun a ha b hb e => ?_⟩
  have hb : b = t.num := by simpa using hb
  subst hb e
  rw [Bool.eq_false_iff] at hn
  exact hn (hasN_iff.2 ha)
theorem addAll_nums : ∀ (ts : List Tab) {l m : List Tab}, NumsT l → addAll (fun l t => l ++ [t]) l ts = some m → NumsT m
  | [], l, m, h, e => by obtain rfl : l = m := by simpa [addAll] using e
                         exact h
  | t :: ts, l, m, h, e => by
    unfold addAll at e
    split at e
    · cases e
    · rename_i hn
      exact addAll_nums ts (put_nums h (by simpa using hn)) e
theorem addAll_up : ∀ (ts : List Tab) {l m : List Tab}, UpT l → addAll insT l ts = some m → UpT m
  | [], l, m, h, e => by obtain rfl : l = m := by simpa [addAll] using e
                         exact h
  | t :: ts, l, m, h, e => by
    unfold addAll at e
    split at e
    · cases e
    · rename_i hn
      refine addAll_up ts (insT_up h fun a ha e => hn (hasN_iff.2 (List.mem_map.2 ⟨a, ha, e⟩))) e

theorem lessN_comm (l : List Tab) (a b : Int) : lessN (lessN l a) b = lessN (lessN l b) a := by
  unfold lessN; rw [List.filter_filter, List.filter_filter]; apply List.filter_congr; intro x _; rw [Bool.and_comm]

def zeroVer : Ver := ⟨[], 0, 0, 0, 0⟩
def outOf (v : Ver) (e : Edi) (l : List Tab) : Ver := ⟨l, max v.floor e.floor, max v.head e.head, max v.log e.log, max v.next e.next⟩
/-- P16.1: what a version becomes by an edit. -/
noncomputable def applyR (v : Ver) (e : Edi) : Ver × Nat :=
  if chkN v ≠ 0 then (zeroVer, 9) else if rightE e = false then (zeroVer, 1) else
    match dropAll v.tabs e.drop with
    | none => (zeroVer, 4)
    | some l => match addAll insT l e.add with
      | none => (zeroVer, 3)
      | some l => if chkN (outOf v e l) ≠ 0 then (zeroVer, 11) else (outOf v e l, 0)

theorem chkN_cases (x : Ver) : chkN x = 0 ∨ chkN x = 9 := by unfold chkN; split <;> simp

/-- It returns a version, and a number. -/
def RetVer (r : Ver × Nat) (w : World) (e : Ending) (w' : World) : Prop := ∃ tv, e = .returned (.tuple #[vV tv r.1, .int .i64 r.2]) ∧ Sl (· < w'.heap.size) w' 5 tv (tcs r.1.tabs) ∧ Below w.heap.size w w'

theorem dropAll_append : ∀ (a b : List Int) (l : List Tab), dropAll l (a ++ b) = (dropAll l a).bind fun m => dropAll m b
  | [], b, l => rfl
  | n :: a, b, l => by
    simp only [List.cons_append, dropAll]
    split
    · exact dropAll_append a b _
    · rfl
theorem addAll_append (put : List Tab → Tab → List Tab) : ∀ (a b : List Tab) (l : List Tab), addAll put l (a ++ b) = (addAll put l a).bind fun m => addAll put m b
  | [], b, l => rfl
  | n :: a, b, l => by
    simp only [List.cons_append, addAll]
    split
    · rfl
    · exact addAll_append put a b _
theorem drop_step {l m : List Tab} {ns : List Int} {i : Nat} (hi : i < ns.length) (h : dropAll l (ns.take i) = some m) (hn : hasN m ns[i] = true) : dropAll l (ns.take (i + 1)) = some (lessN m ns[i]) := by
  rw [List.take_succ_eq_append_getElem hi, dropAll_append, h]
  simp [dropAll, hn]
theorem drop_fail {l m : List Tab} {ns : List Int} {i : Nat} (hi : i < ns.length) (h : dropAll l (ns.take i) = some m) (hn : hasN m ns[i] = false) : dropAll l ns = none := by
  have e : ns = ns.take i ++ ns[i] :: ns.drop (i + 1) := by rw [List.getElem_cons_drop, List.take_append_drop]
  rw [e, dropAll_append, h]
  simp [dropAll, hn]
theorem add_step {put : List Tab → Tab → List Tab} {l m : List Tab} {ns : List Tab} {i : Nat} (hi : i < ns.length) (h : addAll put l (ns.take i) = some m) (hn : hasN m ns[i].num = false) : addAll put l (ns.take (i + 1)) = some (put m ns[i]) := by
  rw [List.take_succ_eq_append_getElem hi, addAll_append, h]
  simp [addAll, hn]
theorem add_fail {put : List Tab → Tab → List Tab} {l m : List Tab} {ns : List Tab} {i : Nat} (hi : i < ns.length) (h : addAll put l (ns.take i) = some m) (hn : hasN m ns[i].num = true) : addAll put l ns = none := by
  have e : ns = ns.take i ++ ns[i] :: ns.drop (i + 1) := by rw [List.getElem_cons_drop, List.take_append_drop]
  rw [e, addAll_append, h]
  simp [addAll, hn]

theorem applyR_9 {v : Ver} {e : Edi} (h : chkN v = 9) : applyR v e = (zeroVer, 9) := by unfold applyR; rw [if_pos (by rw [h]; decide)]
theorem applyR_1 {v : Ver} {e : Edi} (h : chkN v = 0) (h1 : rightE e = false) : applyR v e = (zeroVer, 1) := by unfold applyR; rw [if_neg (by rw [h]; decide), if_pos h1]
theorem applyR_4 {v : Ver} {e : Edi} (h : chkN v = 0) (h1 : rightE e = true) (h2 : dropAll v.tabs e.drop = none) : applyR v e = (zeroVer, 4) := by unfold applyR; rw [if_neg (by rw [h]; decide), if_neg (by rw [h1]; simp), h2]
theorem applyR_3 {v : Ver} {e : Edi} {l : List Tab} (h : chkN v = 0) (h1 : rightE e = true) (h2 : dropAll v.tabs e.drop = some l) (h3 : addAll insT l e.add = none) : applyR v e = (zeroVer, 3) := by
  unfold applyR; rw [if_neg (by rw [h]; decide), if_neg (by rw [h1]; simp), h2]; simp only [h3]
theorem applyR_ok {v : Ver} {e : Edi} {l m : List Tab} (h : chkN v = 0) (h1 : rightE e = true) (h2 : dropAll v.tabs e.drop = some l) (h3 : addAll insT l e.add = some m) : applyR v e = if chkN (outOf v e m) ≠ 0 then (zeroVer, 11) else (outOf v e m, 0) := by
  unfold applyR; rw [if_neg (by rw [h]; decide), if_neg (by rw [h1]; simp), h2]; simp only [h3]
theorem chkN_chk {x : Ver} (h : chkN x = 0) : ChkT x.next x.tabs := by
  unfold chkN at h
  split at h
  · rename_i hc; exact hc.2
  · cases h

end Go.Proofs.Ytkllfdfipkcddaa
