/- Plain laws of rows of inner keys: order, sortedness. No condition: lemmas. -/
import Derived.Test.YtkllfdfipkcddaaDoorLaw18
import Derived.Test.YtkllfdfipkcddaaDoorLawInner
import Derived.Sort.Walk0
namespace Go.Proofs.YtkllfdfipkcddaaDoor
open Go Go.RowKit

theorem ltS_iff (a b : ByteArray) : ltS a b = decide (a.data.toList < b.data.toList) := by
  unfold ltS
  rw [ByteArray.toList_eq, ByteArray.toList_eq]
  exact bytesLess_eq _ _
theorem ltS_irr (a : ByteArray) : ltS a a = false := by
  rw [ltS_iff]; simp [List.lt_irrefl]
theorem ltS_trans {a b c : ByteArray} (h : ltS a b = true) (k : ltS b c = true) : ltS a c = true := by
  rw [ltS_iff] at *
  simp only [decide_eq_true_eq] at *
  exact List.lt_trans h k
theorem ltS_total {a b : ByteArray} (h : ltS a b = false) (hne : a ≠ b) : ltS b a = true := by
  rw [ltS_iff] at *
  simp only [decide_eq_true_eq, decide_eq_false_iff_not] at *
  have h1 : b.data.toList ≤ a.data.toList := List.not_lt.1 h
  rcases List.le_iff_lt_or_eq.1 h1 with h2 | h2
  · exact h2
  · exact absurd (ByteArray.ext (by rw [← Array.toList_inj]; exact h2.symm)) hne

/-- A row rises, pair by pair. -/
def Up (l : List ByteArray) : Prop := l.Pairwise fun a b => ltS a b = true

theorem putS_mem : ∀ (l : List ByteArray) (k x : ByteArray), x ∈ (putS l k).1 ↔ x = k ∨ x ∈ l
  | [], k, x => by simp [putS]
  | a :: r, k, x => by
    have ih := putS_mem r k x
    unfold putS
    split
    · simp only [List.mem_cons, ih]
      constructor
      · rintro (h | h | h)
        · exact .inr (.inl h)
        · exact .inl h
        · exact .inr (.inr h)
      · rintro (h | h | h)
        · exact .inr (.inl h)
        · exact .inl h
        · exact .inr (.inr h)
    · split
      · rename_i h
        subst h
        simp
      · simp

theorem putS_up : ∀ (l : List ByteArray) (k : ByteArray), Up l → Up (putS l k).1
  | [], k, _ => by simp [putS, Up]
  | a :: r, k, h => by
    have hr : Up r := (List.pairwise_cons.1 h).2
    have ha := (List.pairwise_cons.1 h).1
    unfold putS
    split
    · rename_i hl
      refine List.pairwise_cons.2 ⟨fun x hx => ?_, putS_up r k hr⟩
      rcases (putS_mem r k x).1 hx with rfl | hx
      · exact hl
      · exact ha x hx
    · rename_i hl
      split
      · exact h
      · rename_i hne
        have hka : ltS k a = true := ltS_total (by simpa using hl) hne
        refine List.pairwise_cons.2 ⟨fun x hx => ?_, h⟩
        rcases List.mem_cons.1 hx with rfl | hx
        · exact hka
        · exact ltS_trans hka (ha x hx)

theorem Up.rises {l : List ByteArray} (h : Up l) : Rises l := fun i hi => List.pairwise_iff_getElem.1 h i (i + 1) (by omega) hi (by omega)

theorem deco_inner (x : Ent) (h : U64 x.2.1) : deco (innerA x) = some x := by
  obtain ⟨k, r, d⟩ := x
  unfold deco innerA
  rw [show (⟨(innerB k.data.toList r d).toArray⟩ : ByteArray).data.toList = innerB k.data.toList r d from rfl, outer_inner _ _ _ h]
  rfl

theorem fold_mem : ∀ (es : List Ent) (l : List ByteArray) (x : ByteArray), x ∈ es.foldl (fun out y => (putS out (innerA y)).1) l ↔ x ∈ l ∨ ∃ e ∈ es, x = innerA e
  | [], l, x => by simp
  | e :: es, l, x => by
    rw [List.foldl_cons, fold_mem es, putS_mem]
    simp only [List.mem_cons, exists_eq_or_imp]
    constructor
    · rintro ((h | h) | h)
      · exact .inr (.inl h)
      · exact .inl h
      · exact .inr (.inr h)
    · rintro (h | h | h)
      · exact .inl (.inr h)
      · exact .inl (.inl h)
      · exact .inr h
theorem fold_up : ∀ (es : List Ent) (l : List ByteArray), Up l → Up (es.foldl (fun out y => (putS out (innerA y)).1) l)
  | [], _, h => h
  | _ :: es, l, h => fold_up es _ (putS_up l _ h)

theorem rowsL_up (es : List Ent) : Up (rowsL es) := fold_up es [] List.Pairwise.nil
theorem rowsL_mem (es : List Ent) (x : ByteArray) : x ∈ rowsL es ↔ ∃ e ∈ es, x = innerA e := by
  unfold rowsL; rw [fold_mem]; simp

/-- A row of inner keys of entries. -/
def Good (l : List ByteArray) : Prop := Up l ∧ ∀ k ∈ l, ∃ e : Ent, U64 e.2.1 ∧ k = innerA e
theorem rowsL_good (es : List Ent) (h : ∀ e ∈ es, U64 e.2.1) : Good (rowsL es) :=
  ⟨rowsL_up es, fun k hk => by obtain ⟨e, he, rfl⟩ := (rowsL_mem es k).1 hk; exact ⟨e, h e he, rfl⟩⟩
theorem Good.deco {l : List ByteArray} (h : Good l) {k : ByteArray} (hk : k ∈ l) : ∃ e : Ent, U64 e.2.1 ∧ k = innerA e ∧ Proofs.YtkllfdfipkcddaaDoor.deco k = some e := by
  obtain ⟨e, he, rfl⟩ := h.2 k hk
  exact ⟨e, he, rfl, deco_inner e he⟩
theorem Good.code {l : List ByteArray} (h : Good l) : codeOf l = 0 :=
  codeOf_ok (fun i hi e => by obtain ⟨x, _, _, hx⟩ := h.deco (List.getElem_mem hi); rw [hx] at e; cases e) h.1.rises
theorem Good.sub {l m : List ByteArray} (h : Good l) (hs : m.Sublist l) : Good m := ⟨h.1.sublist hs, fun k hk => h.2 k (hs.subset hk)⟩

theorem inner_lt {a b : Ent} (ha : U64 a.2.1) (hb : U64 b.2.1) (h : ltS (innerA a) (innerA b) = true) : (a.1 = b.1 ∧ b.2.1 ≤ a.2.1) ∨ ltS a.1 b.1 = true := by
  unfold ltS at *
  rw [ByteArray.toList_eq, ByteArray.toList_eq] at *
  have := inner_less a.1.data.toList a.2.1 a.2.2 b.1.data.toList b.2.1 b.2.2 ha hb
  rw [show Op.bytesLess (innerA a).data.toList (innerA b).data.toList = Op.bytesLess (innerB a.1.data.toList a.2.1 a.2.2) (innerB b.1.data.toList b.2.1 b.2.2) from rfl, this] at h
  unfold lessE at h
  split at h
  · exact .inr h
  · rename_i hk
    left
    have hk : a.1.data.toList = b.1.data.toList := by simpa using hk
    refine ⟨ByteArray.ext (by rw [← Array.toList_inj]; exact hk), ?_⟩
    split at h
    · simp at h; omega
    · rename_i hr
      simp at hr
      omega

end Go.Proofs.YtkllfdfipkcddaaDoor
