/- Plain laws: what drop.Keep, At, Newest answer on rows of inner keys is what the document says. No condition: lemmas. -/
import Derived.Test.YtkllfdfipkcddaaDoorPlainDrop
namespace Go.Proofs.YtkllfdfipkcddaaDoor
open Go Go.RowKit

/-- Entries of a row of inner keys: Keys rise, and of one Key the Revs fall. -/
def Fine (es : List Ent) : Prop := es.Pairwise fun a b => (a.1 = b.1 ∧ b.2.1 ≤ a.2.1) ∨ ltS a.1 b.1 = true

theorem decoD_of {k : ByteArray} {e : Ent} (h : deco k = some e) : decoD k = e := by unfold decoD; rw [h]; rfl

theorem Good.fine {l : List ByteArray} (h : Good l) : Fine (l.map decoD) := by
  unfold Fine
  rw [List.pairwise_map]
  refine List.Pairwise.imp_of_mem ?_ h.1
  intro a b ha hb hlt
  obtain ⟨x, hx, rfl, dx⟩ := h.deco ha
  obtain ⟨y, hy, rfl, dy⟩ := h.deco hb
  rw [decoD_of dx, decoD_of dy]
  exact inner_lt hx hy hlt

theorem good_pairs {l : List ByteArray} (h : Good l) : Proofs.YtkllfdfipkcddaaDoor.pairs l = l.map fun k => (k, decoD k) := by
  unfold Proofs.YtkllfdfipkcddaaDoor.pairs
  have : ∀ m : List ByteArray, (∀ k ∈ m, k ∈ l) → m.filterMap (fun k => (deco k).map fun x => (k, x)) = m.map fun k => (k, decoD k) := by
    intro m
    induction m with
    | nil => intro _; rfl
    | cons a m ih =>
      intro hm
      obtain ⟨e, _, _, he⟩ := h.deco (hm a (by simp))
      rw [List.filterMap_cons, he, List.map_cons, decoD_of he, ih (fun k hk => hm k (by simp [hk]))]
      rfl
  exact this l fun _ h => h

/-- What (*first).is knows behind some entries. -/
structure InvF (rev : Nat) (es : List Ent) (s : St) : Prop where
  none : es = [] → s.2.2 = false
  last : ∀ y ys, es = ys ++ [y] → s.2.2 = true ∧ s.1 = y.1 ∧ (s.2.1 = true ↔ ∃ z ∈ es, z.1 = y.1 ∧ z.2.1 ≤ rev)

theorem fine_new {ys : List Ent} {y x : Ent} (h : Fine (ys ++ [y] ++ [x])) (hne : x.1 ≠ y.1) : ¬ ∃ z ∈ ys ++ [y], z.1 = x.1 := by
  rintro ⟨z, hz, he⟩
  obtain ⟨h1, _, h2⟩ := List.pairwise_append.1 h
  have hyx := h2 y (by simp) x (by simp)
  rcases hyx with ⟨e, _⟩ | hyx
  · exact hne e.symm
  · rcases List.mem_append.1 hz with hz | hz
    · have hzy := (List.pairwise_append.1 h1).2.2 z hz y (by simp)
      rcases hzy with ⟨e, _⟩ | hzy
      · exact hne (he.symm.trans e)
      · have := ltS_trans hzy hyx
        rw [he, ltS_irr] at this
        cases this
    · obtain rfl : z = y := by simpa using hz
      exact hne he.symm

theorem inv_step {rev : Nat} {es : List Ent} {s : St} {x : Ent} (hf : Fine (es ++ [x])) (hi : InvF rev es s) :
    InvF rev (es ++ [x]) (isStep rev s x).2 ∧ ((isStep rev s x).1 = true ↔ x.2.1 ≤ rev ∧ ¬ ∃ z ∈ es, z.1 = x.1 ∧ z.2.1 ≤ rev) := by
  obtain ⟨k, sm, an⟩ := s
  have key : ∃ told : Bool, (if an = false ∨ x.1 ≠ k then (x.1, false, true) else (k, sm, an)) = (x.1, told, true) ∧ (told = true ↔ ∃ z ∈ es, z.1 = x.1 ∧ z.2.1 ≤ rev) := by
    rcases List.eq_nil_or_concat es with rfl | ⟨ys, y, rfl⟩
    · have := hi.none rfl
      simp only at this
      subst this
      exact ⟨false, by simp, by simp⟩
    · rw [List.concat_eq_append] at *
      obtain ⟨h1, h2, h3⟩ := hi.last y ys rfl
      simp only at h1 h2 h3
      subst h1 h2
      by_cases hk : x.1 = y.1
      · refine ⟨sm, by simp [hk], ?_⟩
        rw [hk]
        exact h3
      · refine ⟨false, by simp [hk], ?_⟩
        simp only [Bool.false_eq_true, false_iff]
        rintro ⟨z, hz, he, _⟩
        exact fine_new hf hk ⟨z, hz, he⟩
  obtain ⟨told, e, ht⟩ := key
  have hstep : isStep rev (k, sm, an) x = if rev < x.2.1 ∨ told = true then (false, (x.1, told, true)) else (true, (x.1, true, true)) := by
    unfold isStep
    simp only at e ⊢
    rw [e]
  rw [hstep]
  by_cases hc : rev < x.2.1 ∨ told = true
  · rw [if_pos hc]
    refine ⟨⟨fun h => by simp at h, fun y' ys' hy => ?_⟩, ?_⟩
    · obtain ⟨_, hxy⟩ := List.append_inj' hy rfl
      obtain rfl : x = y' := by simpa using hxy
      refine ⟨rfl, rfl, ?_⟩
      simp only
      rw [ht]
      constructor
      · rintro ⟨z, hz, h⟩; exact ⟨z, by simp [hz], h⟩
      · rintro ⟨z, hz, h⟩
        rcases List.mem_append.1 hz with hz | hz
        · exact ⟨z, hz, h⟩
        · obtain rfl : z = x := by simpa using hz
          rcases hc with hc | hc
          · have := h.2; omega
          · exact ht.1 hc
    · simp only [Bool.false_eq_true, false_iff, not_and, Classical.not_not]
      intro h
      rcases hc with hc | hc
      · omega
      · exact ht.1 hc
  · rw [if_neg hc]
    have h1 : x.2.1 ≤ rev := by have := fun h => hc (.inl h); omega
    have h2 : ¬ told = true := fun h => hc (.inr h)
    refine ⟨⟨fun h => by simp at h, fun y' ys' hy => ?_⟩, ?_⟩
    · obtain ⟨_, hxy⟩ := List.append_inj' hy rfl
      obtain rfl : x = y' := by simpa using hxy
      exact ⟨rfl, rfl, by simp only [true_iff]; exact ⟨x, by simp, rfl, h1⟩⟩
    · simp only [true_iff]
      exact ⟨h1, fun h => h2 (ht.2 h)⟩

end Go.Proofs.YtkllfdfipkcddaaDoor
