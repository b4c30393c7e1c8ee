/- Plain laws of nested groups: who is a member by tuples; a set that grows by one tuple. No condition: lemmas. -/
import Derived.Lib.Hide
namespace Go.Proofs.Ytcbgemnmehoeaaa

/-- A point, or a subject: type, id, relation. -/
structure P3 where
  t : ByteArray
  i : ByteArray
  r : ByteArray
deriving DecidableEq
/-- A tuple: its point, its subject. -/
structure Tup where
  o : P3
  s : P3
deriving DecidableEq
instance : Inhabited P3 := ⟨⟨ByteArray.empty, ByteArray.empty, ByteArray.empty⟩⟩
instance : Inhabited Tup := ⟨⟨default, default⟩⟩

/-- Has it a relation? -/
def P3.isSet (p : P3) : Prop := p.r.size ≠ 0
instance (p : P3) : Decidable p.isSet := by unfold P3.isSet; infer_instance

/-- P31.1: who is a member of what, by tuples. -/
inductive Der (T : Tup → Prop) : P3 → P3 → Prop
  | base {t : Tup} : T t → Der T t.o t.s
  | step {t : Tup} {x : P3} : T t → t.s.isSet → Der T t.s x → Der T t.o x

/-- p has q's members. -/
def Edge (T : Tup → Prop) (q p : P3) : Prop := ∃ t, T t ∧ t.s.isSet ∧ t.s = q ∧ t.o = p

def ClosedAt (U M : P3 → P3 → Prop) (s : P3) : Prop := ∀ q p, U q p → M q s → M p s

theorem der_closed (T : Tup → Prop) (s : P3) : ClosedAt (Edge T) (Der T) s := by
  rintro q p ⟨t, ht, hs, rfl, rfl⟩ h
  exact .step ht hs h
theorem der_least {T : Tup → Prop} {M : P3 → P3 → Prop} (hb : ∀ t, T t → M t.o t.s) (hc : ∀ s, ClosedAt (Edge T) M s) {p s : P3} (h : Der T p s) : M p s := by
  induction h with
  | base ht => exact hb _ ht
  | step ht hs _ ih => exact hc _ _ _ ⟨_, ht, hs, rfl, rfl⟩ ih
theorem der_mono {T T' : Tup → Prop} (h : ∀ t, T t → T' t) {p s : P3} (hd : Der T p s) : Der T' p s := by
  induction hd with
  | base ht => exact .base (h _ ht)
  | step ht hs _ ih => exact .step (h _ ht) hs ih

/-- What is come to along U. -/
inductive Reach (U : P3 → P3 → Prop) (p : P3) : P3 → Prop
  | refl : Reach U p p
  | tail {x r : P3} : Reach U p x → U x r → Reach U p r
theorem Reach.mono {U U' : P3 → P3 → Prop} (h : ∀ a b, U a b → U' a b) {p x : P3} (hr : Reach U p x) : Reach U' p x := by
  induction hr with
  | refl => exact .refl
  | tail _ hu ih => exact .tail ih (h _ _ hu)
theorem closed_reach {U M : P3 → P3 → Prop} {s : P3} (hc : ClosedAt U M s) {p x : P3} (hp : M p s) (hr : Reach U p x) : M x s := by
  induction hr with
  | refl => exact hp
  | tail _ hu ih => exact hc _ _ hu ih

/-- A member is put into a point, and into all that have its members. -/
def PutR (U M : P3 → P3 → Prop) (p s : P3) (x y : P3) : Prop := M x y ∨ (y = s ∧ Reach U p x)

/-- One tuple more. -/
def addT (T : Tup → Prop) (t : Tup) (u : Tup) : Prop := T u ∨ u = t
theorem edge_add (T : Tup → Prop) (t : Tup) (q p : P3) : Edge (addT T t) q p ↔ Edge T q p ∨ (t.s.isSet ∧ t.s = q ∧ t.o = p) := by
  constructor
  · rintro ⟨u, h | rfl, h1, h2, h3⟩
    · exact .inl ⟨u, h, h1, h2, h3⟩
    · exact .inr ⟨h1, h2, h3⟩
  · rintro (⟨u, h, h1⟩ | h)
    · exact ⟨u, .inl h, h1⟩
    · exact ⟨t, .inr rfl, h⟩

/-- What follows of one tuple more, whose subject has no relation. -/
theorem follow_plain (T : Tup → Prop) (t : Tup) (h : ¬ t.s.isSet) (x y : P3) : PutR (Edge T) (Der T) t.o t.s x y ↔ Der (addT T t) x y := by
  have hU : ∀ q p, Edge (addT T t) q p → Edge T q p := fun q p he => by
    rcases (edge_add T t q p).1 he with he | ⟨h1, _⟩
    · exact he
    · exact absurd h1 h
  constructor
  · rintro (hd | ⟨rfl, hr⟩)
    · exact der_mono (fun _ h => .inl h) hd
    · exact closed_reach (der_closed _ _) (.base (.inr rfl)) (hr.mono fun a b hab => (edge_add T t a b).2 (.inl hab))
  · refine der_least (M := PutR (Edge T) (Der T) t.o t.s) (fun u hu => ?_) (fun s q p he hm => ?_)
    · rcases hu with hu | rfl
      · exact .inl (.base hu)
      · exact .inr ⟨rfl, .refl⟩
    · have he := hU q p he
      rcases hm with hm | ⟨rfl, hr⟩
      · exact .inl (der_closed T _ _ _ he hm)
      · exact .inr ⟨rfl, .tail hr he⟩

/-- What follows of one tuple more, whose subject has a relation. -/
theorem follow_set (T : Tup → Prop) (t : Tup) (h : t.s.isSet) (x y : P3) :
    (PutR (Edge T) (Der T) t.o t.s x y ∨ (PutR (Edge T) (Der T) t.o t.s t.s y ∧ Reach (Edge (addT T t)) t.o x)) ↔ Der (addT T t) x y := by
  have hsub : ∀ a b, Edge T a b → Edge (addT T t) a b := fun a b hab => (edge_add T t a b).2 (.inl hab)
  have hput : ∀ a b, PutR (Edge T) (Der T) t.o t.s a b → Der (addT T t) a b := by
    rintro a b (hd | ⟨rfl, hr⟩)
    · exact der_mono (fun _ h => .inl h) hd
    · exact closed_reach (der_closed _ _) (.base (.inr rfl)) (hr.mono hsub)
  constructor
  · rintro (hd | ⟨hd, hr⟩)
    · exact hput _ _ hd
    · exact closed_reach (der_closed _ _) (.step (.inr rfl) h (hput _ _ hd)) hr
  · refine der_least (M := fun x y => PutR (Edge T) (Der T) t.o t.s x y ∨ (PutR (Edge T) (Der T) t.o t.s t.s y ∧ Reach (Edge (addT T t)) t.o x)) (fun u hu => ?_) (fun s q p he hm => ?_)
    · rcases hu with hu | rfl
      · exact .inl (.inl (.base hu))
      · exact .inl (.inr ⟨rfl, .refl⟩)
    · rcases hm with hm | ⟨hm, hr⟩
      · rcases (edge_add T t q p).1 he with he' | ⟨_, rfl, rfl⟩
        · rcases hm with hm | ⟨rfl, hr⟩
          · exact .inl (.inl (der_closed T _ _ _ he' hm))
          · exact .inl (.inr ⟨rfl, .tail hr he'⟩)
        · exact .inr ⟨hm, .refl⟩
      · exact .inr ⟨hm, .tail hr he⟩

/-- The document's way: the points that a point leads to, and what tuples say of them. -/
inductive Fwd (T : Tup → Prop) (p : P3) : P3 → Prop
  | refl : Fwd T p p
  | tail {t : Tup} : Fwd T p t.o → T t → t.s.isSet → Fwd T p t.s
theorem der_fwd (T : Tup → Prop) (p s : P3) : Der T p s ↔ ∃ t, T t ∧ Fwd T p t.o ∧ t.s = s := by
  constructor
  · intro h
    induction h with
    | @base t ht => exact ⟨t, ht, .refl, rfl⟩
    | @step t x ht hs _ ih =>
      obtain ⟨u, hu, hf, rfl⟩ := ih
      refine ⟨u, hu, ?_, rfl⟩
      generalize u.o = q at hf
      clear hu
      induction hf with
      | refl => exact .tail .refl ht hs
      | tail _ h1 h2 ih => exact .tail ih h1 h2
  · rintro ⟨t, ht, hf, rfl⟩
    have : ∀ q, Fwd T p q → ∀ x, Der T q x → Der T p x := by
      intro q hq
      induction hq with
      | refl => exact fun _ h => h
      | tail _ h1 h2 ih => exact fun x hx => ih _ (.step h1 h2 hx)
    exact this _ hf _ (.base ht)

end Go.Proofs.Ytcbgemnmehoeaaa
