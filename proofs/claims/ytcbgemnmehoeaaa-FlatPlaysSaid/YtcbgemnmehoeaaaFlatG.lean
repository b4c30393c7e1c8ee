/- Plain laws of flat's state: pairs as relations; what put and follow leave; a measure of put's rounds. No condition: lemmas. -/
import Derived.Test.YtcbgemnmehoeaaaFlatP
import Derived.Test.YtcbgemnmehoeaaaMap
namespace Go.Proofs.Ytcbgemnmehoeaaa

section
variable {κ α : Type} [DecidableEq κ]
theorem look_put (a : κ) (x : α) (b : κ) : ∀ l : List (κ × α), lookA (putA l a x) b = if a = b then some x else lookA l b
  | [] => by simp [putA, lookA]
  | p :: r => by
    unfold putA
    by_cases h : p.1 = a
    · rw [if_pos h]
      subst h
      by_cases hb : p.1 = b
      · simp [lookA, hb]
      · simp [lookA, hb]
    · rw [if_neg h]
      by_cases hb : p.1 = b
      · subst hb
        simp [lookA, Ne.symm h]
      · simp [lookA, hb, look_put a x b r]
theorem put_keys_mem (a : κ) (x : α) (b : κ × α) : ∀ {l : List (κ × α)}, b ∈ putA l a x → b = (a, x) ∨ b ∈ l
  | [], h => by simpa [putA] using h
  | p :: r, h => by
    unfold putA at h
    split at h
    · rcases List.mem_cons.1 h with h | h
      · exact .inl h
      · exact .inr (by simp [h])
    · rcases List.mem_cons.1 h with h | h
      · exact .inr (by simp [h])
      · rcases put_keys_mem a x b h with h | h
        · exact .inl h
        · exact .inr (by simp [h])
end

/-- A map of maps: point, the inner map's block, its keys. -/
abbrev NL := List (P3 × Nat × List P3)
def inn (l : NL) (p : P3) : List P3 := match lookA l p with | some x => x.2 | none => []
def totN (l : NL) : Nat := (l.flatMap fun e => e.2.2).length
theorem inn_put (l : NL) (a : P3) (b : Nat) (ss : List P3) (x : P3) : inn (putA l a (b, ss)) x = if a = x then ss else inn l x := by
  unfold inn
  rw [look_put]
  by_cases h : a = x <;> simp [h]
theorem inn_some {l : NL} {a : P3} {x : Nat × List P3} (h : lookA l a = some x) : inn l a = x.2 := by simp [inn, h]
theorem inn_none {l : NL} {a : P3} (h : lookA l a = none) : inn l a = [] := by simp [inn, h]
theorem inn_sub {l : NL} {a r : P3} (h : r ∈ inn l a) : r ∈ l.flatMap fun e => e.2.2 := by
  unfold inn at h
  cases hl : lookA l a with
  | none => simp [hl] at h
  | some x =>
    rw [hl] at h
    exact List.mem_flatMap.2 ⟨_, look_mem hl, h⟩
theorem flatMap_mem_length {α β : Type} (f : α → List β) {a : α} : ∀ {l : List α}, a ∈ l → (f a).length ≤ (l.flatMap f).length
  | b :: r, h => by
    rw [List.flatMap_cons, List.length_append]
    rcases List.mem_cons.1 h with rfl | h
    · omega
    · have := flatMap_mem_length f h
      omega
theorem inn_length (l : NL) (a : P3) : (inn l a).length ≤ totN l := by
  unfold inn
  cases hl : lookA l a with
  | none => simp
  | some x => exact flatMap_mem_length (fun e : P3 × Nat × List P3 => e.2.2) (look_mem hl)
theorem tot_put_new {l : NL} {a : P3} (b : Nat) (ss : List P3) (h : lookA l a = none) : totN (putA l a (b, ss)) = totN l + ss.length := by
  rw [put_miss (look_none_iff.1 h)]
  simp [totN]
theorem tot_put : ∀ {l : NL} {a : P3} {x : Nat × List P3} (b : Nat) (ss : List P3), lookA l a = some x → totN (putA l a (b, ss)) + x.2.length = totN l + ss.length
  | p :: r, a, x, b, ss, h => by
    unfold lookA at h
    unfold putA
    by_cases hp : p.1 = a
    · rw [if_pos hp] at h ⊢
      obtain rfl : p.2 = x := by simpa using h
      simp [totN]
      omega
    · rw [if_neg hp] at h ⊢
      have := tot_put b ss h
      simp [totN] at this ⊢
      omega

/-- put's rounds: c is what has been marked, wk what is still to do. -/
structure PutI (U : P3 → List P3) (c0 : P3 → List P3) (p s : P3) (c : P3 → List P3) (wk : List P3) : Prop where
  low : ∀ x y, y ∈ c0 x → y ∈ c x
  up : ∀ x y, y ∈ c x → y ∈ c0 x ∨ (y = s ∧ Reach (fun q r => r ∈ U q) p x)
  work : ∀ q ∈ wk, Reach (fun q r => r ∈ U q) p q
  close : ∀ x, s ∈ c x → s ∉ c0 x → ∀ r ∈ U x, s ∈ c r ∨ r ∈ wk
  start : s ∈ c p ∨ p ∈ wk

section
variable {U c0 c : P3 → List P3} {p s : P3} {wk : List P3}
theorem PutI.first (U c0 : P3 → List P3) (p s : P3) : PutI U c0 p s c0 [p] := by
  refine ⟨fun _ _ h => h, fun _ _ h => .inl h, fun q h => ?_, fun x h k => absurd h k, .inr (by simp)⟩
  obtain rfl : q = p := by simpa using h
  exact .refl
theorem PutI.skip {q : P3} (h : PutI U c0 p s c (wk ++ [q])) (hq : s ∈ c q) : PutI U c0 p s c wk :=
  ⟨h.low, h.up, fun x hx => h.work x (by simp [hx]), fun x h1 h2 r hr => by
    rcases h.close x h1 h2 r hr with k | k
    · exact .inl k
    · rcases List.mem_append.1 k with k | k
      · exact .inr k
      · obtain rfl : r = q := by simpa using k
        exact .inl hq, by
    rcases h.start with k | k
    · exact .inl k
    · rcases List.mem_append.1 k with k | k
      · exact .inr k
      · obtain rfl : p = q := by simpa using k
        exact .inl hq⟩
theorem PutI.mark {q : P3} {c' : P3 → List P3} {ns : List P3} (h : PutI U c0 p s c (wk ++ [q])) (hc : ∀ x y, y ∈ c' x ↔ y ∈ c x ∨ (x = q ∧ y = s)) (hns : ∀ r, r ∈ ns ↔ r ∈ U q) : PutI U c0 p s c' (wk ++ ns) :=
  ⟨fun x y hy => (hc x y).2 (.inl (h.low x y hy)), fun x y hy => by
    rcases (hc x y).1 hy with hy | ⟨rfl, rfl⟩
    · exact h.up x y hy
    · exact .inr ⟨rfl, h.work _ (by simp)⟩, fun x hx => by
    rcases List.mem_append.1 hx with hx | hx
    · exact h.work x (by simp [hx])
    · exact .tail (h.work q (by simp)) ((hns x).1 hx), fun x h1 h2 r hr => by
    rcases (hc x s).1 h1 with h1 | ⟨rfl, _⟩
    · rcases h.close x h1 h2 r hr with k | k
      · exact .inl ((hc r s).2 (.inl k))
      · rcases List.mem_append.1 k with k | k
        · exact .inr (by simp [k])
        · obtain rfl : r = q := by simpa using k
          exact .inl ((hc r s).2 (.inr ⟨rfl, rfl⟩))
    · exact .inr (by simp [(hns r).2 hr]), by
    rcases h.start with k | k
    · exact .inl ((hc p s).2 (.inl k))
    · rcases List.mem_append.1 k with k | k
      · exact .inr (by simp [k])
      · obtain rfl : p = q := by simpa using k
        exact .inl ((hc p s).2 (.inr ⟨rfl, rfl⟩))⟩
theorem PutI.last (h : PutI U c0 p s c []) (hcl : ∀ x r, r ∈ U x → s ∈ c0 x → s ∈ c0 r ∨ r = p) (x y : P3) : y ∈ c x ↔ PutR (fun q r => r ∈ U q) (fun x y => y ∈ c0 x) p s x y := by
  have hp : s ∈ c p := by
    rcases h.start with k | k
    · exact k
    · simp at k
  constructor
  · intro hy
    exact h.up x y hy
  · rintro (hy | ⟨rfl, hr⟩)
    · exact h.low x y hy
    · induction hr with
      | refl => exact hp
      | @tail a b _ hab ih =>
        by_cases h0 : y ∈ c0 a
        · rcases hcl a b hab h0 with k | k
          · exact h.low _ _ k
          · rw [k]; exact hp
        · rcases h.close a ih h0 b hab with k | k
          · exact k
          · simp at k
end

/-- How many of V aren't marked. -/
def unmk (V : List P3) (s : P3) (c : P3 → List P3) : Nat := V.countP fun x => decide (s ∉ c x)
def putM (V : List P3) (s : P3) (c : P3 → List P3) (wk : List P3) : Nat := unmk V s c * (V.length + 1) + wk.length

theorem countP_lt {α : Type} {p q : α → Bool} {a : α} : ∀ {l : List α}, (∀ x, q x = true → p x = true) → a ∈ l → p a = true → q a = false → l.countP q < l.countP p
  | b :: l, h, hm, h1, h2 => by
    have hle : l.countP q ≤ l.countP p := List.countP_mono_left fun x _ hx => h x hx
    rw [List.countP_cons, List.countP_cons]
    rcases List.mem_cons.1 hm with rfl | hm
    · rw [h1, h2]; simp; omega
    · have := countP_lt h hm h1 h2
      cases hq : q b
      · cases hp : p b <;> simp <;> omega
      · simp [h b hq]; omega
theorem putM_skip (V : List P3) (s q : P3) (c : P3 → List P3) (wk : List P3) : putM V s c wk < putM V s c (wk ++ [q]) := by
  unfold putM
  simp
theorem putM_mark {V : List P3} {s q : P3} {c c' : P3 → List P3} {wk ns : List P3} (hc : ∀ x y, y ∈ c' x ↔ y ∈ c x ∨ (x = q ∧ y = s)) (hq : q ∈ V) (hs : s ∉ c q) (hns : ns.length ≤ V.length) : putM V s c' (wk ++ ns) < putM V s c (wk ++ [q]) := by
  have h1 : unmk V s c' < unmk V s c := by
    unfold unmk
    refine countP_lt (a := q) (fun x hx => ?_) hq (by simpa using hs) (by simpa using (hc q s).2 (.inr ⟨rfl, rfl⟩))
    simp only [decide_eq_true_eq] at hx ⊢
    exact fun h => hx ((hc x s).2 (.inl h))
  unfold putM
  have h2 : (unmk V s c' + 1) * (V.length + 1) ≤ unmk V s c * (V.length + 1) := Nat.mul_le_mul_right _ h1
  rw [Nat.add_mul] at h2
  simp only [List.length_append, List.length_singleton]
  omega
theorem putM_first (V : List P3) (p s : P3) (c : P3 → List P3) : putM V s c [p] ≤ V.length * (V.length + 1) + 1 := by
  unfold putM unmk
  have := Nat.mul_le_mul_right (V.length + 1) (List.countP_le_length (p := fun x => decide (s ∉ c x)) (l := V))
  simp only [List.length_singleton]
  omega
theorem putM_work (V : List P3) (s : P3) (c : P3 → List P3) (wk : List P3) : wk.length ≤ putM V s c wk := by unfold putM; omega
theorem putM_congr {V : List P3} {s : P3} {c c' : P3 → List P3} (wk : List P3) (h : ∀ x, c' x = c x) : putM V s c' wk = putM V s c wk := by
  obtain rfl : c' = c := funext h
  rfl
theorem reach_mem {U : P3 → List P3} {p q : P3} {V : List P3} (hp : p ∈ V) (hV : ∀ q r, r ∈ U q → r ∈ V) (h : Reach (fun q r => r ∈ U q) p q) : q ∈ V := by
  cases h with
  | refl => exact hp
  | tail _ hu => exact hV _ _ hu

theorem reach_congr {U U' : P3 → P3 → Prop} (h : ∀ a b, U a b ↔ U' a b) (p x : P3) : Reach U p x ↔ Reach U' p x := ⟨Reach.mono fun a b hab => (h a b).1 hab, Reach.mono fun a b hab => (h a b).2 hab⟩
theorem der_congr {T T' : Tup → Prop} (h : ∀ t, T t ↔ T' t) (x y : P3) : Der T x y ↔ Der T' x y := ⟨der_mono fun t ht => (h t).1 ht, der_mono fun t ht => (h t).2 ht⟩
theorem edge_congr {T T' : Tup → Prop} (h : ∀ t, T t ↔ T' t) (x y : P3) : Edge T x y ↔ Edge T' x y :=
  ⟨fun ⟨t, ht, r⟩ => ⟨t, (h t).1 ht, r⟩, fun ⟨t, ht, r⟩ => ⟨t, (h t).2 ht, r⟩⟩
theorem putR_closed {U M : P3 → P3 → Prop} {p s y : P3} (h : ClosedAt U M y) : ClosedAt U (PutR U M p s) y := by
  rintro q r hu (hm | ⟨rfl, hr⟩)
  · exact .inl (h _ _ hu hm)
  · exact .inr ⟨rfl, .tail hr hu⟩

/-- The state tells just what follows of the tuples L. -/
structure Good (L : List Tup) (M U : NL) : Prop where
  mem : ∀ x y, y ∈ inn M x ↔ Der (· ∈ L) x y
  usr : ∀ q p, p ∈ inn U q ↔ Edge (· ∈ L) q p
  tot : totN U ≤ L.length

theorem Good.nil : Good [] [] [] where
  mem x y := by
    constructor
    · intro h; simp [inn, lookA] at h
    · intro h
      have : ∀ a b, Der (fun t => t ∈ ([] : List Tup)) a b → False := fun a b h => by
        induction h with
        | base h => simp at h
        | step h => simp at h
      exact (this _ _ h).elim
  usr q p := by
    constructor
    · intro h; simp [inn, lookA] at h
    · rintro ⟨t, h, _⟩; simp at h
  tot := by simp [totN]
theorem Good.congr {L L' : List Tup} {M U : NL} (h : Good L M U) (hm : ∀ t, t ∈ L ↔ t ∈ L') (hl : L.length = L'.length) : Good L' M U :=
  ⟨fun x y => (h.mem x y).trans (der_congr hm x y), fun q p => (h.usr q p).trans (edge_congr hm q p), hl ▸ h.tot⟩

theorem addT_mem (L : List Tup) (t u : Tup) : u ∈ L ++ [t] ↔ addT (· ∈ L) t u := by simp [addT]
/-- One tuple more, whose subject has no relation. -/
theorem Good.plain {L : List Tup} {M U M' : NL} {t : Tup} (h : Good L M U) (hs : ¬ t.s.isSet) (hp : ∀ x y, y ∈ inn M' x ↔ PutR (fun q r => r ∈ inn U q) (fun x y => y ∈ inn M x) t.o t.s x y) : Good (L ++ [t]) M' U := by
  refine ⟨fun x y => ?_, fun q p => ?_, by have := h.tot; simp; omega⟩
  · rw [hp x y, der_congr (addT_mem L t) x y, ← follow_plain _ t hs x y]
    unfold PutR
    dsimp only
    rw [h.mem x y, reach_congr (fun a b => h.usr a b) t.o x]
  · rw [h.usr q p, edge_congr (addT_mem L t) q p, edge_add]
    simp [hs]
/-- put may begin. -/
theorem Good.closed {L : List Tup} {M U : NL} (h : Good L M U) (p s : P3) : ∀ x r, r ∈ inn U x → s ∈ inn M x → s ∈ inn M r ∨ r = p := fun x r hr hx =>
  .inl ((h.mem r s).2 (der_closed _ s _ _ ((h.usr x r).1 hr) ((h.mem x s).1 hx)))

/-- follow's second part: the members of the subject's point are put, one by one. -/
structure FolI (L : List Tup) (t : Tup) (M1 : NL) (U' : NL) (done : List P3) (Mi : NL) : Prop where
  mem : ∀ x y, y ∈ inn Mi x ↔ (y ∈ inn M1 x ∨ (y ∈ done ∧ Reach (fun q r => r ∈ inn U' q) t.o x))

theorem FolI.first (L : List Tup) (t : Tup) (M1 U' : NL) : FolI L t M1 U' [] M1 := ⟨fun x y => by simp⟩
theorem FolI.closed {L : List Tup} {t : Tup} {M U M1 U' Mi : NL} {done : List P3} {s : P3} (h : Good L M U) (hp : ∀ x y, y ∈ inn M1 x ↔ PutR (fun q r => r ∈ inn U q) (fun x y => y ∈ inn M x) t.o t.s x y)
    (hU : ∀ q p, p ∈ inn U' q ↔ p ∈ inn U q ∨ (q = t.s ∧ p = t.o)) (hi : FolI L t M1 U' done Mi) (hn : s ∉ done) : ∀ x r, r ∈ inn U' x → s ∈ inn Mi x → s ∈ inn Mi r ∨ r = t.o := by
  intro x r hr hx
  rcases (hU x r).1 hr with hr | ⟨_, rfl⟩
  · left
    rcases (hi.mem x s).1 hx with hx | ⟨hx, _⟩
    · refine (hi.mem r s).2 (.inl ((hp r s).2 ?_))
      refine putR_closed (U := fun q r => r ∈ inn U q) (M := fun x y => y ∈ inn M x) (fun a b hab ha => ?_) x r hr ((hp x s).1 hx)
      rcases h.closed b s a b hab ha with k | k
      · exact k
      · exact (h.mem b s).2 (der_closed _ s _ _ ((h.usr a b).1 hab) ((h.mem a s).1 ha))
    · exact absurd hx hn
  · exact .inr rfl
theorem FolI.next {L : List Tup} {t : Tup} {M1 U' Mi Mj : NL} {done : List P3} {s : P3} (hi : FolI L t M1 U' done Mi) (hp : ∀ x y, y ∈ inn Mj x ↔ PutR (fun q r => r ∈ inn U' q) (fun x y => y ∈ inn Mi x) t.o s x y) : FolI L t M1 U' (done ++ [s]) Mj := by
  refine ⟨fun x y => ?_⟩
  rw [hp x y]
  unfold PutR
  dsimp only
  rw [hi.mem x y]
  simp only [List.mem_append, List.mem_singleton]
  constructor
  · rintro ((h | h) | h)
    · exact .inl h
    · exact .inr ⟨.inl h.1, h.2⟩
    · exact .inr ⟨.inr h.1, h.2⟩
  · rintro (h | ⟨h | h, k⟩)
    · exact .inl (.inl h)
    · exact .inl (.inr ⟨h, k⟩)
    · exact .inr ⟨h, k⟩
theorem FolI.last {L : List Tup} {t : Tup} {M U M1 U' Me : NL} {ss : List P3} (h : Good L M U) (hs : t.s.isSet) (hp : ∀ x y, y ∈ inn M1 x ↔ PutR (fun q r => r ∈ inn U q) (fun x y => y ∈ inn M x) t.o t.s x y)
    (hU : ∀ q p, p ∈ inn U' q ↔ p ∈ inn U q ∨ (q = t.s ∧ p = t.o)) (hss : ∀ y, y ∈ ss ↔ y ∈ inn M1 t.s) (hi : FolI L t M1 U' ss Me) (ht : totN U' ≤ totN U + 1) : Good (L ++ [t]) Me U' := by
  have hE : ∀ q p, p ∈ inn U' q ↔ Edge (addT (· ∈ L) t) q p := fun q p => by
    rw [hU q p, edge_add, h.usr q p]
    constructor
    · rintro (k | ⟨rfl, rfl⟩)
      · exact .inl k
      · exact .inr ⟨hs, rfl, rfl⟩
    · rintro (k | ⟨_, rfl, rfl⟩)
      · exact .inl k
      · exact .inr ⟨rfl, rfl⟩
  have hP : ∀ x y, y ∈ inn M1 x ↔ PutR (Edge (· ∈ L)) (Der (· ∈ L)) t.o t.s x y := fun x y => by
    rw [hp x y]
    unfold PutR
    dsimp only
    rw [h.mem x y, reach_congr (fun a b => h.usr a b) t.o x]
  refine ⟨fun x y => ?_, fun q p => ?_, by have := h.tot; simp; omega⟩
  · rw [hi.mem x y, der_congr (addT_mem L t) x y, ← follow_set _ t hs x y, hP x y, hss y, hP t.s y, reach_congr hE t.o x]
  · rw [hE q p, edge_congr (addT_mem L t) q p]

end Go.Proofs.Ytcbgemnmehoeaaa
