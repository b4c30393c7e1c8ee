/- The tape's schemas may be; a closure has rules only. Schemas that tell the same: the plain laws. The tape: Tuple. No condition: lemmas. -/
import Derived.Test.YtipddhcfcehcaaaZ35
import Derived.Test.YtipddhcfcehcaaaZ27
import Derived.Test.YtipddhcfcehcaaaZ31
import Derived.Test.YtipddhcfcehcaaaZ33
namespace Go.Proofs.Ytipddhcfcehcaaa
open Go Go.RowKit Go.Maps

theorem rel_own : ∀ n ∈ relNs, ownB n = true ∧ n ≠ (⟨#[116, 121, 112, 101]⟩ : ByteArray) ∧ n.size ≤ 6 := by
  intro n hn
  have h : (relNs.all fun n => ownB n && decide (n ≠ (⟨#[116, 121, 112, 101]⟩ : ByteArray)) && decide (n.size ≤ 6)) = true := by kernel_rfl
  have := List.all_eq_true.1 h n hn
  simp only [Bool.and_eq_true, decide_eq_true_eq] at this
  exact ⟨this.1.1, this.1.2, this.2⟩
theorem ty_own : ∀ n ∈ tyNs, ownB n = true ∧ n.size ≤ 6 := by
  intro n hn
  have h : (tyNs.all fun n => ownB n && decide (n.size ≤ 6)) = true := by kernel_rfl
  have := List.all_eq_true.1 h n hn
  simp only [Bool.and_eq_true, decide_eq_true_eq] at this
  exact this
theorem rel_nodup : relNs.Nodup := of_decide_eq_true (by kernel_rfl)
theorem ty_nodup : tyNs.Nodup := of_decide_eq_true (by kernel_rfl)
/-- What the plain laws want of a rule. -/
structure FineR (ts : List TyS) (t : TyS) (d n m : Nat) (r : RT) : Prop where
  text : ∀ k, k + d ≤ 8 → r.textOk k = true
  sz : r.sz ≤ n
  bk : r.bk ≤ m
  ok : r.Ok
  named : r.named ts t = true
theorem sumN_le {α : Type} (f : α → Nat) (D : Nat) : ∀ l : List α, (∀ x ∈ l, f x ≤ D) → sumN f l ≤ l.length * D
  | [], _ => by simp [sumN]
  | a :: l, h => by
    rw [sumN, List.length_cons, Nat.add_mul, Nat.one_mul]
    have := sumN_le f D l fun x hx => h x (List.mem_cons_of_mem _ hx)
    have := h a List.mem_cons_self
    omega
theorem szL_sum (l : List RT) : szL l = sumN RT.sz l := by
  induction l with
  | nil => rfl
  | cons x l ih => rw [szL, sumN, ih]
theorem FineR.leaf {ts : List TyS} {t : TyS} {own : List ByteArray} (hs : ∀ n ∈ own, n ∈ relNs) (hh : ∀ n ∈ own, hasT t n = true) (ha : ∀ n ∈ relNs.take 2, anyT ts n = true) (d : Nat) {r : RT} (h : LeafR own r) : FineR ts t d 1 17 r := by
  have h0 : (⟨#[]⟩ : ByteArray).size = 0 := rfl
  rcases h with rfl | ⟨a, h1, rfl⟩ | ⟨a, h1, b, h2, rfl⟩
  · refine ⟨fun k _ => ?_, ?_, ?_, ?_, ?_⟩
    · rw [RT.textOk]; rfl
    · rw [RT.sz]; simp [szL]
    · rw [RT.bk, bkL, h0]; omega
    · rw [RT.Ok, okL, h0]; exact ⟨by omega, by omega, by omega, trivial⟩
    · rw [RT.named]; simp [namedL, headOk]
  · obtain ⟨o1, o2, o3⟩ := rel_own a (hs a h1)
    refine ⟨fun k _ => ?_, ?_, ?_, ?_, ?_⟩
    · rw [RT.textOk, if_neg (by decide), if_pos rfl, o1]; rfl
    · rw [RT.sz]; simp [szL]
    · rw [RT.bk, bkL, h0]; omega
    · rw [RT.Ok, okL, h0]; exact ⟨by omega, by omega, by omega, trivial⟩
    · rw [RT.named]; simp [namedL, headOk, hh a h1]
  · obtain ⟨o1, o2, o3⟩ := rel_own a (hs a h1)
    obtain ⟨p1, p2, p3⟩ := rel_own b (List.take_subset 2 relNs h2)
    refine ⟨fun k _ => ?_, ?_, ?_, ?_, ?_⟩
    · rw [RT.textOk, if_neg (by decide), if_neg (by decide), if_pos rfl, o1, p1]; rfl
    · rw [RT.sz]; simp [szL]
    · rw [RT.bk, bkL]; omega
    · rw [RT.Ok, okL]; exact ⟨by omega, by omega, by omega, trivial⟩
    · rw [RT.named]; simp [namedL, headOk, hh a h1, ha b h2]
theorem FineR.group {ts : List TyS} {t : TyS} {d n m : Nat} {k : Int} (hk : k = 4 ∨ k = 5) {ps : List RT} (hl : 2 ≤ ps.length ∧ ps.length ≤ 3) (h : ∀ p ∈ ps, FineR ts t d n m p ∧ p.k ≠ k) : FineR ts t (d + 1) (1 + 3 * n) (5 + 3 * m) (.mk k ⟨#[]⟩ ⟨#[]⟩ ps) := by
  refine ⟨fun j hj => ?_, ?_, ?_, ?_, ?_⟩
  · rw [RT.textOk, if_neg (by omega), if_neg (by omega), if_neg (by omega), if_pos hk, decide_eq_true hl.1, textL_eq]
    have : ps.all (goodP k j) = true := List.all_eq_true.2 fun p hp => by
      have hi : innerD k p.k j ≤ j + 1 := by unfold innerD; split <;> omega
      unfold goodP
      rw [decide_eq_true (h p hp).2, decide_eq_true (show innerD k p.k j ≤ 8 by omega), (h p hp).1.text _ (by omega)]
      rfl
    rw [this]
    rfl
  · rw [RT.sz, szL_sum]
    have := sumN_le RT.sz n ps fun p hp => (h p hp).1.sz
    have := Nat.mul_le_mul_right n hl.2
    omega
  · rw [RT.bk, bkL_sum]
    have := sumN_le RT.bk m ps fun p hp => (h p hp).1.bk
    have := Nat.mul_le_mul_right m hl.2
    have h0 : (⟨#[]⟩ : ByteArray).size = 0 := rfl
    omega
  · rw [RT.Ok]
    have h0 : (⟨#[]⟩ : ByteArray).size = 0 := rfl
    exact ⟨by omega, by omega, by omega, okL_mem.2 fun p hp => (h p hp).1.ok⟩
  · rw [RT.named, namedL_eq]
    have h1 : headOk ts t k ⟨#[]⟩ ⟨#[]⟩ = true := by
      unfold headOk
      rcases hk with rfl | rfl <;> rfl
    rw [h1, Bool.true_and]
    exact List.all_eq_true.2 fun p hp => (h p hp).1.named
theorem FineR.mono {ts : List TyS} {t : TyS} {d n m d' n' m' : Nat} {r : RT} (h : FineR ts t d n m r) (hd : d ≤ d') (hn : n ≤ n') (hm : m ≤ m') : FineR ts t d' n' m' r := ⟨fun k hk => h.text k (by omega), Nat.le_trans h.sz hn, Nat.le_trans h.bk hm, h.ok, h.named⟩
theorem GoodR.zero {own : List ByteArray} {r : RT} : GoodR own 0 r ↔ LeafR own r := Iff.rfl
section
variable {ts : List TyS} {t : TyS} {own : List ByteArray} (hs : ∀ n ∈ own, n ∈ relNs) (hh : ∀ n ∈ own, hasT t n = true) (ha : ∀ n ∈ relNs.take 2, anyT ts n = true)
include hs hh ha
theorem GoodR.fine0 {r : RT} (h : GoodR own 0 r) : FineR ts t 0 1 17 r := FineR.leaf hs hh ha 0 h
theorem GoodR.fine1 {r : RT} (h : GoodR own 1 r) : FineR ts t 1 4 56 r := by
  rcases h with h | ⟨k, ps, rfl, hk, hl, hp⟩
  · exact (FineR.leaf hs hh ha 1 h).mono (by omega) (by omega) (by omega)
  · exact (FineR.group hk (by omega) fun p hx => ⟨GoodR.fine0 hs hh ha (hp p hx).1, (hp p hx).2⟩).mono (by omega) (by omega) (by omega)
theorem GoodR.fine2 {r : RT} (h : GoodR own 2 r) : FineR ts t 2 13 173 r := by
  rcases h with h | ⟨k, ps, rfl, hk, hl, hp⟩
  · exact (FineR.leaf hs hh ha 2 h).mono (by omega) (by omega) (by omega)
  · exact (FineR.group hk (by omega) fun p hx => ⟨GoodR.fine1 hs hh ha (hp p hx).1, (hp p hx).2⟩).mono (by omega) (by omega) (by omega)
theorem TopR.fine {r : RT} (h : TopR own r) : FineR ts t 3 32 524 r ∧ r.sz ≤ 15 := by
  rcases h with h | ⟨r0, h0, hk, rfl⟩
  · have := GoodR.fine2 hs hh ha h
    exact ⟨this.mono (by omega) (by omega) (by omega), Nat.le_trans this.sz (by omega)⟩
  · have h2 := GoodR.fine2 hs hh ha h0
    have h1 := (FineR.leaf hs hh ha 2 (r := .mk 1 ⟨#[]⟩ ⟨#[]⟩ []) (.inl rfl))
    have hsz : (RT.mk 4 ⟨#[]⟩ ⟨#[]⟩ [.mk 1 ⟨#[]⟩ ⟨#[]⟩ [], r0]).sz ≤ 15 := by
      rw [RT.sz, szL, szL, szL]
      have := h1.sz
      have := h2.sz
      omega
    have := FineR.group (ts := ts) (t := t) (k := 4) (.inl rfl) (ps := [.mk 1 ⟨#[]⟩ ⟨#[]⟩ [], r0]) (by simp) (d := 2) (n := 13) (m := 173) fun p hp => by
      simp only [List.mem_cons, List.not_mem_nil, or_false] at hp
      rcases hp with rfl | rfl
      · exact ⟨h1.mono (by omega) (by omega) (by omega), by simp [RT.k]⟩
      · exact ⟨h2, hk⟩
    exact ⟨⟨this.text, Nat.le_trans hsz (by omega), Nat.le_trans this.bk (by omega), this.ok, this.named⟩, hsz⟩
end
/-- What the plain laws want of a schema. -/
structure FineS (ts : List TyS) : Prop where
  chk : chk06 ts = 0
  ok : ∀ t ∈ ts, t.Ok
  bk : schBk ts ≤ 10000
  two : 2 ≤ ts.length ∧ ts.length ≤ 3
  rels : ∀ t ∈ ts, 2 ≤ t.rels.length ∧ t.rels.length ≤ 4
theorem GoodS.fine {ts : List TyS} (h : GoodS ts) : FineS ts := by
  obtain ⟨hl, hn, hg⟩ := h
  have hany : ∀ n ∈ relNs.take 2, anyT ts n = true := fun n hn2 => by
    have h0 : 0 < ts.length := by omega
    obtain ⟨m, hm2, hm4, hr, _⟩ := hg ts[0] (List.getElem_mem h0)
    refine List.any_eq_true.2 ⟨ts[0], List.getElem_mem h0, ?_⟩
    have : n ∈ ts[0].rels.map (·.1) := by
      rw [hr]
      exact List.take_subset_take_left relNs hm2 hn2
    obtain ⟨x, hx, rfl⟩ := List.mem_map.1 this
    exact List.any_eq_true.2 ⟨x, hx, decide_eq_true rfl⟩
  have hfine : ∀ t ∈ ts, (∀ n ∈ t.rels.map (·.1), n ∈ relNs) ∧ (t.rels.map (·.1)).Nodup ∧ (2 ≤ t.rels.length ∧ t.rels.length ≤ 4) ∧ ∀ r ∈ t.rels, FineR ts t 3 32 524 r.2 ∧ r.2.sz ≤ 15 := fun t ht => by
    obtain ⟨m, hm2, hm4, hr, hp⟩ := hg t ht
    have hlen : t.rels.length = m := by
      have := congrArg List.length hr
      rw [List.length_map, List.length_take] at this
      have h4 : relNs.length = 4 := rfl
      omega
    refine ⟨fun n hn => by rw [hr] at hn; exact List.take_subset m relNs hn, by rw [hr]; exact rel_nodup.sublist (List.take_sublist m relNs), by omega, fun r hr' => ?_⟩
    refine TopR.fine (own := relNs.take m) (fun n hn => List.take_subset m relNs hn) (fun n hn => ?_) hany (hp r hr')
    rw [← hr] at hn
    obtain ⟨x, hx, rfl⟩ := List.mem_map.1 hn
    exact List.any_eq_true.2 ⟨x, hx, decide_eq_true rfl⟩
  have hnm : ∀ t ∈ ts, ownB t.name = true ∧ t.name.size ≤ 6 := fun t ht => ty_own _ (by
    have : t.name ∈ ts.map (·.name) := List.mem_map_of_mem ht
    rw [hn] at this
    exact List.take_subset _ _ this)
  have hrn : ∀ t ∈ ts, ∀ r ∈ t.rels, ownB r.1 = true ∧ r.1 ≠ (⟨#[116, 121, 112, 101]⟩ : ByteArray) ∧ r.1.size ≤ 6 := fun t ht r hr => rel_own _ ((hfine t ht).1 _ (List.mem_map_of_mem hr))
  have hprint : printOk ts = true := List.all_eq_true.2 fun t ht => by
    unfold tyOk
    rw [(hnm t ht).1, Bool.true_and]
    refine List.all_eq_true.2 fun r hr => ?_
    unfold relOk
    rw [((hfine t ht).2.2.2 r hr).1.text 0 (by omega), (hrn t ht r hr).1, decide_eq_true (hrn t ht r hr).2.1]
    rfl
  have hlong : longOk ts = true := by
    unfold longOk
    rw [decide_eq_true (show ts.length ≤ 16 by omega), Bool.true_and]
    refine List.all_eq_true.2 fun t ht => ?_
    unfold tyLong
    rw [decide_eq_true (show t.rels.length ≤ 16 by have := (hfine t ht).2.2.1.2; omega), Bool.true_and]
    exact List.all_eq_true.2 fun r hr => decide_eq_true ((hfine t ht).2.2.2 r hr).1.sz
  have huniq : uniqOk ts = true := by
    unfold uniqOk
    rw [hn, decide_eq_true (ty_nodup.sublist (List.take_sublist _ _)), Bool.true_and]
    exact List.all_eq_true.2 fun t ht => decide_eq_true (hfine t ht).2.1
  have hnames : namesOk ts = true := by
    unfold namesOk
    exact List.all_eq_true.2 fun t ht => List.all_eq_true.2 fun r hr => ((hfine t ht).2.2.2 r hr).1.named
  refine ⟨by unfold chk06; rw [hprint, hlong, huniq, hnames]; rfl, fun t ht => ⟨by have := (hnm t ht).2; omega, fun r hr => ⟨by have := (hrn t ht r hr).2.2; omega, ((hfine t ht).2.2.2 r hr).1.ok⟩⟩, ?_, by omega, fun t ht => (hfine t ht).2.2.1⟩
  unfold schBk
  have h1 := sumN_le tyBk 2136 ts fun t ht => by
    rw [tyBk_eq]
    have := sumN_le relBk 532 t.rels fun r hr => by
      rw [relBk_eq]
      have := (hrn t ht r hr).2.2
      have := ((hfine t ht).2.2.2 r hr).1.bk
      omega
    have := (hfine t ht).2.2.1.2
    have := (hnm t ht).2
    have := Nat.mul_le_mul_right 532 (hfine t ht).2.2.1.2
    omega
  have := Nat.mul_le_mul_right 2136 (show ts.length ≤ 3 by omega)
  omega

/-- What is named has a rule. -/
theorem has_look {ts : List TyS} {t : TyS} (ht : t ∈ ts) {a : ByteArray} (h : hasT t a = true) : (lookA (refsOf ts) ⟨t.name, a⟩).isSome = true := by
  obtain ⟨r, hr, he⟩ := List.any_eq_true.1 (show t.rels.any (fun r => decide (r.1 = a)) = true from h)
  have he := of_decide_eq_true he
  subst he
  obtain ⟨x, hx⟩ := look_refs (x := ⟨t.name, r.1⟩) (List.mem_map.2 ⟨_, refs_mem.2 ⟨t, ht, r, hr, rfl⟩, rfl⟩)
  rw [hx]
  rfl
theorem named_needs {ts : List TyS} {t : TyS} (ht : t ∈ ts) (r : RT) : r.named ts t = true → ∀ y ∈ r.pneeds (refsOf ts) t.name, (lookA (refsOf ts) y).isSome = true := by
  induction r using RT.ind with
  | h r ih =>
  obtain ⟨k, a, b, ps⟩ := r
  dsimp only [RT.ps] at ih
  intro h y hy
  rw [RT.named, Bool.and_eq_true, namedL_eq, List.all_eq_true] at h
  obtain ⟨h1, h2⟩ := h
  rw [RT.pneeds, List.mem_append, pneedsL_eq, List.mem_flatMap] at hy
  rcases hy with hy | ⟨p, hp, hy⟩
  · unfold headOk at h1
    by_cases k2 : k = 2
    · subst k2
      rw [if_pos rfl, List.mem_singleton] at hy
      subst hy
      exact has_look ht (by simpa using h1)
    · rw [if_neg k2] at hy
      by_cases k3 : k = 3
      · subst k3
        rw [if_pos rfl, List.mem_cons] at hy
        rcases hy with rfl | hy
        · exact has_look ht (by
            simp at h1
            exact h1.1)
        · obtain ⟨n, hn, rfl⟩ := List.mem_map.1 hy
          unfold whereP at hn
          obtain ⟨x, hx, rfl⟩ := List.mem_map.1 hn
          obtain ⟨hx1, hb⟩ := List.mem_filter.1 hx
          have hb := of_decide_eq_true hb
          subst hb
          obtain ⟨z, hz⟩ := look_refs (x := x.1) (List.mem_map.2 ⟨x, hx1, rfl⟩)
          rw [show (⟨x.1.t, x.1.r⟩ : R2) = x.1 from rfl, hz]
          rfl
      · rw [if_neg k3] at hy
        cases hy
  · exact ih p hp (h2 p hp) y hy
theorem chk_names {ts : List TyS} (h : chk06 ts = 0) : namesOk ts = true := by
  unfold chk06 at h
  split at h
  · split at h
    · split at h
      · split at h
        · assumption
        · cases h
      · cases h
    · cases h
  · cases h
theorem reach_look {ts : List TyS} (h : chk06 ts = 0) {r x : R2} (hr : (lookA (refsOf ts) r).isSome = true) (hx : ReachP ts r x) : (lookA (refsOf ts) x).isSome = true := by
  cases hx with
  | self => exact hr
  | step h1 h2 =>
    obtain ⟨rule, hl, hy⟩ := needs_univ h2
    obtain ⟨t, ht, q, hq, e⟩ := refs_mem.1 (look_mem hl)
    injection e with e1 e2
    subst e2
    rw [e1] at hy
    exact named_needs ht q.2 (List.all_eq_true.1 (List.all_eq_true.1 (chk_names h) t ht) q hq) _ hy

end Go.Proofs.Ytipddhcfcehcaaa
namespace Go.Proofs.Ytipddhcfcehcaaa
open Go Go.RowKit Go.Maps

theorem lookA_of_nodup {κ α : Type} [DecidableEq κ] : ∀ {l : List (κ × α)}, (l.map (·.1)).Nodup → ∀ {p : κ × α}, p ∈ l → lookA l p.1 = some p.2
  | [], _, _, hp => absurd hp (by simp)
  | q :: l, hn, p, hp => by
    rw [List.map_cons, List.nodup_cons] at hn
    rw [lookA]
    rcases List.mem_cons.1 hp with rfl | hp
    · rw [if_pos rfl]
    · rw [if_neg (fun e => hn.1 (by rw [e]; exact List.mem_map_of_mem hp))]
      exact lookA_of_nodup hn.2 hp
theorem lookA_mem_eq {κ α : Type} [DecidableEq κ] {l m : List (κ × α)} (hn : (l.map (·.1)).Nodup) (hm : (m.map (·.1)).Nodup) (h : ∀ p, p ∈ l ↔ p ∈ m) (k : κ) : lookA l k = lookA m k := by
  cases h1 : lookA l k with
  | some x => exact (lookA_of_nodup hm ((h _).1 (look_mem h1))).symm
  | none =>
    cases h2 : lookA m k with
    | none => rfl
    | some x =>
      have := lookA_of_nodup hn ((h _).2 (look_mem h2))
      rw [h1] at this
      cases this
/-- Two schemas that tell the same. -/
structure Like (ts us : List TyS) : Prop where
  T : ∀ n, kn ts n = kn us n
  R : ∀ k, lookA (refsOf ts) k = lookA (refsOf us) k
theorem chk_print {ts : List TyS} (h : chk06 ts = 0) : printOk ts = true := by
  unfold chk06 at h
  split at h
  · assumption
  · cases h
theorem chk_longT {ts : List TyS} (h : chk06 ts = 0) : longOk ts = true := by
  unfold chk06 at h
  split at h
  · split at h
    · assumption
    · cases h
  · cases h
theorem refs_sub : ∀ ts : List TyS, ((refsOf ts).map (·.1)).Sublist (namesOf ts)
  | [] => List.Sublist.refl _
  | t :: ts => by
    unfold refsOf namesOf
    rw [List.flatMap_cons, List.flatMap_cons, List.map_append]
    refine List.Sublist.append ?_ (refs_sub ts)
    unfold namesT relsOf
    rw [List.map_map]
    exact List.Sublist.cons _ (List.Sublist.refl _)
theorem refs_nodup {ts : List TyS} (h : chk06 ts = 0) : ((refsOf ts).map (·.1)).Nodup := ((names_nodup (chk_print h)).2 (chk_uq h)).sublist (refs_sub ts)
theorem tys_nodup {ts : List TyS} (h : chk06 ts = 0) : (ts.map (·.name)).Nodup := by
  have := chk_uq h
  unfold uniqOk at this
  rw [Bool.and_eq_true, decide_eq_true_eq] at this
  exact this.1
theorem Nms.plain {ts : List TyS} (h : chk06 ts = 0) : Nms ts := by
  refine ⟨?_, ?_, fun x hx e => ?_⟩
  · unfold trL
    rw [List.map_map]
    exact tys_nodup h
  · unfold dL
    rw [List.map_map]
    exact refs_nodup h
  · obtain ⟨t, ht, r, hr, rfl⟩ := refs_mem.1 hx
    have h1 := List.all_eq_true.1 (chk_print h) t ht
    unfold tyOk at h1
    rw [Bool.and_eq_true] at h1
    have h2 := List.all_eq_true.1 h1.2 r hr
    unfold relOk at h2
    simp only [Bool.and_eq_true] at h2
    have h3 := (own_chars h2.1.2).2.1
    dsimp only at e
    rw [e] at h3
    exact h3 rfl
theorem Like.of_mem {ts us : List TyS} (h1 : chk06 ts = 0) (h2 : chk06 us = 0) (h : ∀ t, t ∈ ts ↔ t ∈ us) : Like ts us := by
  refine ⟨fun n => ?_, lookA_mem_eq (refs_nodup h1) (refs_nodup h2) fun p => ?_⟩
  · rw [Bool.eq_iff_iff, kn_mem, kn_mem, List.mem_map, List.mem_map]
    exact ⟨fun ⟨t, ht, e⟩ => ⟨t, (h t).1 ht, e⟩, fun ⟨t, ht, e⟩ => ⟨t, (h t).2 ht, e⟩⟩
  · rw [refs_mem, refs_mem]
    exact ⟨fun ⟨t, ht, e⟩ => ⟨t, (h t).1 ht, e⟩, fun ⟨t, ht, e⟩ => ⟨t, (h t).2 ht, e⟩⟩
theorem Like.symm {ts us : List TyS} (h : Like ts us) : Like us ts := ⟨fun n => (h.T n).symm, fun k => (h.R k).symm⟩
theorem kn_ref {ts : List TyS} {p : R2 × RT} (h : p ∈ refsOf ts) : kn ts p.1.t = true := by
  obtain ⟨t, ht, r, hr, rfl⟩ := refs_mem.1 h
  exact kn_mem.2 (List.mem_map_of_mem ht)
theorem without_like {ts us : List TyS} (h : Like ts us) (k : Int) : withoutL ts us k = [] := by
  unfold withoutL noT noR
  rw [List.filter_eq_nil_iff.2 fun p hp => ?_, List.filter_eq_nil_iff.2 fun p hp => ?_]
  · rfl
  · obtain ⟨x, hx, e, hs⟩ := look_some_of hp
    rw [dL_look, ← h.R]
    cases hl : lookA (refsOf ts) p.1 with
    | none => rw [hl] at hs; cases hs
    | some r => simp
  · obtain ⟨t, ht, rfl⟩ := List.mem_map.1 hp
    dsimp only
    rw [← h.T, kn_mem.2 (List.mem_map_of_mem ht)]
    simp
theorem diff_like {ts us : List TyS} (h : Like ts us) (hc : chk06 ts = 0) : diffL ts us = [] := by
  unfold diffL chgL
  rw [without_like h, without_like h.symm, List.filter_eq_nil_iff.2 fun p hp => ?_]
  · rfl
  · obtain ⟨x, hx, rfl⟩ := List.mem_map.1 hp
    unfold chT3
    rw [dL_look, ← h.R, lookA_of_nodup (refs_nodup hc) hx]
    simp
theorem tyIn_kn (ts : List TyS) (n : ByteArray) : tyIn ts n = kn ts n := by
  rw [Bool.eq_iff_iff, kn_mem]
  unfold tyIn
  rw [List.any_eq_true, List.mem_map]
  exact ⟨fun ⟨t, ht, e⟩ => ⟨t, ht, of_decide_eq_true e⟩, fun ⟨t, ht, e⟩ => ⟨t, ht, decide_eq_true e⟩⟩
theorem wr_like {ts us : List TyS} (h : Like ts us) (t : Tup) : wrN ts t = wrN us t := by
  unfold wrN wrM
  rw [h.R, h.R, tyIn_kn, tyIn_kn, h.T]
theorem named_congr {ts us : List TyS} (h : ∀ n, anyT ts n = anyT us n) (t : TyS) (r : RT) : r.named ts t = r.named us t := by
  induction r using RT.ind with
  | h r ih =>
    obtain ⟨k, a, b, ps⟩ := r
    rw [RT.named, RT.named, namedL_eq, namedL_eq]
    unfold headOk
    rw [h b]
    congr 1
    rw [Bool.eq_iff_iff, List.all_eq_true, List.all_eq_true]
    exact ⟨fun k p hp => (ih p hp) ▸ k p hp, fun k p hp => (ih p hp).symm ▸ k p hp⟩
theorem sumN_perm {α : Type} (f : α → Nat) {l m : List α} (h : l.Perm m) : sumN f l = sumN f m := by
  induction h with
  | nil => rfl
  | cons x _ ih => rw [sumN, sumN, ih]
  | swap x y l => simp only [sumN]; omega
  | trans _ _ h1 h2 => exact h1.trans h2
theorem chk_perm {ts us : List TyS} (hp : us.Perm ts) (hc : chk06 ts = 0) : chk06 us = 0 := by
  have h1 : printOk us = true := List.all_eq_true.2 fun t ht => List.all_eq_true.1 (chk_print hc) t (hp.mem_iff.1 ht)
  have h2 : longOk us = true := by
    have := chk_longT hc
    unfold longOk at this ⊢
    rw [Bool.and_eq_true, decide_eq_true_eq, List.all_eq_true] at this
    rw [Bool.and_eq_true, decide_eq_true_eq, List.all_eq_true, hp.length_eq]
    exact ⟨this.1, fun t ht => this.2 t (hp.mem_iff.1 ht)⟩
  have h3 : uniqOk us = true := by
    have := chk_uq hc
    unfold uniqOk at this ⊢
    rw [Bool.and_eq_true, decide_eq_true_eq, List.all_eq_true] at this
    rw [Bool.and_eq_true, decide_eq_true_eq, List.all_eq_true]
    exact ⟨(hp.map _).nodup_iff.2 this.1, fun t ht => this.2 t (hp.mem_iff.1 ht)⟩
  have ha : ∀ n, anyT us n = anyT ts n := fun n => by
    unfold anyT
    rw [Bool.eq_iff_iff, List.any_eq_true, List.any_eq_true]
    exact ⟨fun ⟨t, ht, e⟩ => ⟨t, hp.mem_iff.1 ht, e⟩, fun ⟨t, ht, e⟩ => ⟨t, hp.mem_iff.2 ht, e⟩⟩
  have h4 : namesOk us = true := by
    have := chk_names hc
    unfold namesOk at this ⊢
    rw [List.all_eq_true] at this ⊢
    intro t ht
    have := List.all_eq_true.1 (this t (hp.mem_iff.1 ht))
    exact List.all_eq_true.2 fun r hr => by rw [named_congr ha]; exact this r hr
  unfold chk06
  rw [h1, h2, h3, h4]
  rfl
theorem FineS.perm {ts us : List TyS} (hp : us.Perm ts) (h : FineS ts) : FineS us :=
  ⟨chk_perm hp h.chk, fun t ht => h.ok t (hp.mem_iff.1 ht), by unfold schBk; rw [sumN_perm _ hp]; exact h.bk, by rw [hp.length_eq]; exact h.two, fun t ht => h.rels t (hp.mem_iff.1 ht)⟩

end Go.Proofs.Ytipddhcfcehcaaa
namespace Go.Proofs.Ytipddhcfcehcaaa
open Go Go.RowKit Go.Maps

theorem Kept.cell {K : Nat → Prop} {w w' : World} (h : Kept K w w') {a : Addr} (hb : K a.block) {v : Value} (hc : w.cell? a = some v) : w'.cell? a = some v := (World.cell?_of_block (h.block _ hb)).trans hc
/-- A type's relations' names, as they lie. -/
def RelRow (S : Nat → Prop) (w : World) (m b off : Nat) : Prop := S b ∧ ∀ j, j < m → ∃ rn : ByteArray, w.cell? ⟨b, off + j * 5, none⟩ = some (.string rn) ∧ rn.size ≤ maxLen
/-- Types, as they lie: names, and relations' names. -/
def TyRow (S : Nat → Prop) (w : World) (n b off : Nat) : Prop := S b ∧ ∀ i, i < n → ∃ (nm : ByteArray) (b2 off2 m c2 : Nat), w.cell? ⟨b, off + i * 2, none⟩ = some (.string nm) ∧ w.cell? ⟨b, off + i * 2 + 1, none⟩ = some (.slice (some ⟨b2, off2, none⟩) m c2) ∧ nm.size ≤ maxLen ∧ 1 ≤ m ∧ m ≤ 1000 ∧ RelRow S w m b2 off2
theorem TysAt.row {S : Nat → Prop} {w : World} {ts : List TyS} {tv : Value} (h : TysAt S w ts tv) (hok : ∀ t ∈ ts, t.Ok) (hn : 1 ≤ ts.length) (hr : ∀ t ∈ ts, 1 ≤ t.rels.length ∧ t.rels.length ≤ 1000) : ∃ b off c, tv = .slice (some ⟨b, off, none⟩) ts.length c ∧ TyRow S w ts.length b off := by
  obtain ⟨ao, c, rfl, -, -, hc⟩ := h.rows
  obtain ⟨b, off, -, rfl, hb, -⟩ := hc 0 hn
  refine ⟨b, off, c, rfl, hb, fun i hi => ?_⟩
  obtain ⟨b', off', pv, e, -, c0, c1, hrel⟩ := hc i hi
  cases e
  obtain ⟨ao2, c2, rfl, -, -, hq⟩ := hrel.rows
  have hm := hr _ (List.getElem_mem hi)
  obtain ⟨b2, off2, -, rfl, hb2, -⟩ := hq 0 hm.1
  have ho := hok _ (List.getElem_mem hi)
  refine ⟨_, b2, off2, _, c2, c0, c1, Nat.le_trans ho.1 (by decide), hm.1, hm.2, hb2, fun j hj => ?_⟩
  obtain ⟨b3, off3, pv3, e, -, d0, -⟩ := hq j hj
  cases e
  exact ⟨_, d0, Nat.le_trans (ho.2 _ (List.getElem_mem hj)).1 (by decide)⟩
/-- Where Tuple stands. -/
structure TuS (w W : World) (tp n b off c : Nat) : Prop where
  X : KT tp w W
  T : Tp W tp
  B3 : Blk W w.heap.size #[.slice (some ⟨b, off, none⟩) n c] 24
  B4 : Blk W (w.heap.size + 1) #[.string ⟨#[]⟩, .string ⟨#[]⟩, .string ⟨#[]⟩, .string ⟨#[]⟩, .string ⟨#[]⟩, .string ⟨#[]⟩] 35
  B5 : ∃ s0 s1 s2 s3 s4 s5 : ByteArray, (s0.size ≤ maxLen ∧ s1.size ≤ maxLen ∧ s2.size ≤ maxLen ∧ s3.size ≤ maxLen ∧ s4.size ≤ maxLen ∧ s5.size ≤ maxLen) ∧ Blk W (w.heap.size + 1 + 1) #[.string s0, .string s1, .string s2, .string s3, .string s4, .string s5] 35
  B6 : Blk W (w.heap.size + 1 + 1 + 1) #[.string ⟨#[49]⟩, .string ⟨#[50]⟩, .string ⟨#[51]⟩] 9
theorem TuS.up {w W W' : World} {tp n b off c : Nat} (h : TuS w W tp n b off c) (hk : KT tp W W') (ht : Tp W' tp) (hl : tp < w.heap.size) : TuS w W' tp n b off c :=
  ⟨KT.trans h.X hk, ht, hk.blk h.B3 (by omega), hk.blk h.B4 (by omega), by
    obtain ⟨s0, s1, s2, s3, s4, s5, hs, hB⟩ := h.B5
    exact ⟨s0, s1, s2, s3, s4, s5, hs, hk.blk hB (by omega)⟩, hk.blk h.B6 (by omega)⟩
theorem TuS.put {w W : World} {tp n b off c : Nat} (h : TuS w W tp n b off c) (hl : tp < w.heap.size) (i : Nat) (s : ByteArray) (hi : i < 6) (hs : s.size ≤ maxLen) : TuS w (W.setCell ⟨(w.heap.size + 1 + 1), i, none⟩ (.string s)) tp n b off c := by
  obtain ⟨s0, s1, s2, s3, s4, s5, ⟨h0, h1, h2, h3, h4, h5⟩, hB⟩ := h.B5
  refine ⟨h.X.set (fun e => absurd e.1 (show ¬ (w.heap.size + 1 + 1 < w.heap.size) by omega)) _, h.T.kept (K := fun b => b ≠ w.heap.size + 1 + 1) ((Kept.refl _ W).set (fun e => e rfl) _) (fun b hb => by omega), h.B3.other (show w.heap.size ≠ w.heap.size + 1 + 1 by omega) _, h.B4.other (show w.heap.size + 1 ≠ w.heap.size + 1 + 1 by omega) _, ?_, h.B6.other (show w.heap.size + 1 + 1 + 1 ≠ w.heap.size + 1 + 1 by omega) _⟩
  match i, hi with
  | 0, _ => exact ⟨s, s1, s2, s3, s4, s5, ⟨hs, h1, h2, h3, h4, h5⟩, hB.set_to 0 _ rfl⟩
  | 1, _ => exact ⟨s0, s, s2, s3, s4, s5, ⟨h0, hs, h2, h3, h4, h5⟩, hB.set_to 1 _ rfl⟩
  | 2, _ => exact ⟨s0, s1, s, s3, s4, s5, ⟨h0, h1, hs, h3, h4, h5⟩, hB.set_to 2 _ rfl⟩
  | 3, _ => exact ⟨s0, s1, s2, s, s4, s5, ⟨h0, h1, h2, hs, h4, h5⟩, hB.set_to 3 _ rfl⟩
  | 4, _ => exact ⟨s0, s1, s2, s3, s, s5, ⟨h0, h1, h2, h3, hs, h5⟩, hB.set_to 4 _ rfl⟩
  | 5, _ => exact ⟨s0, s1, s2, s3, s4, s, ⟨h0, h1, h2, h3, h4, hs⟩, hB.set_to 5 _ rfl⟩
/-- A type in a cell of its own. -/
structure TyB (w W : World) (tp b7 b2 off2 m c2 : Nat) : Prop where
  lo : w.heap.size + 1 + 1 + 1 < b7
  B : ∃ nm : ByteArray, nm.size ≤ maxLen ∧ Blk W b7 #[.string nm, .slice (some ⟨b2, off2, none⟩) m c2] 49
  mm : 1 ≤ m ∧ m ≤ 1000
  R : RelRow (fun b => b < w.heap.size ∧ b ≠ tp) w m b2 off2
theorem TyB.up {w W W' : World} {tp b7 b2 off2 m c2 : Nat} (h : TyB w W tp b7 b2 off2 m c2) (hk : Kept (fun b => b < W.heap.size ∧ b ≠ tp ∧ b ≠ (w.heap.size + 1 + 1)) W W') (hl : tp < w.heap.size) : TyB w W' tp b7 b2 off2 m c2 := by
  obtain ⟨nm, hn, hB⟩ := h.B
  exact ⟨h.lo, ⟨nm, hn, Kept.blk hk hB ⟨hB.lt, by have := h.lo; omega, by have := h.lo; omega⟩⟩, h.mm, h.R⟩
theorem Blk.set6 {w : World} {B : Nat} {e : TypeId} {cs : Array Value} (h : Blk w B cs e) (hz : cs.size = 6) (x0 x1 x2 x3 x4 x5 : Value) : Blk ((((((w.setCell ⟨B, 0, none⟩ x0).setCell ⟨B, 1, none⟩ x1).setCell ⟨B, 2, none⟩ x2).setCell ⟨B, 3, none⟩ x3).setCell ⟨B, 4, none⟩ x4).setCell ⟨B, 5, none⟩ x5) B #[x0, x1, x2, x3, x4, x5] e := by
  obtain ⟨a0, a1, a2, a3, a4, a5, rfl⟩ : ∃ a0 a1 a2 a3 a4 a5, cs = #[a0, a1, a2, a3, a4, a5] := by
    obtain ⟨l⟩ := cs
    match l, hz with
    | [a0, a1, a2, a3, a4, a5], _ => exact ⟨a0, a1, a2, a3, a4, a5, rfl⟩
  exact (((((h.set_to (cs' := #[x0, a1, a2, a3, a4, a5]) 0 x0 rfl).set_to (cs' := #[x0, x1, a2, a3, a4, a5]) 1 x1 rfl).set_to (cs' := #[x0, x1, x2, a3, a4, a5]) 2 x2 rfl).set_to (cs' := #[x0, x1, x2, x3, a4, a5]) 3 x3 rfl).set_to (cs' := #[x0, x1, x2, x3, x4, a5]) 4 x4 rfl).set_to (cs' := #[x0, x1, x2, x3, x4, x5]) 5 x5 rfl

set_option maxRecDepth 100000 in
set_option maxHeartbeats 4000000 in
theorem mkTuple_row (n b off c tp : Nat) (w : World) (htp : Tp w tp) (hrow : TyRow (fun b => b < w.heap.size ∧ b ≠ tp) w n b off) (hn : 1 ≤ n ∧ n ≤ 1000) :
    Calls Try.prog 40 #[.pointer (some ⟨tp, 0, none⟩), .agg #[.slice (some ⟨b, off, none⟩) n c]] w fun e w' => ∃ t : Tup, e = .returned (tV t) ∧ t.Ok ∧ Tp w' tp ∧ KT tp w w' := by
  have HRW := Lib.hid hrow
  have HN := Lib.hid hn
  have HLT := Lib.hid htp.lt
  have hl0 : ((n : Int) == 0) = false := by rw [beq_eq_false_iff_ne]; omega
  obtain ⟨we, hwe⟩ : ∃ x, x = (((w.alloc (.cells #[.slice (some ⟨b, off, none⟩) n c] 24)).alloc (.cells #[.string ⟨#[]⟩, .string ⟨#[]⟩, .string ⟨#[]⟩, .string ⟨#[]⟩, .string ⟨#[]⟩, .string ⟨#[]⟩] 35)).alloc (.cells #[.string ⟨#[100, 111, 99]⟩, .string ⟨#[49]⟩, .string ⟨#[118, 105, 101, 119, 101, 114]⟩, .string ⟨#[117, 115, 101, 114]⟩, .string ⟨#[49]⟩, .string ⟨#[]⟩] 35)).alloc (.cells #[.string ⟨#[49]⟩, .string ⟨#[50]⟩, .string ⟨#[51]⟩] 9) := ⟨_, rfl⟩
  have HE := Lib.hid (show TuS w we tp n b off c from by
    obtain ⟨wa, hwa⟩ : ∃ x, x = w.alloc (.cells #[.slice (some ⟨b, off, none⟩) n c] 24) := ⟨_, rfl⟩
    obtain ⟨wb, hwb⟩ : ∃ x, x = wa.alloc (.cells #[.string ⟨#[]⟩, .string ⟨#[]⟩, .string ⟨#[]⟩, .string ⟨#[]⟩, .string ⟨#[]⟩, .string ⟨#[]⟩] 35) := ⟨_, rfl⟩
    obtain ⟨wc, hwc⟩ : ∃ x, x = wb.alloc (.cells #[.string ⟨#[100, 111, 99]⟩, .string ⟨#[49]⟩, .string ⟨#[118, 105, 101, 119, 101, 114]⟩, .string ⟨#[117, 115, 101, 114]⟩, .string ⟨#[49]⟩, .string ⟨#[]⟩] 35) := ⟨_, rfl⟩
    rw [← hwa, ← hwb, ← hwc] at hwe
    have ea : wa.heap.size = w.heap.size + 1 := by rw [hwa]; simp
    have eb : wb.heap.size = w.heap.size + 1 + 1 := by rw [hwb]; simp [ea]
    have ec : wc.heap.size = w.heap.size + 1 + 1 + 1 := by rw [hwc]; simp [eb]
    have xa : Ext w wa := by rw [hwa]; exact Ext.alloc _ _
    have xb : Ext wa wb := by rw [hwb]; exact Ext.alloc _ _
    have xc : Ext wb wc := by rw [hwc]; exact Ext.alloc _ _
    have xe : Ext wc we := by rw [hwe]; exact Ext.alloc _ _
    exact ⟨KT.of (xa.trans (xb.trans (xc.trans xe))), htp.ext (xa.trans (xb.trans (xc.trans xe))), Blk.below (by rw [hwa]; exact Blk.made _ _ _) (xb.trans (xc.trans xe)), Blk.below (by rw [hwb, ← ea]; exact Blk.made _ _ _) (xc.trans xe), ⟨⟨#[100, 111, 99]⟩, ⟨#[49]⟩, ⟨#[118, 105, 101, 119, 101, 114]⟩, ⟨#[117, 115, 101, 114]⟩, ⟨#[49]⟩, ⟨#[]⟩, by decide, Blk.below (by rw [hwc, ← eb]; exact Blk.made _ _ _) xe⟩, by rw [hwe, ← ec]; exact Blk.made _ _ _⟩)
  clear hrow hn htp
  have hz0 : (0 : Int) ≤ (n : Int) := by omega
  go_enter Try.func40, Try.ntmps40
  go_wp2_with fail
  rw [← hwe]
  clear hwe hl0
  obtain ⟨wd, hwd⟩ : ∃ x, x = we.drew := ⟨_, rfl⟩
  obtain ⟨N, hN⟩ : ∃ N, N = wd.heap.size := ⟨_, rfl⟩
  have HD := Lib.hid (show TuS w wd tp n b off c from by rw [hwd]; exact ⟨HE.out.X.drew, HE.out.T.ext (Ext.drew _), HE.out.B3, HE.out.B4, HE.out.B5, HE.out.B6⟩)
  have HZD := Lib.hid (show w.heap.size + 1 + 1 + 1 < N from by rw [hN]; exact HD.out.B6.lt)
  have HND := Lib.hid hN
  refine region_walkN (Kept (fun b => b < N ∧ b ≠ tp) wd) (by rw [← hwd]; exact Kept.refl _ _) (by kernel_rfl) (by kernel_rfl) (fun _ _ d _ _ h => by cases d <;> exact h) ?_
  rw [← hwd]
  clear hwd HE hN
  have h3 : ∀ W, Kept (fun b => b < N ∧ b ≠ tp) wd W → ∀ i, W.cell? ⟨w.heap.size, i, none⟩ = (#[.slice (some ⟨b, off, none⟩) n c] : Array Value)[i]? := fun W h => (Kept.blk h HD.out.B3 ⟨by have := HZD.out; omega, by have := HLT.out; omega⟩).cells
  ((refine WalkN.take 0 _ ?_ (by simp only [List.getElem?_toArray, List.getElem?_cons_zero]; rfl) (by kernel_rfl) (by kernel_rfl) (by rfl) (fun W hW => ?_) ?_; rotate_left; · (go_simp; try with_reducible rfl)); simp only [Act.put, List.setIfInBounds_toArray, List.set_cons_zero, List.set_cons_succ]); ((refine WalkN.take 1 _ ?_ (by simp only [List.getElem?_toArray, List.getElem?_cons_succ, List.getElem?_cons_zero]; rfl) (by kernel_rfl) (by kernel_rfl) (by rfl) (fun W hW => ?_) ?_; rotate_left; · (go_simp; try with_reducible rfl)); simp only [Act.put, List.setIfInBounds_toArray, List.set_cons_zero, List.set_cons_succ]); ((refine WalkN.take 2 _ ?_ (by simp only [List.getElem?_toArray, List.getElem?_cons_succ, List.getElem?_cons_zero]; rfl) (by kernel_rfl) (by kernel_rfl) (by rfl) (fun W hW => ?_) ?_; rotate_left; · (go_simp; try with_reducible rfl)); simp only [Act.put, List.setIfInBounds_toArray, List.set_cons_zero, List.set_cons_succ]); ((refine WalkN.take 3 _ ?_ (by simp only [List.getElem?_toArray, List.getElem?_cons_succ, List.getElem?_cons_zero]; rfl) (by kernel_rfl) (by kernel_rfl) (by rfl) (fun W hW => ?_) ?_; rotate_left; · (go_simp; try with_reducible rfl)); simp only [Act.put, List.setIfInBounds_toArray, List.set_cons_zero, List.set_cons_succ]); ((refine WalkN.take 4 _ ?_ (by simp only [List.getElem?_toArray, List.getElem?_cons_succ, List.getElem?_cons_zero]; rfl) (by kernel_rfl) (by kernel_rfl) (by rfl) (fun W hW => ?_) ?_; rotate_left; · (go_simp; try with_reducible rfl)); simp only [Act.put, List.setIfInBounds_toArray, List.set_cons_zero, List.set_cons_succ]); ((refine WalkN.take 5 _ ?_ (by simp only [List.getElem?_toArray, List.getElem?_cons_succ, List.getElem?_cons_zero]; rfl) (by kernel_rfl) (by kernel_rfl) (by rfl) (fun W hW => ?_) ?_; rotate_left; · (go_simp; try with_reducible rfl)); simp only [Act.put, List.setIfInBounds_toArray, List.set_cons_zero, List.set_cons_succ])
  clear h3
  refine WalkN.two 6 9 (by kernel_rfl) ?_ ?_
  focus
    refine ⟨_, (by simp only [List.getElem?_toArray, List.getElem?_cons_succ, List.getElem?_cons_zero]; rfl), by rfl, fun K hK => ?_⟩
    go_simp
    refine (next_any tp n wd HD.out.T (by have := HN.out; omega) (by have := HN.out; omega)).mono ?_
    rintro e w2 ⟨k, rfl, hk, ht2, hk20⟩
    have hk2 : Kept (fun b => b < N ∧ b ≠ tp) wd w2 := by rw [HND.out]; exact hk20
    have hz2 : N ≤ w2.heap.size := by rw [HND.out]; exact hk20.size
    refine hK.out _ _ hk2 ?_
    clear hK hk20
    have hkl : k < n := by omega
    have hk0 : (0 : Int) ≤ (k : Int) := by omega
    obtain ⟨nm, b2, off2, m, c2, e0, e1, hnz, hm1, hm2, hR⟩ := HRW.out.2 k hkl
    have g0 : ∀ W, Kept (fun b => b < N ∧ b ≠ tp) wd W → W.cell? ⟨b, off + k * 2, none⟩ = some (.string nm) := fun W h => (KT.trans HD.out.X (by rw [HND.out] at h; exact h)).cell HRW.out.1 e0
    have g1 : ∀ W, Kept (fun b => b < N ∧ b ≠ tp) wd W → W.cell? ⟨b, off + k * 2 + 1, none⟩ = some (.slice (some ⟨b2, off2, none⟩) m c2) := fun W h => (KT.trans HD.out.X (by rw [HND.out] at h; exact h)).cell HRW.out.1 e1
    have HNZ := Lib.hid hnz
    have HM := Lib.hid (show 1 ≤ m ∧ m ≤ 1000 from ⟨hm1, hm2⟩)
    have HR2 := Lib.hid hR
    clear e0 e1 hnz hm1 hm2 hR

    ((refine WalkN.take 7 _ ?_ (by simp only [List.getElem?_toArray, List.getElem?_cons_succ, List.getElem?_cons_zero]; rfl) (by kernel_rfl) (by kernel_rfl) (by rfl) (fun W hW => ?_) ?_; rotate_left; · (go_simp; try with_reducible rfl)); simp only [Act.put, List.setIfInBounds_toArray, List.set_cons_zero, List.set_cons_succ]); ((refine WalkN.take 8 _ ?_ (by simp only [List.getElem?_toArray, List.getElem?_cons_succ, List.getElem?_cons_zero]; rfl) (by kernel_rfl) (by kernel_rfl) (by rfl) (fun W hW => ?_) ?_; rotate_left; · (go_simp; try with_reducible rfl)); simp only [Act.put, List.setIfInBounds_toArray, List.set_cons_zero, List.set_cons_succ])
    clear g0 g1
    refine WalkN.one 9 (by kernel_rfl) ?_
    refine ⟨_, (by simp only [List.getElem?_toArray, List.getElem?_cons_succ, List.getElem?_cons_zero]; rfl), by rfl, fun K hK => ?_⟩
    go_simp
    have hk3 := Kept.alloc hk2 (fun b hb => Nat.lt_of_lt_of_le hb.1 hz2) (.cells #[.string ⟨#[]⟩, .slice none 0 0] 49)
    refine hK.out _ _ hk3 ?_
    clear hK
    have hB7 := Blk.made w2 #[.string ⟨#[]⟩, .slice none 0 0] 49
    have ht3 := ht2.ext (Ext.alloc w2 (.cells #[.string ⟨#[]⟩, .slice none 0 0] 49))
    generalize w2.alloc (.cells #[.string ⟨#[]⟩, .slice none 0 0] 49) = w3 at *
    generalize w2.heap.size = b7 at *
    clear ht2 hk2
  rotate_left
  focus
    refine ⟨_, (by simp only [List.getElem?_toArray, List.getElem?_cons_succ, List.getElem?_cons_zero]; rfl), by rfl, fun K hK => ?_⟩
    go_simp
    have hk1 : Kept (fun b => b < N ∧ b ≠ tp) wd (wd.alloc (.cells #[.string ⟨#[]⟩, .slice none 0 0] 49)) := Kept.alloc (Kept.refl _ wd) (fun b hb => by rw [← HND.out]; exact hb.1) _
    refine hK.out _ _ hk1 ?_
    clear hK
    have hB6 := Blk.made wd #[.string ⟨#[]⟩, .slice none 0 0] 49
    have ht1 := HD.out.T.ext (Ext.alloc wd (.cells #[.string ⟨#[]⟩, .slice none 0 0] 49))
    have hz1 : N ≤ (wd.alloc (.cells #[.string ⟨#[]⟩, .slice none 0 0] 49)).heap.size := by rw [HND.out]; exact (Ext.alloc wd _).size
    have hz2 : N ≤ wd.heap.size := Nat.le_of_eq HND.out
    generalize wd.alloc (.cells #[.string ⟨#[]⟩, .slice none 0 0] 49) = w1 at *
    refine WalkN.one 6 (by kernel_rfl) ?_
    refine ⟨_, (by simp only [List.getElem?_toArray, List.getElem?_cons_succ, List.getElem?_cons_zero]; rfl), by rfl, fun K hK => ?_⟩
    go_simp
    refine (next_any tp n w1 ht1 (by have := HN.out; omega) (by have := HN.out; omega)).mono ?_
    rintro e w3 ⟨k, rfl, hk, ht3, hk2⟩
    have hk3 := Kept.trans hk1 (hk2.mono fun b (hb : b < N ∧ b ≠ tp) => ⟨Nat.lt_of_lt_of_le hb.1 hz1, hb.2⟩)
    refine hK.out _ _ hk3 ?_
    clear hK
    have hB7 := hk2.blk hB6 (by have := HLT.out; have := HZD.out; omega)
    have hkl : k < n := by omega
    have hk0 : (0 : Int) ≤ (k : Int) := by omega
    obtain ⟨nm, b2, off2, m, c2, e0, e1, hnz, hm1, hm2, hR⟩ := HRW.out.2 k hkl
    have g0 : ∀ W, Kept (fun b => b < N ∧ b ≠ tp) wd W → W.cell? ⟨b, off + k * 2, none⟩ = some (.string nm) := fun W h => (KT.trans HD.out.X (by rw [HND.out] at h; exact h)).cell HRW.out.1 e0
    have g1 : ∀ W, Kept (fun b => b < N ∧ b ≠ tp) wd W → W.cell? ⟨b, off + k * 2 + 1, none⟩ = some (.slice (some ⟨b2, off2, none⟩) m c2) := fun W h => (KT.trans HD.out.X (by rw [HND.out] at h; exact h)).cell HRW.out.1 e1
    have HNZ := Lib.hid hnz
    have HM := Lib.hid (show 1 ≤ m ∧ m ≤ 1000 from ⟨hm1, hm2⟩)
    have HR2 := Lib.hid hR
    clear e0 e1 hnz hm1 hm2 hR

    ((refine WalkN.take 7 _ ?_ (by simp only [List.getElem?_toArray, List.getElem?_cons_succ, List.getElem?_cons_zero]; rfl) (by kernel_rfl) (by kernel_rfl) (by rfl) (fun W hW => ?_) ?_; rotate_left; · (go_simp; try with_reducible rfl)); simp only [Act.put, List.setIfInBounds_toArray, List.set_cons_zero, List.set_cons_succ]); ((refine WalkN.take 8 _ ?_ (by simp only [List.getElem?_toArray, List.getElem?_cons_succ, List.getElem?_cons_zero]; rfl) (by kernel_rfl) (by kernel_rfl) (by rfl) (fun W hW => ?_) ?_; rotate_left; · (go_simp; try with_reducible rfl)); simp only [Act.put, List.setIfInBounds_toArray, List.set_cons_zero, List.set_cons_succ])
    clear g0 g1 hB6 ht1 hk2 hk1 hz1
    generalize wd.heap.size = b7 at hB7 hz2 ⊢
  all_goals
    have c7 := hB7.cells
    have f7 := hB7.free
    refine WalkN.one 10 (by kernel_rfl) ?_
    refine ⟨_, (by simp only [List.getElem?_toArray, List.getElem?_cons_succ, List.getElem?_cons_zero]; rfl), by rfl, fun K hK => ?_⟩
    go_simp
    have hB8 := hB7.set2 (.string nm) (.slice (some ⟨b2, off2, none⟩) m c2)
    have hk4 : Kept (fun b => b < N ∧ b ≠ tp) wd _ := (hk3.set (a := ⟨b7, 0, none⟩) (fun e => absurd e.1 (by show ¬ b7 < N; omega)) (.string nm)).set (a := ⟨b7, 1, none⟩) (fun e => absurd e.1 (by show ¬ b7 < N; omega)) (.slice (some ⟨b2, off2, none⟩) m c2)
    have ht4 := ht3.kept (K := fun b => b ≠ b7) (((Kept.refl _ w3).set (a := ⟨b7, 0, none⟩) (fun e => e rfl) (.string nm)).set (a := ⟨b7, 1, none⟩) (fun e => e rfl) (.slice (some ⟨b2, off2, none⟩) m c2)) (fun b hb => by have := HLT.out; have := HZD.out; omega)
    refine hK.out _ _ hk4 ?_
    clear hK
    have HB7 := Lib.hid (show TyB w _ tp b7 b2 off2 m c2 from ⟨by have := HZD.out; omega, ⟨nm, HNZ.out, hB8⟩, HM.out, HR2.out⟩)
    have HE := Lib.hid (HD.out.up (by rw [HND.out] at hk4; exact hk4) ht4 HLT.out)
    generalize (w3.setCell ⟨b7, 0, none⟩ (.string nm)).setCell ⟨b7, 1, none⟩ (.slice (some ⟨b2, off2, none⟩) m c2) = w4 at *
    refine WalkN.done (by kernel_rfl) ?_
    have HK4 := Lib.hid hk4
    clear hB8 hB7 hk4 ht4 hk3 ht3 c7 f7 HNZ HM HR2 hkl hk0 hk
    clear HD HZD HND HK4 hz2
    go_wp2_with fail
    obtain ⟨wd, hwd⟩ : ∃ x, x = w4.drew := ⟨_, rfl⟩
    obtain ⟨N, hN⟩ : ∃ N, N = wd.heap.size := ⟨_, rfl⟩
    have HD := Lib.hid (show TuS w wd tp n b off c from by rw [hwd]; exact ⟨HE.out.X.drew, HE.out.T.ext (Ext.drew _), HE.out.B3, HE.out.B4, HE.out.B5, HE.out.B6⟩)
    have HZD := Lib.hid (show w.heap.size + 1 + 1 + 1 < N from by rw [hN]; exact HD.out.B6.lt)
    have HND := Lib.hid hN
    refine region_walkN (Kept (fun b => b < N ∧ b ≠ tp ∧ b ≠ w.heap.size + 1 + 1) wd) (by rw [← hwd]; exact Kept.refl _ _) (by kernel_rfl) (by kernel_rfl) (fun _ _ d _ _ h => by cases d <;> exact h) ?_
    rw [← hwd]
    have HB := Lib.hid (show TyB w wd tp b7 b2 off2 m c2 from by rw [hwd]; exact ⟨HB7.out.lo, HB7.out.B, HB7.out.mm, HB7.out.R⟩)
    clear hwd HE hN HB7
    obtain ⟨nm, hnz, hB7⟩ := HB.out.B
    have HNZ := Lib.hid hnz
    have h7 : ∀ W, Kept (fun b => b < N ∧ b ≠ tp ∧ b ≠ w.heap.size + 1 + 1) wd W → ∀ i, W.cell? ⟨b7, i, none⟩ = (#[.string nm, .slice (some ⟨b2, off2, none⟩) m c2] : Array Value)[i]? := fun W h => (Kept.blk h hB7 ⟨by rw [HND.out]; exact hB7.lt, by have := HB.out.lo; have := HLT.out; omega⟩).cells
    clear hnz hB7
    ((refine WalkN.take 0 _ ?_ (by simp only [List.getElem?_toArray, List.getElem?_cons_zero]; rfl) (by kernel_rfl) (by kernel_rfl) (by rfl) (fun W hW => ?_) ?_; rotate_left; · (go_simp; try with_reducible rfl)); simp only [Act.put, List.setIfInBounds_toArray, List.set_cons_zero, List.set_cons_succ]); ((refine WalkN.take 1 _ ?_ (by simp only [List.getElem?_toArray, List.getElem?_cons_succ, List.getElem?_cons_zero]; rfl) (by kernel_rfl) (by kernel_rfl) (by rfl) (fun W hW => ?_) ?_; rotate_left; · (go_simp; try with_reducible rfl)); simp only [Act.put, List.setIfInBounds_toArray, List.set_cons_zero, List.set_cons_succ]); ((refine WalkN.take 2 _ ?_ (by simp only [List.getElem?_toArray, List.getElem?_cons_succ, List.getElem?_cons_zero]; rfl) (by kernel_rfl) (by kernel_rfl) (by rfl) (fun W hW => ?_) ?_; rotate_left; · (go_simp; try with_reducible rfl)); simp only [Act.put, List.setIfInBounds_toArray, List.set_cons_zero, List.set_cons_succ]); ((refine WalkN.take 3 _ ?_ (by simp only [List.getElem?_toArray, List.getElem?_cons_succ, List.getElem?_cons_zero]; rfl) (by kernel_rfl) (by kernel_rfl) (by rfl) (fun W hW => ?_) ?_; rotate_left; · (go_simp; try with_reducible rfl)); simp only [Act.put, List.setIfInBounds_toArray, List.set_cons_zero, List.set_cons_succ])
    clear h7
    refine WalkN.one 4 (by kernel_rfl) ?_
    refine ⟨_, (by simp only [List.getElem?_toArray, List.getElem?_cons_succ, List.getElem?_cons_zero]; rfl), by rfl, fun K hK => ?_⟩
    go_simp
    refine (next_any tp 3 wd HD.out.T (by decide) (by decide)).mono ?_
    rintro e w5 ⟨k, rfl, hk, ht5, hk50⟩
    have hk5 : Kept (fun b => b < N ∧ b ≠ tp ∧ b ≠ w.heap.size + 1 + 1) wd w5 := hk50.mono fun b hb => ⟨by rw [← HND.out]; exact hb.1, hb.2.1⟩
    refine hK.out _ _ hk5 ?_
    clear hK
    have hk0 : (0 : Int) ≤ (k : Int) := by omega
    obtain ⟨sid, hsz, h6⟩ : ∃ sid : ByteArray, sid.size ≤ maxLen ∧ ∀ W, Kept (fun b => b < N ∧ b ≠ tp ∧ b ≠ w.heap.size + 1 + 1) wd W → W.cell? ⟨w.heap.size + 1 + 1 + 1, k, none⟩ = some (.string sid) := by
      have h6 : ∀ W, Kept (fun b => b < N ∧ b ≠ tp ∧ b ≠ w.heap.size + 1 + 1) wd W → ∀ i, W.cell? ⟨w.heap.size + 1 + 1 + 1, i, none⟩ = (#[.string ⟨#[49]⟩, .string ⟨#[50]⟩, .string ⟨#[51]⟩] : Array Value)[i]? := fun W h => (Kept.blk h HD.out.B6 ⟨HZD.out, by have := HLT.out; omega⟩).cells
      obtain rfl | rfl | rfl : k = 0 ∨ k = 1 ∨ k = 2 := by omega
      · exact ⟨⟨#[49]⟩, by decide, fun W h => h6 W h 0⟩
      · exact ⟨⟨#[50]⟩, by decide, fun W h => h6 W h 1⟩
      · exact ⟨⟨#[51]⟩, by decide, fun W h => h6 W h 2⟩
    have HSZ := Lib.hid hsz
    have HE5 := Lib.hid (HD.out.up hk50 ht5 HLT.out)
    clear hsz hk50 ht5
    ((refine WalkN.take 5 _ ?_ (by simp only [List.getElem?_toArray, List.getElem?_cons_succ, List.getElem?_cons_zero]; rfl) (by kernel_rfl) (by kernel_rfl) (by rfl) (fun W hW => ?_) ?_; rotate_left; · (go_simp; try with_reducible rfl)); simp only [Act.put, List.setIfInBounds_toArray, List.set_cons_zero, List.set_cons_succ]); ((refine WalkN.take 6 _ ?_ (by simp only [List.getElem?_toArray, List.getElem?_cons_succ, List.getElem?_cons_zero]; rfl) (by kernel_rfl) (by kernel_rfl) (by rfl) (fun W hW => ?_) ?_; rotate_left; · (go_simp; try with_reducible rfl)); simp only [Act.put, List.setIfInBounds_toArray, List.set_cons_zero, List.set_cons_succ]); ((refine WalkN.take 7 _ ?_ (by simp only [List.getElem?_toArray, List.getElem?_cons_succ, List.getElem?_cons_zero]; rfl) (by kernel_rfl) (by kernel_rfl) (by rfl) (fun W hW => ?_) ?_; rotate_left; · (go_simp; try with_reducible rfl)); simp only [Act.put, List.setIfInBounds_toArray, List.set_cons_zero, List.set_cons_succ]); ((refine WalkN.take 8 _ ?_ (by simp only [List.getElem?_toArray, List.getElem?_cons_succ, List.getElem?_cons_zero]; rfl) (by kernel_rfl) (by kernel_rfl) (by rfl) (fun W hW => ?_) ?_; rotate_left; · (go_simp; try with_reducible rfl)); simp only [Act.put, List.setIfInBounds_toArray, List.set_cons_zero, List.set_cons_succ])
    clear h6
    obtain ⟨s0, s1, s2, s3, s4, s5, hss, hB5⟩ := HE5.out.B5
    have c5 := hB5.cells
    have f5 := hB5.free
    clear hss hB5
    refine WalkN.one 9 (by kernel_rfl) ?_
    refine ⟨_, (by simp only [List.getElem?_toArray, List.getElem?_cons_succ, List.getElem?_cons_zero]; rfl), by rfl, fun K hK => ?_⟩
    go_simp
    clear c5 f5
    have hk6 := (hk5.set (a := ⟨w.heap.size + 1 + 1, 0, none⟩) (fun e => e.2.2 rfl) (.string nm)).set (a := ⟨w.heap.size + 1 + 1, 1, none⟩) (fun e => e.2.2 rfl) (.string sid)
    refine hK.out _ _ hk6 ?_
    clear hK
    have HE := Lib.hid ((HE5.out.put HLT.out 0 nm (by decide) HNZ.out).put HLT.out 1 sid (by decide) HSZ.out)
    have HB7 := Lib.hid (HB.out.up (by rw [HND.out] at hk6; exact hk6) HLT.out)
    clear hk6 hk5 HE5 HB HNZ HSZ
    generalize (w5.setCell ⟨w.heap.size + 1 + 1, 0, none⟩ (.string nm)).setCell ⟨w.heap.size + 1 + 1, 1, none⟩ (.string sid) = w6 at *
    refine WalkN.done (by kernel_rfl) ?_
    clear HD HZD HND hk0 hk
    obtain ⟨nm, -, hB7⟩ := HB7.out.B
    have c7 := hB7.cells
    have hm0 : (0 : Int) < (m : Int) := by have := HB7.out.mm; omega
    clear hB7
    go_wp2_with fail
    clear c7 hm0
    obtain ⟨wd, hwd⟩ : ∃ x, x = w6.drew := ⟨_, rfl⟩
    obtain ⟨N, hN⟩ : ∃ N, N = wd.heap.size := ⟨_, rfl⟩
    have HD := Lib.hid (show TuS w wd tp n b off c from by rw [hwd]; exact ⟨HE.out.X.drew, HE.out.T.ext (Ext.drew _), HE.out.B3, HE.out.B4, HE.out.B5, HE.out.B6⟩)
    have HZD := Lib.hid (show w.heap.size + 1 + 1 + 1 < N from by rw [hN]; exact HD.out.B6.lt)
    have HND := Lib.hid hN
    refine region_walkN (Kept (fun b => b < N ∧ b ≠ tp ∧ b ≠ w.heap.size + 1 + 1) wd) (by rw [← hwd]; exact Kept.refl _ _) (by kernel_rfl) (by kernel_rfl) (fun _ _ d _ _ h => by cases d <;> exact h) ?_
    rw [← hwd]
    have HB := Lib.hid (show TyB w wd tp b7 b2 off2 m c2 from by rw [hwd]; exact ⟨HB7.out.lo, HB7.out.B, HB7.out.mm, HB7.out.R⟩)
    clear hwd HE hN HB7
    obtain ⟨nm, -, hB7⟩ := HB.out.B
    have h7 : ∀ W, Kept (fun b => b < N ∧ b ≠ tp ∧ b ≠ w.heap.size + 1 + 1) wd W → ∀ i, W.cell? ⟨b7, i, none⟩ = (#[.string nm, .slice (some ⟨b2, off2, none⟩) m c2] : Array Value)[i]? := fun W h => (Kept.blk h hB7 ⟨by rw [HND.out]; exact hB7.lt, by have := HB.out.lo; have := HLT.out; omega⟩).cells
    clear hB7
    ((refine WalkN.take 0 _ ?_ (by simp only [List.getElem?_toArray, List.getElem?_cons_zero]; rfl) (by kernel_rfl) (by kernel_rfl) (by rfl) (fun W hW => ?_) ?_; rotate_left; · (go_simp; try with_reducible rfl)); simp only [Act.put, List.setIfInBounds_toArray, List.set_cons_zero, List.set_cons_succ]); ((refine WalkN.take 1 _ ?_ (by simp only [List.getElem?_toArray, List.getElem?_cons_succ, List.getElem?_cons_zero]; rfl) (by kernel_rfl) (by kernel_rfl) (by rfl) (fun W hW => ?_) ?_; rotate_left; · (go_simp; try with_reducible rfl)); simp only [Act.put, List.setIfInBounds_toArray, List.set_cons_zero, List.set_cons_succ]); ((refine WalkN.take 2 _ ?_ (by simp only [List.getElem?_toArray, List.getElem?_cons_succ, List.getElem?_cons_zero]; rfl) (by kernel_rfl) (by kernel_rfl) (by rfl) (fun W hW => ?_) ?_; rotate_left; · (go_simp; try with_reducible rfl)); simp only [Act.put, List.setIfInBounds_toArray, List.set_cons_zero, List.set_cons_succ]); ((refine WalkN.take 3 _ ?_ (by simp only [List.getElem?_toArray, List.getElem?_cons_succ, List.getElem?_cons_zero]; rfl) (by kernel_rfl) (by kernel_rfl) (by rfl) (fun W hW => ?_) ?_; rotate_left; · (go_simp; try with_reducible rfl)); simp only [Act.put, List.setIfInBounds_toArray, List.set_cons_zero, List.set_cons_succ]); ((refine WalkN.take 4 _ ?_ (by simp only [List.getElem?_toArray, List.getElem?_cons_succ, List.getElem?_cons_zero]; rfl) (by kernel_rfl) (by kernel_rfl) (by rfl) (fun W hW => ?_) ?_; rotate_left; · (go_simp; try with_reducible rfl)); simp only [Act.put, List.setIfInBounds_toArray, List.set_cons_zero, List.set_cons_succ]); ((refine WalkN.take 5 _ ?_ (by simp only [List.getElem?_toArray, List.getElem?_cons_succ, List.getElem?_cons_zero]; rfl) (by kernel_rfl) (by kernel_rfl) (by rfl) (fun W hW => ?_) ?_; rotate_left; · (go_simp; try with_reducible rfl)); simp only [Act.put, List.setIfInBounds_toArray, List.set_cons_zero, List.set_cons_succ])
    clear h7
    refine WalkN.one 6 (by kernel_rfl) ?_
    refine ⟨_, (by simp only [List.getElem?_toArray, List.getElem?_cons_succ, List.getElem?_cons_zero]; rfl), by rfl, fun K hK => ?_⟩
    go_simp
    refine (next_any tp m wd HD.out.T (by have := HB.out.mm; omega) (by have := HB.out.mm; omega)).mono ?_
    rintro e w5 ⟨k, rfl, hk, ht5, hk50⟩
    have hk5 : Kept (fun b => b < N ∧ b ≠ tp ∧ b ≠ w.heap.size + 1 + 1) wd w5 := hk50.mono fun b hb => ⟨by rw [← HND.out]; exact hb.1, hb.2.1⟩
    refine hK.out _ _ hk5 ?_
    clear hK
    have hk0 : (0 : Int) ≤ (k : Int) := by omega
    have hkm : k < m := by omega
    obtain ⟨rn, hrn, hrz⟩ := HB.out.R.2 k hkm
    have g0 : ∀ W, Kept (fun b => b < N ∧ b ≠ tp ∧ b ≠ w.heap.size + 1 + 1) wd W → W.cell? ⟨b2, off2 + k * 5, none⟩ = some (.string rn) := fun W h => (Kept.cell (Kept.trans HD.out.X (h.mono fun b (hb : b < w.heap.size ∧ b ≠ tp) => ⟨by have := HZD.out; omega, hb.2, by omega⟩)) HB.out.R.1 hrn)
    have HSZ := Lib.hid hrz
    have HE5 := Lib.hid (HD.out.up hk50 ht5 HLT.out)
    clear hrn hrz hk50 ht5
    ((refine WalkN.take 7 _ ?_ (by simp only [List.getElem?_toArray, List.getElem?_cons_succ, List.getElem?_cons_zero]; rfl) (by kernel_rfl) (by kernel_rfl) (by rfl) (fun W hW => ?_) ?_; rotate_left; · (go_simp; try with_reducible rfl)); simp only [Act.put, List.setIfInBounds_toArray, List.set_cons_zero, List.set_cons_succ]); ((refine WalkN.take 8 _ ?_ (by simp only [List.getElem?_toArray, List.getElem?_cons_succ, List.getElem?_cons_zero]; rfl) (by kernel_rfl) (by kernel_rfl) (by rfl) (fun W hW => ?_) ?_; rotate_left; · (go_simp; try with_reducible rfl)); simp only [Act.put, List.setIfInBounds_toArray, List.set_cons_zero, List.set_cons_succ]); ((refine WalkN.take 9 _ ?_ (by simp only [List.getElem?_toArray, List.getElem?_cons_succ, List.getElem?_cons_zero]; rfl) (by kernel_rfl) (by kernel_rfl) (by rfl) (fun W hW => ?_) ?_; rotate_left; · (go_simp; try with_reducible rfl)); simp only [Act.put, List.setIfInBounds_toArray, List.set_cons_zero, List.set_cons_succ]); ((refine WalkN.take 10 _ ?_ (by simp only [List.getElem?_toArray, List.getElem?_cons_succ, List.getElem?_cons_zero]; rfl) (by kernel_rfl) (by kernel_rfl) (by rfl) (fun W hW => ?_) ?_; rotate_left; · (go_simp; try with_reducible rfl)); simp only [Act.put, List.setIfInBounds_toArray, List.set_cons_zero, List.set_cons_succ])
    clear g0
    obtain ⟨s0, s1, s2, s3, s4, s5, hss, hB5⟩ := HE5.out.B5
    have c5 := hB5.cells
    have f5 := hB5.free
    clear hss hB5
    refine WalkN.one 11 (by kernel_rfl) ?_
    refine ⟨_, (by simp only [List.getElem?_toArray, List.getElem?_cons_succ, List.getElem?_cons_zero]; rfl), by rfl, fun K hK => ?_⟩
    go_simp
    clear c5 f5
    have hk6 := hk5.set (a := ⟨w.heap.size + 1 + 1, 2, none⟩) (fun e => e.2.2 rfl) (.string rn)
    refine hK.out _ _ hk6 ?_
    clear hK
    have HE := Lib.hid (HE5.out.put HLT.out 2 rn (by decide) HSZ.out)
    have HB7 := Lib.hid (HB.out.up (by rw [HND.out] at hk6; exact hk6) HLT.out)
    clear hk6 hk5 HE5 HB HSZ
    generalize w5.setCell ⟨w.heap.size + 1 + 1, 2, none⟩ (.string rn) = w6 at *
    refine WalkN.done (by kernel_rfl) ?_
    clear HD HZD HND hk0 hkm hk
    go_wp2_with fail
    clear HB7
    generalize w6 = we at *
    obtain ⟨wd, hwd⟩ : ∃ x, x = we.drew := ⟨_, rfl⟩
    obtain ⟨N, hN⟩ : ∃ N, N = wd.heap.size := ⟨_, rfl⟩
    have HD := Lib.hid (show TuS w wd tp n b off c from by rw [hwd]; exact ⟨HE.out.X.drew, HE.out.T.ext (Ext.drew _), HE.out.B3, HE.out.B4, HE.out.B5, HE.out.B6⟩)
    have HZD := Lib.hid (show w.heap.size + 1 + 1 + 1 < N from by rw [hN]; exact HD.out.B6.lt)
    have HND := Lib.hid hN
    refine region_walkN (Kept (fun b => b < N ∧ b ≠ tp) wd) (by rw [← hwd]; exact Kept.refl _ _) (by kernel_rfl) (by kernel_rfl) (fun _ _ d _ _ h => by cases d <;> exact h) ?_
    rw [← hwd]
    clear hwd HE hN
    have h3 : ∀ W, Kept (fun b => b < N ∧ b ≠ tp) wd W → ∀ i, W.cell? ⟨w.heap.size, i, none⟩ = (#[.slice (some ⟨b, off, none⟩) n c] : Array Value)[i]? := fun W h => (Kept.blk h HD.out.B3 ⟨by have := HZD.out; omega, by have := HLT.out; omega⟩).cells
    ((refine WalkN.take 0 _ ?_ (by simp only [List.getElem?_toArray, List.getElem?_cons_zero]; rfl) (by kernel_rfl) (by kernel_rfl) (by rfl) (fun W hW => ?_) ?_; rotate_left; · (go_simp; try with_reducible rfl)); simp only [Act.put, List.setIfInBounds_toArray, List.set_cons_zero, List.set_cons_succ]); ((refine WalkN.take 1 _ ?_ (by simp only [List.getElem?_toArray, List.getElem?_cons_succ, List.getElem?_cons_zero]; rfl) (by kernel_rfl) (by kernel_rfl) (by rfl) (fun W hW => ?_) ?_; rotate_left; · (go_simp; try with_reducible rfl)); simp only [Act.put, List.setIfInBounds_toArray, List.set_cons_zero, List.set_cons_succ]); ((refine WalkN.take 2 _ ?_ (by simp only [List.getElem?_toArray, List.getElem?_cons_succ, List.getElem?_cons_zero]; rfl) (by kernel_rfl) (by kernel_rfl) (by rfl) (fun W hW => ?_) ?_; rotate_left; · (go_simp; try with_reducible rfl)); simp only [Act.put, List.setIfInBounds_toArray, List.set_cons_zero, List.set_cons_succ]); ((refine WalkN.take 3 _ ?_ (by simp only [List.getElem?_toArray, List.getElem?_cons_succ, List.getElem?_cons_zero]; rfl) (by kernel_rfl) (by kernel_rfl) (by rfl) (fun W hW => ?_) ?_; rotate_left; · (go_simp; try with_reducible rfl)); simp only [Act.put, List.setIfInBounds_toArray, List.set_cons_zero, List.set_cons_succ]); ((refine WalkN.take 4 _ ?_ (by simp only [List.getElem?_toArray, List.getElem?_cons_succ, List.getElem?_cons_zero]; rfl) (by kernel_rfl) (by kernel_rfl) (by rfl) (fun W hW => ?_) ?_; rotate_left; · (go_simp; try with_reducible rfl)); simp only [Act.put, List.setIfInBounds_toArray, List.set_cons_zero, List.set_cons_succ]); ((refine WalkN.take 5 _ ?_ (by simp only [List.getElem?_toArray, List.getElem?_cons_succ, List.getElem?_cons_zero]; rfl) (by kernel_rfl) (by kernel_rfl) (by rfl) (fun W hW => ?_) ?_; rotate_left; · (go_simp; try with_reducible rfl)); simp only [Act.put, List.setIfInBounds_toArray, List.set_cons_zero, List.set_cons_succ])
    clear h3
    refine WalkN.two 6 9 (by kernel_rfl) ?_ ?_
    focus
      refine ⟨_, (by simp only [List.getElem?_toArray, List.getElem?_cons_succ, List.getElem?_cons_zero]; rfl), by rfl, fun K hK => ?_⟩
      go_simp
      refine (next_any tp n wd HD.out.T (by have := HN.out; omega) (by have := HN.out; omega)).mono ?_
      rintro e w2 ⟨k, rfl, hk, ht2, hk20⟩
      have hk2 : Kept (fun b => b < N ∧ b ≠ tp) wd w2 := by rw [HND.out]; exact hk20
      have hz2 : N ≤ w2.heap.size := by rw [HND.out]; exact hk20.size
      refine hK.out _ _ hk2 ?_
      clear hK hk20
      have hkl : k < n := by omega
      have hk0 : (0 : Int) ≤ (k : Int) := by omega
      obtain ⟨nm, b2, off2, m, c2, e0, e1, hnz, hm1, hm2, hR⟩ := HRW.out.2 k hkl
      have g0 : ∀ W, Kept (fun b => b < N ∧ b ≠ tp) wd W → W.cell? ⟨b, off + k * 2, none⟩ = some (.string nm) := fun W h => (KT.trans HD.out.X (by rw [HND.out] at h; exact h)).cell HRW.out.1 e0
      have g1 : ∀ W, Kept (fun b => b < N ∧ b ≠ tp) wd W → W.cell? ⟨b, off + k * 2 + 1, none⟩ = some (.slice (some ⟨b2, off2, none⟩) m c2) := fun W h => (KT.trans HD.out.X (by rw [HND.out] at h; exact h)).cell HRW.out.1 e1
      have HNZ := Lib.hid hnz
      have HM := Lib.hid (show 1 ≤ m ∧ m ≤ 1000 from ⟨hm1, hm2⟩)
      have HR2 := Lib.hid hR
      clear e0 e1 hnz hm1 hm2 hR

      ((refine WalkN.take 7 _ ?_ (by simp only [List.getElem?_toArray, List.getElem?_cons_succ, List.getElem?_cons_zero]; rfl) (by kernel_rfl) (by kernel_rfl) (by rfl) (fun W hW => ?_) ?_; rotate_left; · (go_simp; try with_reducible rfl)); simp only [Act.put, List.setIfInBounds_toArray, List.set_cons_zero, List.set_cons_succ]); ((refine WalkN.take 8 _ ?_ (by simp only [List.getElem?_toArray, List.getElem?_cons_succ, List.getElem?_cons_zero]; rfl) (by kernel_rfl) (by kernel_rfl) (by rfl) (fun W hW => ?_) ?_; rotate_left; · (go_simp; try with_reducible rfl)); simp only [Act.put, List.setIfInBounds_toArray, List.set_cons_zero, List.set_cons_succ])
      clear g0 g1
      refine WalkN.one 9 (by kernel_rfl) ?_
      refine ⟨_, (by simp only [List.getElem?_toArray, List.getElem?_cons_succ, List.getElem?_cons_zero]; rfl), by rfl, fun K hK => ?_⟩
      go_simp
      have hk3 := Kept.alloc hk2 (fun b hb => Nat.lt_of_lt_of_le hb.1 hz2) (.cells #[.string ⟨#[]⟩, .slice none 0 0] 49)
      refine hK.out _ _ hk3 ?_
      clear hK
      have hB7 := Blk.made w2 #[.string ⟨#[]⟩, .slice none 0 0] 49
      have ht3 := ht2.ext (Ext.alloc w2 (.cells #[.string ⟨#[]⟩, .slice none 0 0] 49))
      generalize w2.alloc (.cells #[.string ⟨#[]⟩, .slice none 0 0] 49) = w3 at *
      generalize w2.heap.size = b7 at *
      clear ht2 hk2
    rotate_left
    focus
      refine ⟨_, (by simp only [List.getElem?_toArray, List.getElem?_cons_succ, List.getElem?_cons_zero]; rfl), by rfl, fun K hK => ?_⟩
      go_simp
      have hk1 : Kept (fun b => b < N ∧ b ≠ tp) wd (wd.alloc (.cells #[.string ⟨#[]⟩, .slice none 0 0] 49)) := Kept.alloc (Kept.refl _ wd) (fun b hb => by rw [← HND.out]; exact hb.1) _
      refine hK.out _ _ hk1 ?_
      clear hK
      have hB6 := Blk.made wd #[.string ⟨#[]⟩, .slice none 0 0] 49
      have ht1 := HD.out.T.ext (Ext.alloc wd (.cells #[.string ⟨#[]⟩, .slice none 0 0] 49))
      have hz1 : N ≤ (wd.alloc (.cells #[.string ⟨#[]⟩, .slice none 0 0] 49)).heap.size := by rw [HND.out]; exact (Ext.alloc wd _).size
      have hz2 : N ≤ wd.heap.size := Nat.le_of_eq HND.out
      generalize wd.alloc (.cells #[.string ⟨#[]⟩, .slice none 0 0] 49) = w1 at *
      refine WalkN.one 6 (by kernel_rfl) ?_
      refine ⟨_, (by simp only [List.getElem?_toArray, List.getElem?_cons_succ, List.getElem?_cons_zero]; rfl), by rfl, fun K hK => ?_⟩
      go_simp
      refine (next_any tp n w1 ht1 (by have := HN.out; omega) (by have := HN.out; omega)).mono ?_
      rintro e w3 ⟨k, rfl, hk, ht3, hk2⟩
      have hk3 := Kept.trans hk1 (hk2.mono fun b (hb : b < N ∧ b ≠ tp) => ⟨Nat.lt_of_lt_of_le hb.1 hz1, hb.2⟩)
      refine hK.out _ _ hk3 ?_
      clear hK
      have hB7 := hk2.blk hB6 (by have := HLT.out; have := HZD.out; omega)
      have hkl : k < n := by omega
      have hk0 : (0 : Int) ≤ (k : Int) := by omega
      obtain ⟨nm, b2, off2, m, c2, e0, e1, hnz, hm1, hm2, hR⟩ := HRW.out.2 k hkl
      have g0 : ∀ W, Kept (fun b => b < N ∧ b ≠ tp) wd W → W.cell? ⟨b, off + k * 2, none⟩ = some (.string nm) := fun W h => (KT.trans HD.out.X (by rw [HND.out] at h; exact h)).cell HRW.out.1 e0
      have g1 : ∀ W, Kept (fun b => b < N ∧ b ≠ tp) wd W → W.cell? ⟨b, off + k * 2 + 1, none⟩ = some (.slice (some ⟨b2, off2, none⟩) m c2) := fun W h => (KT.trans HD.out.X (by rw [HND.out] at h; exact h)).cell HRW.out.1 e1
      have HNZ := Lib.hid hnz
      have HM := Lib.hid (show 1 ≤ m ∧ m ≤ 1000 from ⟨hm1, hm2⟩)
      have HR2 := Lib.hid hR
      clear e0 e1 hnz hm1 hm2 hR

      ((refine WalkN.take 7 _ ?_ (by simp only [List.getElem?_toArray, List.getElem?_cons_succ, List.getElem?_cons_zero]; rfl) (by kernel_rfl) (by kernel_rfl) (by rfl) (fun W hW => ?_) ?_; rotate_left; · (go_simp; try with_reducible rfl)); simp only [Act.put, List.setIfInBounds_toArray, List.set_cons_zero, List.set_cons_succ]); ((refine WalkN.take 8 _ ?_ (by simp only [List.getElem?_toArray, List.getElem?_cons_succ, List.getElem?_cons_zero]; rfl) (by kernel_rfl) (by kernel_rfl) (by rfl) (fun W hW => ?_) ?_; rotate_left; · (go_simp; try with_reducible rfl)); simp only [Act.put, List.setIfInBounds_toArray, List.set_cons_zero, List.set_cons_succ])
      clear g0 g1 hB6 ht1 hk2 hk1 hz1
      generalize wd.heap.size = b7 at hB7 hz2 ⊢
    all_goals
      have c7 := hB7.cells
      have f7 := hB7.free
      refine WalkN.one 10 (by kernel_rfl) ?_
      refine ⟨_, (by simp only [List.getElem?_toArray, List.getElem?_cons_succ, List.getElem?_cons_zero]; rfl), by rfl, fun K hK => ?_⟩
      go_simp
      have hB8 := hB7.set2 (.string nm) (.slice (some ⟨b2, off2, none⟩) m c2)
      have hk4 : Kept (fun b => b < N ∧ b ≠ tp) wd _ := (hk3.set (a := ⟨b7, 0, none⟩) (fun e => absurd e.1 (by show ¬ b7 < N; omega)) (.string nm)).set (a := ⟨b7, 1, none⟩) (fun e => absurd e.1 (by show ¬ b7 < N; omega)) (.slice (some ⟨b2, off2, none⟩) m c2)
      have ht4 := ht3.kept (K := fun b => b ≠ b7) (((Kept.refl _ w3).set (a := ⟨b7, 0, none⟩) (fun e => e rfl) (.string nm)).set (a := ⟨b7, 1, none⟩) (fun e => e rfl) (.slice (some ⟨b2, off2, none⟩) m c2)) (fun b hb => by have := HLT.out; have := HZD.out; omega)
      refine hK.out _ _ hk4 ?_
      clear hK
      have HB7 := Lib.hid (show TyB w _ tp b7 b2 off2 m c2 from ⟨by have := HZD.out; omega, ⟨nm, HNZ.out, hB8⟩, HM.out, HR2.out⟩)
      have HE := Lib.hid (HD.out.up (by rw [HND.out] at hk4; exact hk4) ht4 HLT.out)
      generalize (w3.setCell ⟨b7, 0, none⟩ (.string nm)).setCell ⟨b7, 1, none⟩ (.slice (some ⟨b2, off2, none⟩) m c2) = w4 at *
      refine WalkN.done (by kernel_rfl) ?_
      have HK4 := Lib.hid hk4
      clear hB8 hB7 hk4 ht4 hk3 ht3 c7 f7 HNZ HM HR2 hkl hk0 hk
      clear HD HZD HND HK4 hz2
      go_wp2_with fail
      obtain ⟨wd, hwd⟩ : ∃ x, x = w4.drew := ⟨_, rfl⟩
      obtain ⟨N, hN⟩ : ∃ N, N = wd.heap.size := ⟨_, rfl⟩
      have HD := Lib.hid (show TuS w wd tp n b off c from by rw [hwd]; exact ⟨HE.out.X.drew, HE.out.T.ext (Ext.drew _), HE.out.B3, HE.out.B4, HE.out.B5, HE.out.B6⟩)
      have HZD := Lib.hid (show w.heap.size + 1 + 1 + 1 < N from by rw [hN]; exact HD.out.B6.lt)
      have HND := Lib.hid hN
      refine region_walkN (Kept (fun b => b < N ∧ b ≠ tp ∧ b ≠ w.heap.size + 1 + 1) wd) (by rw [← hwd]; exact Kept.refl _ _) (by kernel_rfl) (by kernel_rfl) (fun _ _ d _ _ h => by cases d <;> exact h) ?_
      rw [← hwd]
      have HB := Lib.hid (show TyB w wd tp b7 b2 off2 m c2 from by rw [hwd]; exact ⟨HB7.out.lo, HB7.out.B, HB7.out.mm, HB7.out.R⟩)
      clear hwd HE hN HB7
      obtain ⟨nm, hnz, hB7⟩ := HB.out.B
      have HNZ := Lib.hid hnz
      have h7 : ∀ W, Kept (fun b => b < N ∧ b ≠ tp ∧ b ≠ w.heap.size + 1 + 1) wd W → ∀ i, W.cell? ⟨b7, i, none⟩ = (#[.string nm, .slice (some ⟨b2, off2, none⟩) m c2] : Array Value)[i]? := fun W h => (Kept.blk h hB7 ⟨by rw [HND.out]; exact hB7.lt, by have := HB.out.lo; have := HLT.out; omega⟩).cells
      clear hnz hB7
      ((refine WalkN.take 0 _ ?_ (by simp only [List.getElem?_toArray, List.getElem?_cons_zero]; rfl) (by kernel_rfl) (by kernel_rfl) (by rfl) (fun W hW => ?_) ?_; rotate_left; · (go_simp; try with_reducible rfl)); simp only [Act.put, List.setIfInBounds_toArray, List.set_cons_zero, List.set_cons_succ]); ((refine WalkN.take 1 _ ?_ (by simp only [List.getElem?_toArray, List.getElem?_cons_succ, List.getElem?_cons_zero]; rfl) (by kernel_rfl) (by kernel_rfl) (by rfl) (fun W hW => ?_) ?_; rotate_left; · (go_simp; try with_reducible rfl)); simp only [Act.put, List.setIfInBounds_toArray, List.set_cons_zero, List.set_cons_succ]); ((refine WalkN.take 2 _ ?_ (by simp only [List.getElem?_toArray, List.getElem?_cons_succ, List.getElem?_cons_zero]; rfl) (by kernel_rfl) (by kernel_rfl) (by rfl) (fun W hW => ?_) ?_; rotate_left; · (go_simp; try with_reducible rfl)); simp only [Act.put, List.setIfInBounds_toArray, List.set_cons_zero, List.set_cons_succ]); ((refine WalkN.take 3 _ ?_ (by simp only [List.getElem?_toArray, List.getElem?_cons_succ, List.getElem?_cons_zero]; rfl) (by kernel_rfl) (by kernel_rfl) (by rfl) (fun W hW => ?_) ?_; rotate_left; · (go_simp; try with_reducible rfl)); simp only [Act.put, List.setIfInBounds_toArray, List.set_cons_zero, List.set_cons_succ])
      clear h7
      refine WalkN.one 4 (by kernel_rfl) ?_
      refine ⟨_, (by simp only [List.getElem?_toArray, List.getElem?_cons_succ, List.getElem?_cons_zero]; rfl), by rfl, fun K hK => ?_⟩
      go_simp
      refine (next_any tp 3 wd HD.out.T (by decide) (by decide)).mono ?_
      rintro e w5 ⟨k, rfl, hk, ht5, hk50⟩
      have hk5 : Kept (fun b => b < N ∧ b ≠ tp ∧ b ≠ w.heap.size + 1 + 1) wd w5 := hk50.mono fun b hb => ⟨by rw [← HND.out]; exact hb.1, hb.2.1⟩
      refine hK.out _ _ hk5 ?_
      clear hK
      have hk0 : (0 : Int) ≤ (k : Int) := by omega
      obtain ⟨sid, hsz, h6⟩ : ∃ sid : ByteArray, sid.size ≤ maxLen ∧ ∀ W, Kept (fun b => b < N ∧ b ≠ tp ∧ b ≠ w.heap.size + 1 + 1) wd W → W.cell? ⟨w.heap.size + 1 + 1 + 1, k, none⟩ = some (.string sid) := by
        have h6 : ∀ W, Kept (fun b => b < N ∧ b ≠ tp ∧ b ≠ w.heap.size + 1 + 1) wd W → ∀ i, W.cell? ⟨w.heap.size + 1 + 1 + 1, i, none⟩ = (#[.string ⟨#[49]⟩, .string ⟨#[50]⟩, .string ⟨#[51]⟩] : Array Value)[i]? := fun W h => (Kept.blk h HD.out.B6 ⟨HZD.out, by have := HLT.out; omega⟩).cells
        obtain rfl | rfl | rfl : k = 0 ∨ k = 1 ∨ k = 2 := by omega
        · exact ⟨⟨#[49]⟩, by decide, fun W h => h6 W h 0⟩
        · exact ⟨⟨#[50]⟩, by decide, fun W h => h6 W h 1⟩
        · exact ⟨⟨#[51]⟩, by decide, fun W h => h6 W h 2⟩
      have HSZ := Lib.hid hsz
      have HE5 := Lib.hid (HD.out.up hk50 ht5 HLT.out)
      clear hsz hk50 ht5
      ((refine WalkN.take 5 _ ?_ (by simp only [List.getElem?_toArray, List.getElem?_cons_succ, List.getElem?_cons_zero]; rfl) (by kernel_rfl) (by kernel_rfl) (by rfl) (fun W hW => ?_) ?_; rotate_left; · (go_simp; try with_reducible rfl)); simp only [Act.put, List.setIfInBounds_toArray, List.set_cons_zero, List.set_cons_succ]); ((refine WalkN.take 6 _ ?_ (by simp only [List.getElem?_toArray, List.getElem?_cons_succ, List.getElem?_cons_zero]; rfl) (by kernel_rfl) (by kernel_rfl) (by rfl) (fun W hW => ?_) ?_; rotate_left; · (go_simp; try with_reducible rfl)); simp only [Act.put, List.setIfInBounds_toArray, List.set_cons_zero, List.set_cons_succ]); ((refine WalkN.take 7 _ ?_ (by simp only [List.getElem?_toArray, List.getElem?_cons_succ, List.getElem?_cons_zero]; rfl) (by kernel_rfl) (by kernel_rfl) (by rfl) (fun W hW => ?_) ?_; rotate_left; · (go_simp; try with_reducible rfl)); simp only [Act.put, List.setIfInBounds_toArray, List.set_cons_zero, List.set_cons_succ]); ((refine WalkN.take 8 _ ?_ (by simp only [List.getElem?_toArray, List.getElem?_cons_succ, List.getElem?_cons_zero]; rfl) (by kernel_rfl) (by kernel_rfl) (by rfl) (fun W hW => ?_) ?_; rotate_left; · (go_simp; try with_reducible rfl)); simp only [Act.put, List.setIfInBounds_toArray, List.set_cons_zero, List.set_cons_succ]); ((refine WalkN.take 9 _ ?_ (by simp only [List.getElem?_toArray, List.getElem?_cons_succ, List.getElem?_cons_zero]; rfl) (by kernel_rfl) (by kernel_rfl) (by rfl) (fun W hW => ?_) ?_; rotate_left; · (go_simp; try with_reducible rfl)); simp only [Act.put, List.setIfInBounds_toArray, List.set_cons_zero, List.set_cons_succ])
      clear h6
      obtain ⟨s0, s1, s2, s3, s4, s5, hss, hB5⟩ := HE5.out.B5
      have c5 := hB5.cells
      have f5 := hB5.free
      clear hss hB5
      refine WalkN.one 10 (by kernel_rfl) ?_
      refine ⟨_, (by simp only [List.getElem?_toArray, List.getElem?_cons_succ, List.getElem?_cons_zero]; rfl), by rfl, fun K hK => ?_⟩
      go_simp
      clear c5 f5
      have hk6 := (hk5.set (a := ⟨w.heap.size + 1 + 1, 3, none⟩) (fun e => e.2.2 rfl) (.string nm)).set (a := ⟨w.heap.size + 1 + 1, 4, none⟩) (fun e => e.2.2 rfl) (.string sid)
      refine hK.out _ _ hk6 ?_
      clear hK
      have HE := Lib.hid ((HE5.out.put HLT.out 3 nm (by decide) HNZ.out).put HLT.out 4 sid (by decide) HSZ.out)
      have HB7 := Lib.hid (HB.out.up (by rw [HND.out] at hk6; exact hk6) HLT.out)
      clear hk6 hk5 HE5 HB HNZ HSZ
      generalize (w5.setCell ⟨w.heap.size + 1 + 1, 3, none⟩ (.string nm)).setCell ⟨w.heap.size + 1 + 1, 4, none⟩ (.string sid) = w6 at *
      refine WalkN.done (by kernel_rfl) ?_
      clear HD HZD HND hk0 hk
      obtain ⟨nm, -, hB7⟩ := HB7.out.B
      have c7 := hB7.cells
      have hm0 : (0 : Int) < (m : Int) := by have := HB7.out.mm; omega
      clear hB7
      have HNX := Lib.hid (next_any tp 3 w6 HE.out.T (by decide) (by decide))
      go_wp2_with fail
      refine HNX.out.mono ?_
      rintro e w7 ⟨k, rfl, hk, ht7, hk7⟩
      have HE7 := Lib.hid (HE.out.up hk7 ht7 HLT.out)
      have HB := Lib.hid (HB7.out.up (hk7.mono fun b hb => ⟨hb.1, hb.2.1⟩) HLT.out)
      clear hk7 ht7 HNX HE HB7 c7 hm0
      have HE := HE7
      have HB7 := HB
      clear HE7 HB
      by_cases hk1 : (k : Int) = 1
      · have hkq : ((k : Int) == 1) = true := beq_iff_eq.2 hk1
        have hk2 : k = 1 := by omega
        subst hk2
        clear hk hk1
        go_wp2_with fail
        clear hkq
        obtain ⟨wd, hwd⟩ : ∃ x, x = w7.drew := ⟨_, rfl⟩
        obtain ⟨N, hN⟩ : ∃ N, N = wd.heap.size := ⟨_, rfl⟩
        have HD := Lib.hid (show TuS w wd tp n b off c from by rw [hwd]; exact ⟨HE.out.X.drew, HE.out.T.ext (Ext.drew _), HE.out.B3, HE.out.B4, HE.out.B5, HE.out.B6⟩)
        have HZD := Lib.hid (show w.heap.size + 1 + 1 + 1 < N from by rw [hN]; exact HD.out.B6.lt)
        have HND := Lib.hid hN
        refine region_walkN (Kept (fun b => b < N ∧ b ≠ tp ∧ b ≠ w.heap.size + 1 + 1) wd) (by rw [← hwd]; exact Kept.refl _ _) (by kernel_rfl) (by kernel_rfl) (fun _ _ d _ _ h => by cases d <;> exact h) ?_
        rw [← hwd]
        have HB := Lib.hid (show TyB w wd tp b7 b2 off2 m c2 from by rw [hwd]; exact ⟨HB7.out.lo, HB7.out.B, HB7.out.mm, HB7.out.R⟩)
        clear hwd HE hN HB7
        obtain ⟨nm, -, hB7⟩ := HB.out.B
        have h7 : ∀ W, Kept (fun b => b < N ∧ b ≠ tp ∧ b ≠ w.heap.size + 1 + 1) wd W → ∀ i, W.cell? ⟨b7, i, none⟩ = (#[.string nm, .slice (some ⟨b2, off2, none⟩) m c2] : Array Value)[i]? := fun W h => (Kept.blk h hB7 ⟨by rw [HND.out]; exact hB7.lt, by have := HB.out.lo; have := HLT.out; omega⟩).cells
        clear hB7
        ((refine WalkN.take 0 _ ?_ (by simp only [List.getElem?_toArray, List.getElem?_cons_zero]; rfl) (by kernel_rfl) (by kernel_rfl) (by rfl) (fun W hW => ?_) ?_; rotate_left; · (go_simp; try with_reducible rfl)); simp only [Act.put, List.setIfInBounds_toArray, List.set_cons_zero, List.set_cons_succ]); ((refine WalkN.take 1 _ ?_ (by simp only [List.getElem?_toArray, List.getElem?_cons_succ, List.getElem?_cons_zero]; rfl) (by kernel_rfl) (by kernel_rfl) (by rfl) (fun W hW => ?_) ?_; rotate_left; · (go_simp; try with_reducible rfl)); simp only [Act.put, List.setIfInBounds_toArray, List.set_cons_zero, List.set_cons_succ]); ((refine WalkN.take 2 _ ?_ (by simp only [List.getElem?_toArray, List.getElem?_cons_succ, List.getElem?_cons_zero]; rfl) (by kernel_rfl) (by kernel_rfl) (by rfl) (fun W hW => ?_) ?_; rotate_left; · (go_simp; try with_reducible rfl)); simp only [Act.put, List.setIfInBounds_toArray, List.set_cons_zero, List.set_cons_succ]); ((refine WalkN.take 3 _ ?_ (by simp only [List.getElem?_toArray, List.getElem?_cons_succ, List.getElem?_cons_zero]; rfl) (by kernel_rfl) (by kernel_rfl) (by rfl) (fun W hW => ?_) ?_; rotate_left; · (go_simp; try with_reducible rfl)); simp only [Act.put, List.setIfInBounds_toArray, List.set_cons_zero, List.set_cons_succ]); ((refine WalkN.take 4 _ ?_ (by simp only [List.getElem?_toArray, List.getElem?_cons_succ, List.getElem?_cons_zero]; rfl) (by kernel_rfl) (by kernel_rfl) (by rfl) (fun W hW => ?_) ?_; rotate_left; · (go_simp; try with_reducible rfl)); simp only [Act.put, List.setIfInBounds_toArray, List.set_cons_zero, List.set_cons_succ]); ((refine WalkN.take 5 _ ?_ (by simp only [List.getElem?_toArray, List.getElem?_cons_succ, List.getElem?_cons_zero]; rfl) (by kernel_rfl) (by kernel_rfl) (by rfl) (fun W hW => ?_) ?_; rotate_left; · (go_simp; try with_reducible rfl)); simp only [Act.put, List.setIfInBounds_toArray, List.set_cons_zero, List.set_cons_succ])
        clear h7
        refine WalkN.one 6 (by kernel_rfl) ?_
        refine ⟨_, (by simp only [List.getElem?_toArray, List.getElem?_cons_succ, List.getElem?_cons_zero]; rfl), by rfl, fun K hK => ?_⟩
        go_simp
        refine (next_any tp m wd HD.out.T (by have := HB.out.mm; omega) (by have := HB.out.mm; omega)).mono ?_
        rintro e w5 ⟨k, rfl, hk, ht5, hk50⟩
        have hk5 : Kept (fun b => b < N ∧ b ≠ tp ∧ b ≠ w.heap.size + 1 + 1) wd w5 := hk50.mono fun b hb => ⟨by rw [← HND.out]; exact hb.1, hb.2.1⟩
        refine hK.out _ _ hk5 ?_
        clear hK
        have hk0 : (0 : Int) ≤ (k : Int) := by omega
        have hkm : k < m := by omega
        obtain ⟨rn, hrn, hrz⟩ := HB.out.R.2 k hkm
        have g0 : ∀ W, Kept (fun b => b < N ∧ b ≠ tp ∧ b ≠ w.heap.size + 1 + 1) wd W → W.cell? ⟨b2, off2 + k * 5, none⟩ = some (.string rn) := fun W h => (Kept.cell (Kept.trans HD.out.X (h.mono fun b (hb : b < w.heap.size ∧ b ≠ tp) => ⟨by have := HZD.out; omega, hb.2, by omega⟩)) HB.out.R.1 hrn)
        have HSZ := Lib.hid hrz
        have HE5 := Lib.hid (HD.out.up hk50 ht5 HLT.out)
        clear hrn hrz hk50 ht5
        ((refine WalkN.take 7 _ ?_ (by simp only [List.getElem?_toArray, List.getElem?_cons_succ, List.getElem?_cons_zero]; rfl) (by kernel_rfl) (by kernel_rfl) (by rfl) (fun W hW => ?_) ?_; rotate_left; · (go_simp; try with_reducible rfl)); simp only [Act.put, List.setIfInBounds_toArray, List.set_cons_zero, List.set_cons_succ]); ((refine WalkN.take 8 _ ?_ (by simp only [List.getElem?_toArray, List.getElem?_cons_succ, List.getElem?_cons_zero]; rfl) (by kernel_rfl) (by kernel_rfl) (by rfl) (fun W hW => ?_) ?_; rotate_left; · (go_simp; try with_reducible rfl)); simp only [Act.put, List.setIfInBounds_toArray, List.set_cons_zero, List.set_cons_succ]); ((refine WalkN.take 9 _ ?_ (by simp only [List.getElem?_toArray, List.getElem?_cons_succ, List.getElem?_cons_zero]; rfl) (by kernel_rfl) (by kernel_rfl) (by rfl) (fun W hW => ?_) ?_; rotate_left; · (go_simp; try with_reducible rfl)); simp only [Act.put, List.setIfInBounds_toArray, List.set_cons_zero, List.set_cons_succ]); ((refine WalkN.take 10 _ ?_ (by simp only [List.getElem?_toArray, List.getElem?_cons_succ, List.getElem?_cons_zero]; rfl) (by kernel_rfl) (by kernel_rfl) (by rfl) (fun W hW => ?_) ?_; rotate_left; · (go_simp; try with_reducible rfl)); simp only [Act.put, List.setIfInBounds_toArray, List.set_cons_zero, List.set_cons_succ]); ((refine WalkN.take 11 _ ?_ (by simp only [List.getElem?_toArray, List.getElem?_cons_succ, List.getElem?_cons_zero]; rfl) (by kernel_rfl) (by kernel_rfl) (by rfl) (fun W hW => ?_) ?_; rotate_left; · (go_simp; try with_reducible rfl)); simp only [Act.put, List.setIfInBounds_toArray, List.set_cons_zero, List.set_cons_succ])
        clear g0
        obtain ⟨s0, s1, s2, s3, s4, s5, hss, hB5⟩ := HE5.out.B5
        have c5 := hB5.cells
        have f5 := hB5.free
        clear hss hB5
        refine WalkN.one 12 (by kernel_rfl) ?_
        refine ⟨_, (by simp only [List.getElem?_toArray, List.getElem?_cons_succ, List.getElem?_cons_zero]; rfl), by rfl, fun K hK => ?_⟩
        go_simp
        clear c5 f5
        have hk6 := hk5.set (a := ⟨w.heap.size + 1 + 1, 5, none⟩) (fun e => e.2.2 rfl) (.string rn)
        refine hK.out _ _ hk6 ?_
        clear hK
        have HE := Lib.hid (HE5.out.put HLT.out 5 rn (by decide) HSZ.out)
        have HB7 := Lib.hid (HB.out.up (by rw [HND.out] at hk6; exact hk6) HLT.out)
        clear hk6 hk5 HE5 HB HSZ
        generalize w5.setCell ⟨w.heap.size + 1 + 1, 5, none⟩ (.string rn) = w6 at *
        refine WalkN.done (by kernel_rfl) ?_
        clear HD HZD HND hk0 hkm hk
        obtain ⟨s0, s1, s2, s3, s4, s5, hss, hB5⟩ := HE.out.B5
        have HSS := Lib.hid hss
        have c5 := hB5.cells
        have c4 := HE.out.B4.cells
        have f4 := HE.out.B4.free
        clear hss hB5
        go_wp2_with fail
        clear c5 c4 f4
        refine bodyPost_ret (results_cell_row rfl _ _ (w.heap.size + 1) 35 #[.string s0, .string s1, .string s2, .string s3, .string s4, .string s5] (0, 0) _ rfl (HE.out.B4.set6 rfl _ _ _ _ _ _) Try.underlying35 rfl (by kernel_rfl)) rfl ?_
        exact ⟨⟨⟨s0, s1, s2⟩, ⟨s3, s4, s5⟩⟩, rfl, ⟨⟨HSS.out.1, HSS.out.2.1, HSS.out.2.2.1⟩, HSS.out.2.2.2⟩, HE.out.T.kept (K := fun b => b ≠ w.heap.size + 1) (((((((Kept.refl _ _).set (fun e => e rfl) _).set (fun e => e rfl) _).set (fun e => e rfl) _).set (fun e => e rfl) _).set (fun e => e rfl) _).set (fun e => e rfl) _) (fun b hb => by have := HLT.out; omega), Kept.set (Kept.set (Kept.set (Kept.set (Kept.set (Kept.set HE.out.X (fun e => absurd e.1 (by show ¬ w.heap.size + 1 < w.heap.size; omega)) _) (fun e => absurd e.1 (by show ¬ w.heap.size + 1 < w.heap.size; omega)) _) (fun e => absurd e.1 (by show ¬ w.heap.size + 1 < w.heap.size; omega)) _) (fun e => absurd e.1 (by show ¬ w.heap.size + 1 < w.heap.size; omega)) _) (fun e => absurd e.1 (by show ¬ w.heap.size + 1 < w.heap.size; omega)) _) (fun e => absurd e.1 (by show ¬ w.heap.size + 1 < w.heap.size; omega)) _⟩

      · have hkq : ((k : Int) == 1) = false := beq_eq_false_iff_ne.2 hk1
        obtain ⟨s0, s1, s2, s3, s4, s5, hss, hB5⟩ := HE.out.B5
        have HSS := Lib.hid hss
        have c5 := hB5.cells
        have c4 := HE.out.B4.cells
        have f4 := HE.out.B4.free
        clear hss hB5
        go_wp2_with fail
        clear c5 c4 f4
        refine bodyPost_ret (results_cell_row rfl _ _ (w.heap.size + 1) 35 #[.string s0, .string s1, .string s2, .string s3, .string s4, .string s5] (0, 0) _ rfl (HE.out.B4.set6 rfl _ _ _ _ _ _) Try.underlying35 rfl (by kernel_rfl)) rfl ?_
        exact ⟨⟨⟨s0, s1, s2⟩, ⟨s3, s4, s5⟩⟩, rfl, ⟨⟨HSS.out.1, HSS.out.2.1, HSS.out.2.2.1⟩, HSS.out.2.2.2⟩, HE.out.T.kept (K := fun b => b ≠ w.heap.size + 1) (((((((Kept.refl _ _).set (fun e => e rfl) _).set (fun e => e rfl) _).set (fun e => e rfl) _).set (fun e => e rfl) _).set (fun e => e rfl) _).set (fun e => e rfl) _) (fun b hb => by have := HLT.out; omega), Kept.set (Kept.set (Kept.set (Kept.set (Kept.set (Kept.set HE.out.X (fun e => absurd e.1 (by show ¬ w.heap.size + 1 < w.heap.size; omega)) _) (fun e => absurd e.1 (by show ¬ w.heap.size + 1 < w.heap.size; omega)) _) (fun e => absurd e.1 (by show ¬ w.heap.size + 1 < w.heap.size; omega)) _) (fun e => absurd e.1 (by show ¬ w.heap.size + 1 < w.heap.size; omega)) _) (fun e => absurd e.1 (by show ¬ w.heap.size + 1 < w.heap.size; omega)) _) (fun e => absurd e.1 (by show ¬ w.heap.size + 1 < w.heap.size; omega)) _⟩


end Go.Proofs.Ytipddhcfcehcaaa
