/- Lemmas for the claim, no condition. -/
import Derived.Test.YtipddhcfcehcaaaYB23
import Derived.Test.YtipddhcfcehcaaaYB18
import Derived.Test.YtipddhcfcehcaaaYB21
import Derived.Test.YtipddhcfcehcaaaYB22
import Derived.Test.YtipddhcfcehcaaaYB20
namespace Go.Proofs.Ytipddhcfcehcaaa
open Go Go.RowKit Go.Maps

theorem rel_own : ∀ n ∈ relNs, ownB n = true ∧ n ≠ (⟨#[116, 121, 112, 101]⟩ : ByteArray) ∧ n.size ≤ 6 := by
  intro n hn
  have h : (relNs.all fun n => ownB n && decide (n ≠ (⟨#[116, 121, 112, 101]⟩ : ByteArray)) && decide (n.size ≤ 6)) = true := by kernel_rfl
  have := List.all_eq_true.1 h n hn
  simp only [Bool.and_eq_true, decide_eq_true_eq] at this
  exact ⟨this.1.1, this.1.2, this.2⟩
theorem ty_own : ∀ n ∈ tyNs, ownB n = true ∧ n.size ≤ 6 := by
  intro n hn
  have h : (tyNs.all fun n => ownB n && decide (n.size ≤ 6)) = true := by kernel_rfl
  have := List.all_eq_true.1 h n hn
  simp only [Bool.and_eq_true, decide_eq_true_eq] at this
  exact this
theorem rel_nodup : relNs.Nodup := of_decide_eq_true (by kernel_rfl)
theorem ty_nodup : tyNs.Nodup := of_decide_eq_true (by kernel_rfl)
/-- What the plain laws want of a rule. -/
structure FineR (ts : List TyS) (t : TyS) (d n m : Nat) (r : RT) : Prop where
  text : ∀ k, k + d ≤ 8 → r.textOk k = true
  sz : r.sz ≤ n
  bk : r.bk ≤ m
  ok : r.Ok
  named : r.named ts t = true
theorem sumN_le {α : Type} (f : α → Nat) (D : Nat) : ∀ l : List α, (∀ x ∈ l, f x ≤ D) → sumN f l ≤ l.length * D
  | [], _ => by simp [sumN]
  | a :: l, h => by
    rw [sumN, List.length_cons, Nat.add_mul, Nat.one_mul]
    have := sumN_le f D l fun x hx => h x (List.mem_cons_of_mem _ hx)
    have := h a List.mem_cons_self
    omega
theorem szL_sum (l : List RT) : szL l = sumN RT.sz l := by
  induction l with
  | nil => rfl
  | cons x l ih => rw [szL, sumN, ih]
theorem FineR.leaf {ts : List TyS} {t : TyS} {own : List ByteArray} (hs : ∀ n ∈ own, n ∈ relNs) (hh : ∀ n ∈ own, hasT t n = true) (ha : ∀ n ∈ relNs.take 2, anyT ts n = true) (d : Nat) {r : RT} (h : LeafR own r) : FineR ts t d 1 17 r := by
  have h0 : (⟨#[]⟩ : ByteArray).size = 0 := rfl
  rcases h with rfl | ⟨a, h1, rfl⟩ | ⟨a, h1, b, h2, rfl⟩
  · refine ⟨fun k _ => ?_, ?_, ?_, ?_, ?_⟩
    · rw [RT.textOk]; rfl
    · rw [RT.sz]; simp [szL]
    · rw [RT.bk, bkL, h0]; omega
    · rw [RT.Ok, okL, h0]; exact ⟨by omega, by omega, by omega, trivial⟩
    · rw [RT.named]; simp [namedL, headOk]
  · obtain ⟨o1, o2, o3⟩ := rel_own a (hs a h1)
    refine ⟨fun k _ => ?_, ?_, ?_, ?_, ?_⟩
    · rw [RT.textOk, if_neg (by decide), if_pos rfl, o1]; rfl
    · rw [RT.sz]; simp [szL]
    · rw [RT.bk, bkL, h0]; omega
    · rw [RT.Ok, okL, h0]; exact ⟨by omega, by omega, by omega, trivial⟩
    · rw [RT.named]; simp [namedL, headOk, hh a h1]
  · obtain ⟨o1, o2, o3⟩ := rel_own a (hs a h1)
    obtain ⟨p1, p2, p3⟩ := rel_own b (List.take_subset 2 relNs h2)
    refine ⟨fun k _ => ?_, ?_, ?_, ?_, ?_⟩
    · rw [RT.textOk, if_neg (by decide), if_neg (by decide), if_pos rfl, o1, p1]; rfl
    · rw [RT.sz]; simp [szL]
    · rw [RT.bk, bkL]; omega
    · rw [RT.Ok, okL]; exact ⟨by omega, by omega, by omega, trivial⟩
    · rw [RT.named]; simp [namedL, headOk, hh a h1, ha b h2]
theorem FineR.group {ts : List TyS} {t : TyS} {d n m : Nat} {k : Int} (hk : k = 4 ∨ k = 5) {ps : List RT} (hl : 2 ≤ ps.length ∧ ps.length ≤ 3) (h : ∀ p ∈ ps, FineR ts t d n m p ∧ p.k ≠ k) : FineR ts t (d + 1) (1 + 3 * n) (5 + 3 * m) (.mk k ⟨#[]⟩ ⟨#[]⟩ ps) := by
  refine ⟨fun j hj => ?_, ?_, ?_, ?_, ?_⟩
  · rw [RT.textOk, if_neg (by omega), if_neg (by omega), if_neg (by omega), if_pos hk, decide_eq_true hl.1, textL_eq]
    have : ps.all (goodP k j) = true := List.all_eq_true.2 fun p hp => by
      have hi : innerD k p.k j ≤ j + 1 := by unfold innerD; split <;> omega
      unfold goodP
      rw [decide_eq_true (h p hp).2, decide_eq_true (show innerD k p.k j ≤ 8 by omega), (h p hp).1.text _ (by omega)]
      rfl
    rw [this]
    rfl
  · rw [RT.sz, szL_sum]
    have := sumN_le RT.sz n ps fun p hp => (h p hp).1.sz
    have := Nat.mul_le_mul_right n hl.2
    omega
  · rw [RT.bk, bkL_sum]
    have := sumN_le RT.bk m ps fun p hp => (h p hp).1.bk
    have := Nat.mul_le_mul_right m hl.2
    have h0 : (⟨#[]⟩ : ByteArray).size = 0 := rfl
    omega
  · rw [RT.Ok]
    have h0 : (⟨#[]⟩ : ByteArray).size = 0 := rfl
    exact ⟨by omega, by omega, by omega, okL_mem.2 fun p hp => (h p hp).1.ok⟩
  · rw [RT.named, namedL_eq]
    have h1 : headOk ts t k ⟨#[]⟩ ⟨#[]⟩ = true := by
      unfold headOk
      rcases hk with rfl | rfl <;> rfl
    rw [h1, Bool.true_and]
    exact List.all_eq_true.2 fun p hp => (h p hp).1.named
theorem FineR.mono {ts : List TyS} {t : TyS} {d n m d' n' m' : Nat} {r : RT} (h : FineR ts t d n m r) (hd : d ≤ d') (hn : n ≤ n') (hm : m ≤ m') : FineR ts t d' n' m' r := ⟨fun k hk => h.text k (by omega), Nat.le_trans h.sz hn, Nat.le_trans h.bk hm, h.ok, h.named⟩
theorem GoodR.zero {own : List ByteArray} {r : RT} : GoodR own 0 r ↔ LeafR own r := Iff.rfl
section
variable {ts : List TyS} {t : TyS} {own : List ByteArray} (hs : ∀ n ∈ own, n ∈ relNs) (hh : ∀ n ∈ own, hasT t n = true) (ha : ∀ n ∈ relNs.take 2, anyT ts n = true)
include hs hh ha
theorem GoodR.fine0 {r : RT} (h : GoodR own 0 r) : FineR ts t 0 1 17 r := FineR.leaf hs hh ha 0 h
theorem GoodR.fine1 {r : RT} (h : GoodR own 1 r) : FineR ts t 1 4 56 r := by
  rcases h with h | ⟨k, ps, rfl, hk, hl, hp⟩
  · exact (FineR.leaf hs hh ha 1 h).mono (by omega) (by omega) (by omega)
  · exact (FineR.group hk (by omega) fun p hx => ⟨GoodR.fine0 hs hh ha (hp p hx).1, (hp p hx).2⟩).mono (by omega) (by omega) (by omega)
theorem GoodR.fine2 {r : RT} (h : GoodR own 2 r) : FineR ts t 2 13 173 r := by
  rcases h with h | ⟨k, ps, rfl, hk, hl, hp⟩
  · exact (FineR.leaf hs hh ha 2 h).mono (by omega) (by omega) (by omega)
  · exact (FineR.group hk (by omega) fun p hx => ⟨GoodR.fine1 hs hh ha (hp p hx).1, (hp p hx).2⟩).mono (by omega) (by omega) (by omega)
theorem TopR.fine {r : RT} (h : TopR own r) : FineR ts t 3 32 524 r ∧ r.sz ≤ 15 := by
  rcases h with h | ⟨r0, h0, hk, rfl⟩
  · have := GoodR.fine2 hs hh ha h
    exact ⟨this.mono (by omega) (by omega) (by omega), Nat.le_trans this.sz (by omega)⟩
  · have h2 := GoodR.fine2 hs hh ha h0
    have h1 := (FineR.leaf hs hh ha 2 (r := .mk 1 ⟨#[]⟩ ⟨#[]⟩ []) (.inl rfl))
    have hsz : (RT.mk 4 ⟨#[]⟩ ⟨#[]⟩ [.mk 1 ⟨#[]⟩ ⟨#[]⟩ [], r0]).sz ≤ 15 := by
      rw [RT.sz, szL, szL, szL]
      have := h1.sz
      have := h2.sz
      omega
    have := FineR.group (ts := ts) (t := t) (k := 4) (.inl rfl) (ps := [.mk 1 ⟨#[]⟩ ⟨#[]⟩ [], r0]) (by simp) (d := 2) (n := 13) (m := 173) fun p hp => by
      simp only [List.mem_cons, List.not_mem_nil, or_false] at hp
      rcases hp with rfl | rfl
      · exact ⟨h1.mono (by omega) (by omega) (by omega), by simp [RT.k]⟩
      · exact ⟨h2, hk⟩
    exact ⟨⟨this.text, Nat.le_trans hsz (by omega), Nat.le_trans this.bk (by omega), this.ok, this.named⟩, hsz⟩
end
/-- What the plain laws want of a schema. -/
structure FineS (ts : List TyS) : Prop where
  chk : chk06 ts = 0
  ok : ∀ t ∈ ts, t.Ok
  bk : schBk ts ≤ 10000
  two : 2 ≤ ts.length ∧ ts.length ≤ 3
  rels : ∀ t ∈ ts, 2 ≤ t.rels.length ∧ t.rels.length ≤ 4
theorem GoodS.fine {ts : List TyS} (h : GoodS ts) : FineS ts := by
  obtain ⟨hl, hn, hg⟩ := h
  have hany : ∀ n ∈ relNs.take 2, anyT ts n = true := fun n hn2 => by
    have h0 : 0 < ts.length := by omega
    obtain ⟨m, hm2, hm4, hr, _⟩ := hg ts[0] (List.getElem_mem h0)
    refine List.any_eq_true.2 ⟨ts[0], List.getElem_mem h0, ?_⟩
    have : n ∈ ts[0].rels.map (·.1) := by
      rw [hr]
      exact List.take_subset_take_left relNs hm2 hn2
    obtain ⟨x, hx, rfl⟩ := List.mem_map.1 this
    exact List.any_eq_true.2 ⟨x, hx, decide_eq_true rfl⟩
  have hfine : ∀ t ∈ ts, (∀ n ∈ t.rels.map (·.1), n ∈ relNs) ∧ (t.rels.map (·.1)).Nodup ∧ (2 ≤ t.rels.length ∧ t.rels.length ≤ 4) ∧ ∀ r ∈ t.rels, FineR ts t 3 32 524 r.2 ∧ r.2.sz ≤ 15 := fun t ht => by
    obtain ⟨m, hm2, hm4, hr, hp⟩ := hg t ht
    have hlen : t.rels.length = m := by
      have := congrArg List.length hr
      rw [List.length_map, List.length_take] at this
      have h4 : relNs.length = 4 := rfl
      omega
    refine ⟨fun n hn => by rw [hr] at hn; exact List.take_subset m relNs hn, by rw [hr]; exact rel_nodup.sublist (List.take_sublist m relNs), by omega, fun r hr' => ?_⟩
    refine TopR.fine (own := relNs.take m) (fun n hn => List.take_subset m relNs hn) (fun n hn => ?_) hany (hp r hr')
    rw [← hr] at hn
    obtain ⟨x, hx, rfl⟩ := List.mem_map.1 hn
    exact List.any_eq_true.2 ⟨x, hx, decide_eq_true rfl⟩
  have hnm : ∀ t ∈ ts, ownB t.name = true ∧ t.name.size ≤ 6 := fun t ht => ty_own _ (by
    have : t.name ∈ ts.map (·.name) := List.mem_map_of_mem ht
    rw [hn] at this
    exact List.take_subset _ _ this)
  have hrn : ∀ t ∈ ts, ∀ r ∈ t.rels, ownB r.1 = true ∧ r.1 ≠ (⟨#[116, 121, 112, 101]⟩ : ByteArray) ∧ r.1.size ≤ 6 := fun t ht r hr => rel_own _ ((hfine t ht).1 _ (List.mem_map_of_mem hr))
  have hprint : printOk ts = true := List.all_eq_true.2 fun t ht => by
    unfold tyOk
    rw [(hnm t ht).1, Bool.true_and]
    refine List.all_eq_true.2 fun r hr => ?_
    unfold relOk
    rw [((hfine t ht).2.2.2 r hr).1.text 0 (by omega), (hrn t ht r hr).1, decide_eq_true (hrn t ht r hr).2.1]
    rfl
  have hlong : longOk ts = true := by
    unfold longOk
    rw [decide_eq_true (show ts.length ≤ 16 by omega), Bool.true_and]
    refine List.all_eq_true.2 fun t ht => ?_
    unfold tyLong
    rw [decide_eq_true (show t.rels.length ≤ 16 by have := (hfine t ht).2.2.1.2; omega), Bool.true_and]
    exact List.all_eq_true.2 fun r hr => decide_eq_true ((hfine t ht).2.2.2 r hr).1.sz
  have huniq : uniqOk ts = true := by
    unfold uniqOk
    rw [hn, decide_eq_true (ty_nodup.sublist (List.take_sublist _ _)), Bool.true_and]
    exact List.all_eq_true.2 fun t ht => decide_eq_true (hfine t ht).2.1
  have hnames : namesOk ts = true := by
    unfold namesOk
    exact List.all_eq_true.2 fun t ht => List.all_eq_true.2 fun r hr => ((hfine t ht).2.2.2 r hr).1.named
  refine ⟨by unfold chk06; rw [hprint, hlong, huniq, hnames]; rfl, fun t ht => ⟨by have := (hnm t ht).2; omega, fun r hr => ⟨by have := (hrn t ht r hr).2.2; omega, ((hfine t ht).2.2.2 r hr).1.ok⟩⟩, ?_, by omega, fun t ht => (hfine t ht).2.2.1⟩
  unfold schBk
  have h1 := sumN_le tyBk 2136 ts fun t ht => by
    rw [tyBk_eq]
    have := sumN_le relBk 532 t.rels fun r hr => by
      rw [relBk_eq]
      have := (hrn t ht r hr).2.2
      have := ((hfine t ht).2.2.2 r hr).1.bk
      omega
    have := (hfine t ht).2.2.1.2
    have := (hnm t ht).2
    have := Nat.mul_le_mul_right 532 (hfine t ht).2.2.1.2
    omega
  have := Nat.mul_le_mul_right 2136 (show ts.length ≤ 3 by omega)
  omega

theorem chk_names {ts : List TyS} (h : chk06 ts = 0) : namesOk ts = true := by
  unfold chk06 at h
  split at h
  · split at h
    · split at h
      · split at h
        · assumption
        · cases h
      · cases h
    · cases h
  · cases h
end Go.Proofs.Ytipddhcfcehcaaa
namespace Go.Proofs.Ytipddhcfcehcaaa
open Go Go.RowKit Go.Maps

theorem lookA_of_nodup {κ α : Type} [DecidableEq κ] : ∀ {l : List (κ × α)}, (l.map (·.1)).Nodup → ∀ {p : κ × α}, p ∈ l → lookA l p.1 = some p.2
  | [], _, _, hp => absurd hp (by simp)
  | q :: l, hn, p, hp => by
    rw [List.map_cons, List.nodup_cons] at hn
    rw [lookA]
    rcases List.mem_cons.1 hp with rfl | hp
    · rw [if_pos rfl]
    · rw [if_neg (fun e => hn.1 (by rw [e]; exact List.mem_map_of_mem hp))]
      exact lookA_of_nodup hn.2 hp
theorem lookA_mem_eq {κ α : Type} [DecidableEq κ] {l m : List (κ × α)} (hn : (l.map (·.1)).Nodup) (hm : (m.map (·.1)).Nodup) (h : ∀ p, p ∈ l ↔ p ∈ m) (k : κ) : lookA l k = lookA m k := by
  cases h1 : lookA l k with
  | some x => exact (lookA_of_nodup hm ((h _).1 (look_mem h1))).symm
  | none =>
    cases h2 : lookA m k with
    | none => rfl
    | some x =>
      have := lookA_of_nodup hn ((h _).2 (look_mem h2))
      rw [h1] at this
      cases this
/-- Two schemas that tell the same. -/
structure Like (ts us : List TyS) : Prop where
  T : ∀ n, kn ts n = kn us n
  R : ∀ k, lookA (refsOf ts) k = lookA (refsOf us) k
theorem chk_print {ts : List TyS} (h : chk06 ts = 0) : printOk ts = true := by
  unfold chk06 at h
  split at h
  · assumption
  · cases h
theorem chk_longT {ts : List TyS} (h : chk06 ts = 0) : longOk ts = true := by
  unfold chk06 at h
  split at h
  · split at h
    · assumption
    · cases h
  · cases h
theorem refs_sub : ∀ ts : List TyS, ((refsOf ts).map (·.1)).Sublist (namesOf ts)
  | [] => List.Sublist.refl _
  | t :: ts => by
    unfold refsOf namesOf
    rw [List.flatMap_cons, List.flatMap_cons, List.map_append]
    refine List.Sublist.append ?_ (refs_sub ts)
    unfold namesT relsOf
    rw [List.map_map]
    exact List.Sublist.cons _ (List.Sublist.refl _)
theorem refs_nodup {ts : List TyS} (h : chk06 ts = 0) : ((refsOf ts).map (·.1)).Nodup := ((names_nodup (chk_print h)).2 (chk_uq h)).sublist (refs_sub ts)
theorem tys_nodup {ts : List TyS} (h : chk06 ts = 0) : (ts.map (·.name)).Nodup := by
  have := chk_uq h
  unfold uniqOk at this
  rw [Bool.and_eq_true, decide_eq_true_eq] at this
  exact this.1
theorem Nms.plain {ts : List TyS} (h : chk06 ts = 0) : Nms ts := by
  refine ⟨?_, ?_, fun x hx e => ?_⟩
  · unfold trL
    rw [List.map_map]
    exact tys_nodup h
  · unfold dL
    rw [List.map_map]
    exact refs_nodup h
  · obtain ⟨t, ht, r, hr, rfl⟩ := refs_mem.1 hx
    have h1 := List.all_eq_true.1 (chk_print h) t ht
    unfold tyOk at h1
    rw [Bool.and_eq_true] at h1
    have h2 := List.all_eq_true.1 h1.2 r hr
    unfold relOk at h2
    simp only [Bool.and_eq_true] at h2
    have h3 := (own_chars h2.1.2).2.1
    dsimp only at e
    rw [e] at h3
    exact h3 rfl
theorem Like.of_mem {ts us : List TyS} (h1 : chk06 ts = 0) (h2 : chk06 us = 0) (h : ∀ t, t ∈ ts ↔ t ∈ us) : Like ts us := by
  refine ⟨fun n => ?_, lookA_mem_eq (refs_nodup h1) (refs_nodup h2) fun p => ?_⟩
  · rw [Bool.eq_iff_iff, kn_mem, kn_mem, List.mem_map, List.mem_map]
    exact ⟨fun ⟨t, ht, e⟩ => ⟨t, (h t).1 ht, e⟩, fun ⟨t, ht, e⟩ => ⟨t, (h t).2 ht, e⟩⟩
  · rw [refs_mem, refs_mem]
    exact ⟨fun ⟨t, ht, e⟩ => ⟨t, (h t).1 ht, e⟩, fun ⟨t, ht, e⟩ => ⟨t, (h t).2 ht, e⟩⟩
theorem Like.symm {ts us : List TyS} (h : Like ts us) : Like us ts := ⟨fun n => (h.T n).symm, fun k => (h.R k).symm⟩
theorem without_like {ts us : List TyS} (h : Like ts us) (k : Int) : withoutL ts us k = [] := by
  unfold withoutL noT noR
  rw [List.filter_eq_nil_iff.2 fun p hp => ?_, List.filter_eq_nil_iff.2 fun p hp => ?_]
  · rfl
  · obtain ⟨x, hx, e, hs⟩ := look_some_of hp
    rw [dL_look, ← h.R]
    cases hl : lookA (refsOf ts) p.1 with
    | none => rw [hl] at hs; cases hs
    | some r => simp
  · obtain ⟨t, ht, rfl⟩ := List.mem_map.1 hp
    dsimp only
    rw [← h.T, kn_mem.2 (List.mem_map_of_mem ht)]
    simp
theorem diff_like {ts us : List TyS} (h : Like ts us) (hc : chk06 ts = 0) : diffL ts us = [] := by
  unfold diffL chgL
  rw [without_like h, without_like h.symm, List.filter_eq_nil_iff.2 fun p hp => ?_]
  · rfl
  · obtain ⟨x, hx, rfl⟩ := List.mem_map.1 hp
    unfold chT3
    rw [dL_look, ← h.R, lookA_of_nodup (refs_nodup hc) hx]
    simp
theorem named_congr {ts us : List TyS} (h : ∀ n, anyT ts n = anyT us n) (t : TyS) (r : RT) : r.named ts t = r.named us t := by
  induction r using RT.ind with
  | h r ih =>
    obtain ⟨k, a, b, ps⟩ := r
    rw [RT.named, RT.named, namedL_eq, namedL_eq]
    unfold headOk
    rw [h b]
    congr 1
    rw [Bool.eq_iff_iff, List.all_eq_true, List.all_eq_true]
    exact ⟨fun k p hp => (ih p hp) ▸ k p hp, fun k p hp => (ih p hp).symm ▸ k p hp⟩
theorem sumN_perm {α : Type} (f : α → Nat) {l m : List α} (h : l.Perm m) : sumN f l = sumN f m := by
  induction h with
  | nil => rfl
  | cons x _ ih => rw [sumN, sumN, ih]
  | swap x y l => simp only [sumN]; omega
  | trans _ _ h1 h2 => exact h1.trans h2
theorem chk_perm {ts us : List TyS} (hp : us.Perm ts) (hc : chk06 ts = 0) : chk06 us = 0 := by
  have h1 : printOk us = true := List.all_eq_true.2 fun t ht => List.all_eq_true.1 (chk_print hc) t (hp.mem_iff.1 ht)
  have h2 : longOk us = true := by
    have := chk_longT hc
    unfold longOk at this ⊢
    rw [Bool.and_eq_true, decide_eq_true_eq, List.all_eq_true] at this
    rw [Bool.and_eq_true, decide_eq_true_eq, List.all_eq_true, hp.length_eq]
    exact ⟨this.1, fun t ht => this.2 t (hp.mem_iff.1 ht)⟩
  have h3 : uniqOk us = true := by
    have := chk_uq hc
    unfold uniqOk at this ⊢
    rw [Bool.and_eq_true, decide_eq_true_eq, List.all_eq_true] at this
    rw [Bool.and_eq_true, decide_eq_true_eq, List.all_eq_true]
    exact ⟨(hp.map _).nodup_iff.2 this.1, fun t ht => this.2 t (hp.mem_iff.1 ht)⟩
  have ha : ∀ n, anyT us n = anyT ts n := fun n => by
    unfold anyT
    rw [Bool.eq_iff_iff, List.any_eq_true, List.any_eq_true]
    exact ⟨fun ⟨t, ht, e⟩ => ⟨t, hp.mem_iff.1 ht, e⟩, fun ⟨t, ht, e⟩ => ⟨t, hp.mem_iff.2 ht, e⟩⟩
  have h4 : namesOk us = true := by
    have := chk_names hc
    unfold namesOk at this ⊢
    rw [List.all_eq_true] at this ⊢
    intro t ht
    have := List.all_eq_true.1 (this t (hp.mem_iff.1 ht))
    exact List.all_eq_true.2 fun r hr => by rw [named_congr ha]; exact this r hr
  unfold chk06
  rw [h1, h2, h3, h4]
  rfl
end Go.Proofs.Ytipddhcfcehcaaa
namespace Go.Proofs.Ytipddhcfcehcaaa
open Go Go.RowKit Go.Maps

theorem Kept.cellq {K : Nat → Prop} {w w' : World} (h : Kept K w w') {a : Addr} (hb : K a.block) {v : Value} (hc : w.cell? a = some v) : w'.cell? a = some v := (World.cell?_of_block (h.block _ hb)).trans hc
/-- A relation that is left, with its new rule. -/
def mrgF (m : List (ByteArray × RT)) (r : ByteArray × RT) : Option (ByteArray × RT) := (lookA m r.1).map fun q => (r.1, q)
/-- What is left of l, with m's rules; then what is new in m. -/
def mrgR (l m : List (ByteArray × RT)) : List (ByteArray × RT) := l.filterMap (mrgF m) ++ m.filter fun r => (lookA l r.1).isNone
theorem fm_snoc {α β : Type} (f : α → Option β) {l : List α} {i : Nat} (hi : i < l.length) : (l.take (i + 1)).filterMap f = (l.take i).filterMap f ++ (f l[i]).toList := by
  rw [List.take_succ_eq_append_getElem hi, List.filterMap_append]
  cases h : f l[i] <;> simp [h]
theorem fl_snoc {α : Type} (p : α → Bool) {l : List α} {i : Nat} (hi : i < l.length) : (l.take (i + 1)).filter p = (l.take i).filter p ++ if p l[i] = true then [l[i]] else [] := by
  rw [List.take_succ_eq_append_getElem hi, List.filter_append]
  by_cases h : p l[i] = true <;> simp [h]
theorem idx_look {m : List (ByteArray × RT)} {n : ByteArray} {k : Int} (hn : (m.map (·.1)).Nodup) (h : IdxP (fun x : ByteArray × RT => decide (x.1 = n)) m k) : (∃ (j : Nat) (hj : j < m.length), k = (j : Int) ∧ lookA m n = some m[j].2) ∨ (k = -1 ∧ lookA m n = none) := by
  rcases h with ⟨j, hj, rfl, hp⟩ | ⟨rfl, h⟩
  · refine .inl ⟨j, hj, rfl, ?_⟩
    have := lookA_of_nodup hn (List.getElem_mem hj)
    rw [of_decide_eq_true hp] at this
    exact this
  · exact .inr ⟨rfl, look_none_iff.2 fun p hp => of_decide_eq_false (h p hp)⟩
theorem fm_len {α β : Type} (f : α → Option β) (l : List α) : (l.filterMap f).length ≤ l.length := List.length_filterMap_le _ _

set_option maxRecDepth 100000 in
set_option maxHeartbeats 1500000 in
theorem merged_any (tn un : ByteArray) (l m : List (ByteArray × RT)) (lv mv : Value) (w : World) (hl : RelsAt (· < w.heap.size) w l lv) (hm : RelsAt (· < w.heap.size) w m mv) (hnl : (l.map (·.1)).Nodup) (hnm : (m.map (·.1)).Nodup) (hsz : ∀ r ∈ m, r.2.sz ≤ 1000000) (hl1 : l.length ≤ 2000000) (hl2 : m.length ≤ 2000000) :
    Calls Try.prog 45 #[.agg #[.string tn, lv], .agg #[.string un, mv]] w fun e w' => ∃ rv, e = .returned (.agg #[.string tn, rv]) ∧ RelsAt (fun b => w.heap.size ≤ b ∧ b < w'.heap.size) w' (mrgR l m) rv ∧ Ext w w' := by
  obtain ⟨aol, cl, rfl, hcl1, hcl2, hrl⟩ := hl.rows
  obtain ⟨aom, cm, rfl, hcm1, hcm2, hrm⟩ := hm.rows
  have HRL := Lib.hid hrl
  have HRM := Lib.hid hrm
  have HL := Lib.hid hl
  have HM := Lib.hid hm
  have HN := Lib.hid (And.intro hnl hnm)
  have HSZ := Lib.hid hsz
  have HLL := Lib.hid (And.intro hl1 hl2)
  obtain ⟨wa, hwa⟩ : ∃ x, x = w.alloc (.cells #[.string tn, .slice aol l.length cl] 49) := ⟨_, rfl⟩
  obtain ⟨wc, hwc⟩ : ∃ x, x = wa.alloc (.cells #[.string un, .slice aom m.length cm] 49) := ⟨_, rfl⟩
  obtain ⟨we, hwe⟩ : ∃ x, x = wc.alloc (.cells #[.string ⟨#[]⟩, .slice none 0 0] 49) := ⟨_, rfl⟩
  obtain ⟨wb, hwb⟩ : ∃ x, x = we.alloc (.cells #[.string tn, .slice none 0 0] 49) := ⟨_, rfl⟩
  have ea : wa.heap.size = w.heap.size + 1 := by rw [hwa]; simp
  have ec : wc.heap.size = w.heap.size + 1 + 1 := by rw [hwc]; simp [ea]
  have ee : we.heap.size = w.heap.size + 1 + 1 + 1 := by rw [hwe]; simp [ec]
  have eb : wb.heap.size = w.heap.size + 1 + 1 + 1 + 1 := by rw [hwb]; simp [ee]
  have xa : Ext w wa := by rw [hwa]; exact Ext.alloc _ _
  have xc : Ext wa wc := by rw [hwc]; exact Ext.alloc _ _
  have xe : Ext wc we := by rw [hwe]; exact Ext.alloc _ _
  have xb : Ext we wb := by rw [hwb]; exact Ext.alloc _ _
  have HA := Lib.hid (show Blk wb w.heap.size #[.string tn, .slice aol l.length cl] 49 from Blk.below (by rw [hwa]; exact Blk.made _ _ _) (xc.trans (xe.trans xb)))
  have HB := Lib.hid (show Blk wb (w.heap.size + 1) #[.string un, .slice aom m.length cm] 49 from Blk.below (by rw [hwc, ← ea]; exact Blk.made _ _ _) (xe.trans xb))
  have HR := Lib.hid (show Blk wb (w.heap.size + 1 + 1) #[.string ⟨#[]⟩, .slice none 0 0] 49 from Blk.below (by rw [hwe, ← ec]; exact Blk.made _ _ _) xb)
  have HO := Lib.hid (show TyBox (w.heap.size + 1 + 1 + 1) (w.heap.size + 1 + 1 + 1 + 1) [.string tn] wb [] (.slice none 0 0) from ⟨by rw [hwb, ← ee]; exact Blk.made _ _ _, Own.nil _ _ _ _, by simp⟩)
  have HX := Lib.hid (show Ext w wb from xa.trans (xc.trans (xe.trans xb)))
  clear xa xc xe xb ea ec ee eb hl hm hrl hrm hnl hnm hsz hl1 hl2
  subst hwb hwe hwc hwa
  go_enter Try.func45, Try.ntmps45
  go_wp2_with fail
  obtain ⟨wb, hwb⟩ : ∃ x, x = (((w.alloc (.cells #[.string tn, .slice aol l.length cl] 49)).alloc (.cells #[.string un, .slice aom m.length cm] 49)).alloc (.cells #[.string ⟨#[]⟩, .slice none 0 0] 49)).alloc (.cells #[.string tn, .slice none 0 0] 49) := ⟨_, rfl⟩
  rw [← hwb] at HA HB HR HO HX ⊢
  clear hwb
  go_loopw [18] (fun iv wr => ∃ (i : Nat) (q : List ((ByteArray × RT) × Value)) (ov : Value), i ≤ l.length ∧ iv = .int .i64 i ∧ q.map (·.1) = (l.take i).filterMap (mrgF m) ∧ TyBox (w.heap.size + 1 + 1 + 1) (w.heap.size + 1 + 1 + 1 + 1) [.string tn] wr q ov ∧ Below (w.heap.size + 1 + 1 + 1) wb wr ∧ Ext w wr) (fun iv _ => l.length - (intOf iv).toNat)
  case atStart => exact ⟨0, [], .slice none 0 0, by omega, rfl, rfl, HO.out, Below.refl _ _, HX.out⟩
  case round =>
    obtain ⟨i, q, ov, hi, rfl, hq, hbx, hbe, hxw⟩ := hrel
    have HQ := Lib.hid hq
    have HBX := Lib.hid hbx
    have HBE := Lib.hid hbe
    have HXW := Lib.hid hxw
    obtain ⟨aov, kv, cv, rfl, -, -, -⟩ := hbx.row.sl.len
    have HPO := Lib.hid (show ∀ g, Value.ownBlock (.slice aov kv cv) = some g → w.heap.size + 1 + 1 + 1 + 1 ≤ g ∧ g < wr.heap.size from hbx.row.block)
    have HLQ := Lib.hid (show q.length ≤ 4000000 from by
      have h1 := congrArg List.length hq
      rw [List.length_map] at h1
      have h2 := fm_len (mrgF m) (l.take i)
      rw [List.length_take] at h2
      have := HLL.out.1
      omega)
    clear HO HX hq hbx hbe
    by_cases hlt : i < l.length
    · obtain ⟨bl, offl, rvl, haol, hbb, d0, d1, d2, d3, d4, hrtl⟩ := HRL.out i hlt
      have d0 := hxw.cell (a := ⟨bl, offl + i * 5, none⟩) d0
      have d1 := hxw.cell (a := ⟨bl, offl + i * 5 + 1, none⟩) d1
      have d2 := hxw.cell (a := ⟨bl, offl + i * 5 + 2, none⟩) d2
      have d3 := hxw.cell (a := ⟨bl, offl + i * 5 + 3, none⟩) d3
      have d4 := hxw.cell (a := ⟨bl, offl + i * 5 + 4, none⟩) d4
      have HFS := Lib.hid (fm_snoc (mrgF m) hlt)
      subst haol
      generalize l[i] = x at *
      obtain ⟨nm, rl⟩ := x
      dsimp only at d0 d1 d2 d3 d4 hrtl
      obtain ⟨aor, cr, rfl, -, -, -⟩ := hrtl.rows
      obtain ⟨wp, hwp⟩ : ∃ x, x = wr.alloc (.cells #[.string nm, .int .i64 rl.k, .string rl.a, .string rl.b, .slice aor rl.ps.length cr] 82) := ⟨_, rfl⟩
      have xp : Ext wr wp := by rw [hwp]; exact Ext.alloc _ _
      have hpb : Blk wp wr.heap.size #[.string nm, .int .i64 rl.k, .string rl.a, .string rl.b, .slice aor rl.ps.length cr] 82 := by rw [hwp]; exact Blk.made _ _ _
      have HPB0 := Lib.hid hpb
      have pb := hpb.cells
      have HXP := Lib.hid (show Ext w wp from hxw.trans xp)
      have HBP := Lib.hid (HBX.out.keep (Below.kept xp fun b hb => hb.1) (xp.block _ HBX.out.box.lt))
      have HEP := Lib.hid (show Below (w.heap.size + 1 + 1 + 1) wb wp from HBE.out.trans (Below.mono xp (by have := HBX.out.box.lt; omega)))
      have HIX := Lib.hid (relIdx_any m _ un nm wp (HM.out.up HXP.out))
      have mb := (show Blk wp (w.heap.size + 1) #[.string un, .slice aom m.length cm] 49 from (HEP.out.block _ (by omega)).trans HB.out).cells
      clear hxw hrtl xp hpb HBX HBE HXW
      subst hwp
      go_wp2_with fail
      refine HIX.out.mono ?_
      rintro e w2 ⟨k, rfl, hk, hb2⟩
      have HPB := Lib.hid (HPB0.out.below hb2).cells
      have HB2 := Lib.hid (HBP.out.keep (Below.kept hb2 fun b hb => hb.1) (hb2.block _ HBP.out.box.lt))
      have HX2 := Lib.hid (show Ext w w2 from HXP.out.trans hb2)
      have HE2 := Lib.hid (show Below (w.heap.size + 1 + 1 + 1) wb w2 from HEP.out.trans (Below.mono hb2 (by have := HBP.out.box.lt; omega)))
      have HP2 := Lib.hid (show (∀ g, Value.ownBlock (.slice aov kv cv) = some g → g < wr.heap.size) ∧ True ∧ wr.heap.size < w2.heap.size from ⟨fun g e => (HPO.out g e).2, trivial, (HPB0.out.below hb2).lt⟩)
      generalize wr.alloc (.cells #[.string nm, .int .i64 rl.k, .string rl.a, .string rl.b, .slice aor rl.ps.length cr] 82) = wp at *
      clear HIX HBP HEP HXP HPB0 hb2 pb mb d0 d1 d2 d3 d4
      rcases idx_look HN.out.2 hk with ⟨j, hj, rfl, hlk⟩ | ⟨rfl, hlk⟩
      · obtain ⟨bm, offm, rv5, haom, hbm, e0, e1, e2, e3, e4, hrt⟩ := HRM.out j hj
        subst haom
        have HFX := Lib.hid (show mrgF m (nm, rl) = some (nm, m[j].2) from by unfold mrgF; rw [hlk]; rfl)
        have HRS := Lib.hid (HSZ.out _ (List.getElem_mem hj))
        generalize m[j] = y at *
        obtain ⟨nm5, r5⟩ := y
        dsimp only at e1 e2 e3 e4 hrt HFX HRS
        obtain ⟨aor5, cr5, rfl, -, -, -⟩ := hrt.rows
        have hge : (0 : Int) ≤ (j : Int) := by omega
        have hjl : (j : Int) < (m.length : Int) := by omega
        clear hk hlk
        go_wp2_with fail
        obtain ⟨wd, hwd⟩ : ∃ wd, wd = w2.drew := ⟨_, rfl⟩
        have X2d : Ext w2 wd := by rw [hwd]; exact Ext.drew w2
        have HBd := Lib.hid (HB2.out.keep (Below.kept X2d fun b hb => hb.1) (X2d.block _ HB2.out.box.lt))
        have HXd := Lib.hid (show Ext w wd from HX2.out.trans X2d)
        have HEd := Lib.hid (show Below (w.heap.size + 1 + 1 + 1) wb wd from HE2.out.trans (Below.mono X2d (by have := HB2.out.box.lt; omega)))
        have HPd := Lib.hid (show ∀ g, Value.ownBlock (.slice aov kv cv) = some g → w.heap.size + 1 + 1 + 1 + 1 ≤ g ∧ g < wd.heap.size from HBd.out.row.block)
        have HZd := Lib.hid (show w.heap.size + 1 + 1 + 1 + 1 ≤ wd.heap.size from HBd.out.box.lt)
        have HD2 := Lib.hid (show w2.heap.size ≤ wd.heap.size from X2d.size)
        have HCP := Lib.hid (copied_any r5 (.slice aor5 r5.ps.length cr5) wd (hrt.up HXd.out) HRS.out)
        refine region_walkL 15 (Kept (fun b => b < wd.heap.size ∧ Value.ownBlock (.slice aov kv cv) ≠ some b) wd) (by rw [← hwd]; exact Kept.refl _ _) (by kernel_rfl) (by kernel_rfl) (fun _ _ d _ _ h => by cases d <;> exact h) ?_
        rw [← hwd]
        have hov : ∀ W, Kept (fun b => b < wd.heap.size ∧ Value.ownBlock (.slice aov kv cv) ≠ some b) wd W → W.cell? ⟨w.heap.size + 1 + 1 + 1, 1, none⟩ = some (.slice aov kv cv) := fun W h => Kept.cellq h ⟨HBd.out.box.lt, fun e => by have := (HPd.out _ e).1; dsimp only at this; omega⟩ (HBd.out.box.cells 1)
        have h8 : ∀ W, Kept (fun b => b < wd.heap.size ∧ Value.ownBlock (.slice aov kv cv) ≠ some b) wd W → W.cell? ⟨wr.heap.size, 0, none⟩ = some (.string nm) := fun W h => Kept.cellq h ⟨by have := HP2.out.2.2; have := HXd.out.size; have := HEd.out.size; exact Nat.lt_of_lt_of_le HP2.out.2.2 HD2.out, fun e => by have := HP2.out.1 _ e; dsimp only at this; omega⟩ (X2d.cell (a := ⟨wr.heap.size, 0, none⟩) (HPB.out 0))
        have h3 : ∀ W, Kept (fun b => b < wd.heap.size ∧ Value.ownBlock (.slice aov kv cv) ≠ some b) wd W → W.cell? ⟨w.heap.size + 1, 1, none⟩ = some (.slice (some ⟨bm, offm, none⟩) m.length cm) := fun W h => Kept.cellq h ⟨by have := HZd.out; show w.heap.size + 1 < _; omega, fun e => by have := (HPd.out _ e).1; dsimp only at this; omega⟩ (Blk.cells ((HEd.out.block (w.heap.size + 1) (by omega)).trans HB.out) 1)
        have hm1 : ∀ W, Kept (fun b => b < wd.heap.size ∧ Value.ownBlock (.slice aov kv cv) ≠ some b) wd W → W.cell? ⟨bm, offm + j * 5 + 1, none⟩ = some (.int .i64 r5.k) := fun W h => Kept.cellq h ⟨by have := HZd.out; show bm < _; omega, fun e => by have := (HPd.out _ e).1; dsimp only at this; omega⟩ (HXd.out.cell (a := ⟨bm, offm + j * 5 + 1, none⟩) e1)
        have hm2 : ∀ W, Kept (fun b => b < wd.heap.size ∧ Value.ownBlock (.slice aov kv cv) ≠ some b) wd W → W.cell? ⟨bm, offm + j * 5 + 2, none⟩ = some (.string r5.a) := fun W h => Kept.cellq h ⟨by have := HZd.out; show bm < _; omega, fun e => by have := (HPd.out _ e).1; dsimp only at this; omega⟩ (HXd.out.cell (a := ⟨bm, offm + j * 5 + 2, none⟩) e2)
        have hm3 : ∀ W, Kept (fun b => b < wd.heap.size ∧ Value.ownBlock (.slice aov kv cv) ≠ some b) wd W → W.cell? ⟨bm, offm + j * 5 + 3, none⟩ = some (.string r5.b) := fun W h => Kept.cellq h ⟨by have := HZd.out; show bm < _; omega, fun e => by have := (HPd.out _ e).1; dsimp only at this; omega⟩ (HXd.out.cell (a := ⟨bm, offm + j * 5 + 3, none⟩) e3)
        have hm4 : ∀ W, Kept (fun b => b < wd.heap.size ∧ Value.ownBlock (.slice aov kv cv) ≠ some b) wd W → W.cell? ⟨bm, offm + j * 5 + 4, none⟩ = some ((.slice aor5 r5.ps.length cr5)) := fun W h => Kept.cellq h ⟨by have := HZd.out; show bm < _; omega, fun e => by have := (HPd.out _ e).1; dsimp only at this; omega⟩ (HXd.out.cell (a := ⟨bm, offm + j * 5 + 4, none⟩) e4)

        clear hwd X2d
        ((refine WalkL.take 0 _ ?_ (by simp only [List.getElem?_toArray, List.getElem?_cons_zero]; rfl) (by kernel_rfl) (by kernel_rfl) (by kernel_rfl) (by rfl) (fun W hW => ?_) ?_; rotate_left; · (go_simp; try with_reducible rfl)); simp only [Act.put, List.setIfInBounds_toArray, List.set_cons_zero, List.set_cons_succ]); ((refine WalkL.take 1 _ ?_ (by simp only [List.getElem?_toArray, List.getElem?_cons_succ, List.getElem?_cons_zero]; rfl) (by kernel_rfl) (by kernel_rfl) (by kernel_rfl) (by rfl) (fun W hW => ?_) ?_; rotate_left; · (go_simp; try with_reducible rfl)); simp only [Act.put, List.setIfInBounds_toArray, List.set_cons_zero, List.set_cons_succ]); ((refine WalkL.take 2 _ ?_ (by simp only [List.getElem?_toArray, List.getElem?_cons_succ, List.getElem?_cons_zero]; rfl) (by kernel_rfl) (by kernel_rfl) (by kernel_rfl) (by rfl) (fun W hW => ?_) ?_; rotate_left; · (go_simp; try with_reducible rfl)); simp only [Act.put, List.setIfInBounds_toArray, List.set_cons_zero, List.set_cons_succ]); ((refine WalkL.take 3 _ ?_ (by simp only [List.getElem?_toArray, List.getElem?_cons_succ, List.getElem?_cons_zero]; rfl) (by kernel_rfl) (by kernel_rfl) (by kernel_rfl) (by rfl) (fun W hW => ?_) ?_; rotate_left; · (go_simp; try with_reducible rfl)); simp only [Act.put, List.setIfInBounds_toArray, List.set_cons_zero, List.set_cons_succ]); ((refine WalkL.take 4 _ ?_ (by simp only [List.getElem?_toArray, List.getElem?_cons_succ, List.getElem?_cons_zero]; rfl) (by kernel_rfl) (by kernel_rfl) (by kernel_rfl) (by rfl) (fun W hW => ?_) ?_; rotate_left; · (go_simp; try with_reducible rfl)); simp only [Act.put, List.setIfInBounds_toArray, List.set_cons_zero, List.set_cons_succ]); ((refine WalkL.take 5 _ ?_ (by simp only [List.getElem?_toArray, List.getElem?_cons_succ, List.getElem?_cons_zero]; rfl) (by kernel_rfl) (by kernel_rfl) (by kernel_rfl) (by rfl) (fun W hW => ?_) ?_; rotate_left; · (go_simp; try with_reducible rfl)); simp only [Act.put, List.setIfInBounds_toArray, List.set_cons_zero, List.set_cons_succ]); ((refine WalkL.take 6 _ ?_ (by simp only [List.getElem?_toArray, List.getElem?_cons_succ, List.getElem?_cons_zero]; rfl) (by kernel_rfl) (by kernel_rfl) (by kernel_rfl) (by rfl) (fun W hW => ?_) ?_; rotate_left; · (go_simp; try with_reducible rfl)); simp only [Act.put, List.setIfInBounds_toArray, List.set_cons_zero, List.set_cons_succ]); ((refine WalkL.take 7 _ ?_ (by simp only [List.getElem?_toArray, List.getElem?_cons_succ, List.getElem?_cons_zero]; rfl) (by kernel_rfl) (by kernel_rfl) (by kernel_rfl) (by rfl) (fun W hW => ?_) ?_; rotate_left; · (go_simp; try with_reducible rfl)); simp only [Act.put, List.setIfInBounds_toArray, List.set_cons_zero, List.set_cons_succ]); ((refine WalkL.take 8 _ ?_ (by simp only [List.getElem?_toArray, List.getElem?_cons_succ, List.getElem?_cons_zero]; rfl) (by kernel_rfl) (by kernel_rfl) (by kernel_rfl) (by rfl) (fun W hW => ?_) ?_; rotate_left; · (go_simp; try with_reducible rfl)); simp only [Act.put, List.setIfInBounds_toArray, List.set_cons_zero, List.set_cons_succ]); ((refine WalkL.take 9 _ ?_ (by simp only [List.getElem?_toArray, List.getElem?_cons_succ, List.getElem?_cons_zero]; rfl) (by kernel_rfl) (by kernel_rfl) (by kernel_rfl) (by rfl) (fun W hW => ?_) ?_; rotate_left; · (go_simp; try with_reducible rfl)); simp only [Act.put, List.setIfInBounds_toArray, List.set_cons_zero, List.set_cons_succ])
        refine WalkL.one 10 (by kernel_rfl) ?_
        refine ⟨_, (by simp only [List.getElem?_toArray, List.getElem?_cons_succ, List.getElem?_cons_zero]; rfl), by rfl, fun K hK => ?_⟩
        go_simp
        refine HCP.out.mono ?_
        unfold rV
        rintro e w5 ⟨v5, rfl, hat5, hb5⟩
        have hk5 : Kept (fun b => b < wd.heap.size ∧ Value.ownBlock (.slice aov kv cv) ≠ some b) wd w5 := Below.kept hb5 fun b hb => hb.1
        refine hK.out _ _ hk5 ?_
        clear hK
        obtain ⟨ao5, c5, rfl, -, -, -⟩ := hat5.rows
        have HB5 := Lib.hid (HBd.out.keep (Below.kept hb5 fun b hb => hb.1) (hb5.block _ HBd.out.box.lt))
        have HX5 := Lib.hid (show Ext w w5 from HXd.out.trans hb5)
        have HE5 := Lib.hid (show Below (w.heap.size + 1 + 1 + 1) wb w5 from HEd.out.trans (Below.mono hb5 (by have := HZd.out; omega)))
        have HAT := Lib.hid hat5
        have HZ5 := Lib.hid (show wd.heap.size ≤ w5.heap.size from hb5.size)
        clear hat5 hb5 HCP
        ((refine WalkL.take 11 _ ?_ (by simp only [List.getElem?_toArray, List.getElem?_cons_succ, List.getElem?_cons_zero]; rfl) (by kernel_rfl) (by kernel_rfl) (by kernel_rfl) (by rfl) (fun W hW => ?_) ?_; rotate_left; · (go_simp; try with_reducible rfl)); simp only [Act.put, List.setIfInBounds_toArray, List.set_cons_zero, List.set_cons_succ])
        refine WalkL.one 12 (by kernel_rfl) ?_
        refine ⟨_, (by simp only [List.getElem?_toArray, List.getElem?_cons_succ, List.getElem?_cons_zero]; rfl), by rfl, fun K hK => ?_⟩
        go_simp
        have X6 := Lib.hid (Ext.alloc w5 (.cells #[.string nm, .int .i64 r5.k, .string r5.a, .string r5.b, .slice ao5 r5.ps.length c5] 82))
        have hk6 := hk5.trans (Below.kept X6.out fun b (hb : b < wd.heap.size ∧ Value.ownBlock (.slice aov kv cv) ≠ some b) => Nat.lt_of_lt_of_le hb.1 HZ5.out)
        refine hK.out _ _ hk6 ?_
        clear hK
        refine WalkL.one 13 (by kernel_rfl) ?_
        refine ⟨_, (by simp only [List.getElem?_toArray, List.getElem?_cons_succ, List.getElem?_cons_zero]; rfl), by rfl, fun K hK => ?_⟩
        refine wp_ownw relsElT (.tmp 30) (.tmp 41) rfl rfl (HB5.out.row.below X6.out) rfl (m := 1) (news := [.string nm, .int .i64 r5.k, .string r5.a, .string r5.b, .slice ao5 r5.ps.length c5]) rfl (fun j u hu => ?_) (by simp [Value.oneCell']) (by have := HLQ.out; rw [flat_length relC_length]; simp; omega) (by have := HLQ.out; rw [flat_length relC_length]; simp; omega) (by have := HZd.out; have := HZ5.out; simp; omega) (fun v7 w7 hown7 hb7 hgr7 => ?_)
        · rw [Addr.add_lit, cell_of_row _ w5.heap.size (0 + j) #[.string nm, .int .i64 r5.k, .string r5.a, .string r5.b, .slice ao5 r5.ps.length c5] 82 (0, 0) (heap_alloc_new w5 _)]
          simpa using hu
        have hk57 : ∀ b, b < w5.heap.size → Value.ownBlock (.slice aov kv cv) ≠ some b → w7.heap[b]? = w5.heap[b]? := fun b h1 h2 => (hgr7.block b (Nat.lt_of_lt_of_le h1 X6.out.size) (fun e => h2 e.symm)).trans (X6.out.block b h1)
        have hz57 : w5.heap.size ≤ w7.heap.size := Nat.le_trans X6.out.size hgr7.size
        have hk57' : Kept (fun b => b < w5.heap.size ∧ Value.ownBlock (.slice aov kv cv) ≠ some b) w5 w7 := ⟨hgr7.os.trans X6.out.os, hgr7.tape.trans X6.out.tape, hgr7.output.trans X6.out.output, hz57, fun b hb => hk57 b hb.1 hb.2⟩
        have hk7 := hk5.trans (hk57'.mono fun b (hb : b < wd.heap.size ∧ Value.ownBlock (.slice aov kv cv) ≠ some b) => ⟨Nat.lt_of_lt_of_le hb.1 HZ5.out, hb.2⟩)
        refine hK.out _ _ hk7 ?_
        clear hK
        simp only [Act.put, List.setIfInBounds_toArray, List.set_cons_zero, List.set_cons_succ]
        have HADD := Lib.hid (HB5.out.add (n0 := wd.heap.size) (x := ((nm, r5), .slice ao5 r5.ps.length c5)) (Nat.lt_succ_self _) hk57 hz57 hown7 (fun g hg => (hb7 g hg).imp id (fun h => Nat.le_trans X6.out.size h)) HAT.out HZd.out (fun g hg => (HPd.out g hg).2))
        have HLOW := Lib.hid (show Below (w.heap.size + 1 + 1 + 1) wb (w7.setCell ⟨w.heap.size + 1 + 1 + 1, 1, none⟩ v7) from (HE5.out.trans (hk57'.below fun b hb => ⟨by have := HZd.out; have := HZ5.out; omega, fun e => by have := (HPd.out _ e).1; omega⟩)).setCell (Nat.le_refl _) _)
        have HLX := Lib.hid (show Below w.heap.size w (w7.setCell ⟨w.heap.size + 1 + 1 + 1, 1, none⟩ v7) from (Below.trans HX5.out (hk57'.below fun b (hb : b < w.heap.size) => ⟨by have := HZd.out; have := HZ5.out; omega, fun e => by have := (HPd.out _ e).1; omega⟩)).setCell (by show w.heap.size ≤ w.heap.size + 1 + 1 + 1; omega) _)
        have hrp7 : Blk w7 (w.heap.size + 1 + 1 + 1) #[.string tn, .slice aov kv cv] 49 := (hk57 _ HB5.out.box.lt (fun e => by have := (HPd.out _ e).1; omega)).trans HB5.out.box
        obtain ⟨ao7, k7, c7, rfl, -, -, -⟩ := hown7.sl.len
        have f7 := hrp7.free
        have g7 := hrp7.cells 1
        clear hk5 hk6 hk57 hz57 hk57' hown7 hb7 hgr7 hrp7 X6 hov
        ((refine WalkL.take 14 _ ?_ (by simp only [List.getElem?_toArray, List.getElem?_cons_succ, List.getElem?_cons_zero]; rfl) (by kernel_rfl) (by kernel_rfl) (by kernel_rfl) (by rfl) (fun W hW => ?_) ?_; rotate_left; · (go_simp; try with_reducible rfl)); simp only [Act.put, List.setIfInBounds_toArray, List.set_cons_zero, List.set_cons_succ])
        refine WalkL.last (by kernel_rfl) (by kernel_rfl) ?_
        refine ⟨_, (by simp only [List.getElem?_toArray, List.getElem?_cons_succ, List.getElem?_cons_zero]; rfl), by rfl, fun K hK => ?_⟩
        go_simp
        refine hK.out _ _ ?_
        clear hK hk7 f7 g7 HBd HXd HEd HPd HZd HB5 HX5 HE5 HAT HZ5
        generalize w7.setCell ⟨w.heap.size + 1 + 1 + 1, 1, none⟩ (.slice ao7 k7 c7) = w8 at *
        go_wp2_with fail

        go_roundw
        case rel => exact ⟨i + 1, _, _, by omega, by go_num, by rw [List.map_append, HQ.out, HFS.out, HFX.out]; rfl, HADD.out, HLOW.out, HLX.out⟩
        case measure => simp [intOf]; omega
      · have HFX := Lib.hid (show mrgF m (nm, rl) = none from by unfold mrgF; rw [hlk]; rfl)
        clear hk hlk
        go_wp2_with fail
        go_roundw
        case rel => exact ⟨i + 1, q, _, by omega, by go_num, by rw [HQ.out, HFS.out, HFX.out]; simp, HB2.out, HE2.out, HX2.out⟩
        case measure => simp [intOf]; omega
    · obtain rfl : i = l.length := by omega
      clear hxw
      have mb := (show Blk wr (w.heap.size + 1) #[.string un, .slice aom m.length cm] 49 from (HBE.out.block _ (by omega)).trans HB.out).cells
      rw [List.take_length] at HQ
      go_wp2_with fail
      clear mb
      go_loopw [48] (fun iv wr => ∃ (i : Nat) (q : List ((ByteArray × RT) × Value)) (ov : Value), i ≤ m.length ∧ iv = .int .i64 i ∧ q.map (·.1) = l.filterMap (mrgF m) ++ (m.take i).filter (fun r => (lookA l r.1).isNone) ∧ TyBox (w.heap.size + 1 + 1 + 1) (w.heap.size + 1 + 1 + 1 + 1) [.string tn] wr q ov ∧ Below (w.heap.size + 1 + 1 + 1) wb wr ∧ Ext w wr) (fun iv _ => m.length - (intOf iv).toNat)
      case atStart => exact ⟨0, q, _, by omega, rfl, by rw [HQ.out]; simp, HBX.out, HBE.out, HXW.out⟩
      case round =>
        obtain ⟨i, q, ov, hi, rfl, hq, hbx, hbe, hxw⟩ := hrel
        clear HQ HBX HBE HXW HPO HLQ
        have HQ := Lib.hid hq
        have HBX := Lib.hid hbx
        have HBE := Lib.hid hbe
        have HXW := Lib.hid hxw
        obtain ⟨aov, kv, cv, rfl, -, -, -⟩ := hbx.row.sl.len
        have HPO := Lib.hid (show ∀ g, Value.ownBlock (.slice aov kv cv) = some g → w.heap.size + 1 + 1 + 1 + 1 ≤ g ∧ g < wr.heap.size from hbx.row.block)
        have HLQ := Lib.hid (show q.length ≤ 4000000 from by
          have h1 := congrArg List.length hq
          rw [List.length_map, List.length_append] at h1
          have h2 := fm_len (mrgF m) l
          have h3 := List.length_filter_le (fun r : ByteArray × RT => (lookA l r.1).isNone) (m.take i)
          rw [List.length_take] at h3
          have := HLL.out
          omega)
        clear hq hbx hbe
        by_cases hlt : i < m.length
        · obtain ⟨bl, offl, rvl, haol, hbb, d0, d1, d2, d3, d4, hrtl⟩ := HRM.out i hlt
          have d0 := hxw.cell (a := ⟨bl, offl + i * 5, none⟩) d0
          have d1 := hxw.cell (a := ⟨bl, offl + i * 5 + 1, none⟩) d1
          have d2 := hxw.cell (a := ⟨bl, offl + i * 5 + 2, none⟩) d2
          have d3 := hxw.cell (a := ⟨bl, offl + i * 5 + 3, none⟩) d3
          have d4 := hxw.cell (a := ⟨bl, offl + i * 5 + 4, none⟩) d4
          have HFS := Lib.hid (fl_snoc (fun r : ByteArray × RT => (lookA l r.1).isNone) hlt)
          have HRS0 := Lib.hid (HSZ.out _ (List.getElem_mem hlt))
          subst haol
          generalize m[i] = x at *
          obtain ⟨nm, r5⟩ := x
          dsimp only at d0 d1 d2 d3 d4 hrtl HRS0 HFS
          have HRS := HRS0
          clear HRS0
          obtain ⟨aor, cr, rfl, -, -, -⟩ := hrtl.rows
          obtain ⟨wp, hwp⟩ : ∃ x, x = wr.alloc (.cells #[.string nm, .int .i64 r5.k, .string r5.a, .string r5.b, .slice aor r5.ps.length cr] 82) := ⟨_, rfl⟩
          have xp : Ext wr wp := by rw [hwp]; exact Ext.alloc _ _
          have hpb : Blk wp wr.heap.size #[.string nm, .int .i64 r5.k, .string r5.a, .string r5.b, .slice aor r5.ps.length cr] 82 := by rw [hwp]; exact Blk.made _ _ _
          have HPB0 := Lib.hid hpb
          have pb := hpb.cells
          have HXP := Lib.hid (show Ext w wp from hxw.trans xp)
          have HBP := Lib.hid (HBX.out.keep (Below.kept xp fun b hb => hb.1) (xp.block _ HBX.out.box.lt))
          have HEP := Lib.hid (show Below (w.heap.size + 1 + 1 + 1) wb wp from HBE.out.trans (Below.mono xp (by have := HBX.out.box.lt; omega)))
          have HIX := Lib.hid (relIdx_any l _ tn nm wp (HL.out.up HXP.out))
          have ab := (show Blk wp w.heap.size #[.string tn, .slice aol l.length cl] 49 from (HEP.out.block _ (by omega)).trans HA.out).cells
          have hrt := hrtl
          have HRT := Lib.hid hrtl
          clear hxw hrtl xp hpb HBX HBE HXW hrt
          subst hwp
          go_wp2_with fail
          refine HIX.out.mono ?_
          rintro e w2 ⟨k, rfl, hk, hb2⟩
          have HPB := Lib.hid (HPB0.out.below hb2).cells
          have pb2 := HPB.out
          have HB2 := Lib.hid (HBP.out.keep (Below.kept hb2 fun b hb => hb.1) (hb2.block _ HBP.out.box.lt))
          have HX2 := Lib.hid (show Ext w w2 from HXP.out.trans hb2)
          have HE2 := Lib.hid (show Below (w.heap.size + 1 + 1 + 1) wb w2 from HEP.out.trans (Below.mono hb2 (by have := HBP.out.box.lt; omega)))
          have HP2 := Lib.hid (show (∀ g, Value.ownBlock (.slice aov kv cv) = some g → g < wr.heap.size) ∧ True ∧ wr.heap.size < w2.heap.size from ⟨fun g e => (HPO.out g e).2, trivial, (HPB0.out.below hb2).lt⟩)
          generalize wr.alloc (.cells #[.string nm, .int .i64 r5.k, .string r5.a, .string r5.b, .slice aor r5.ps.length cr] 82) = wp at *
          clear HIX HBP HEP HXP HPB0 hb2 pb ab d0 d1 d2 d3 d4
          rcases idx_look HN.out.1 hk with ⟨j, hj, rfl, hlk⟩ | ⟨rfl, hlk⟩
          · have HFX := Lib.hid (show ¬ ((lookA l nm).isNone = true) from by rw [hlk]; simp)
            have hge : ¬ ((j : Int) < 0) := by omega
            clear hk hlk pb2
            go_wp2_with fail
            go_roundw
            case rel => exact ⟨i + 1, q, _, by omega, by go_num, by rw [HQ.out, HFS.out, if_neg HFX.out, List.append_nil], HB2.out, HE2.out, HX2.out⟩
            case measure => simp [intOf]; omega
          · have HFX := Lib.hid (show (lookA l nm).isNone = true from by rw [hlk]; rfl)
            have hrt := HRT.out
            clear hk hlk pb2
            go_wp2_with fail
            obtain ⟨wd, hwd⟩ : ∃ wd, wd = w2.drew := ⟨_, rfl⟩
            have X2d : Ext w2 wd := by rw [hwd]; exact Ext.drew w2
            have HBd := Lib.hid (HB2.out.keep (Below.kept X2d fun b hb => hb.1) (X2d.block _ HB2.out.box.lt))
            have HXd := Lib.hid (show Ext w wd from HX2.out.trans X2d)
            have HEd := Lib.hid (show Below (w.heap.size + 1 + 1 + 1) wb wd from HE2.out.trans (Below.mono X2d (by have := HB2.out.box.lt; omega)))
            have HPd := Lib.hid (show ∀ g, Value.ownBlock (.slice aov kv cv) = some g → w.heap.size + 1 + 1 + 1 + 1 ≤ g ∧ g < wd.heap.size from HBd.out.row.block)
            have HZd := Lib.hid (show w.heap.size + 1 + 1 + 1 + 1 ≤ wd.heap.size from HBd.out.box.lt)
            have HD2 := Lib.hid (show w2.heap.size ≤ wd.heap.size from X2d.size)
            have HCP := Lib.hid (copied_any r5 (.slice aor r5.ps.length cr) wd (hrt.up HXd.out) HRS.out)
            refine region_walkL 11 (Kept (fun b => b < wd.heap.size ∧ Value.ownBlock (.slice aov kv cv) ≠ some b) wd) (by rw [← hwd]; exact Kept.refl _ _) (by kernel_rfl) (by kernel_rfl) (fun _ _ d _ _ h => by cases d <;> exact h) ?_
            rw [← hwd]
            have hov : ∀ W, Kept (fun b => b < wd.heap.size ∧ Value.ownBlock (.slice aov kv cv) ≠ some b) wd W → W.cell? ⟨w.heap.size + 1 + 1 + 1, 1, none⟩ = some (.slice aov kv cv) := fun W h => Kept.cellq h ⟨HBd.out.box.lt, fun e => by have := (HPd.out _ e).1; dsimp only at this; omega⟩ (HBd.out.box.cells 1)
            have h80 : ∀ W, Kept (fun b => b < wd.heap.size ∧ Value.ownBlock (.slice aov kv cv) ≠ some b) wd W → W.cell? ⟨wr.heap.size, 0, none⟩ = some (.string nm) := fun W h => Kept.cellq h ⟨Nat.lt_of_lt_of_le HP2.out.2.2 HD2.out, fun e => by have := HP2.out.1 _ e; dsimp only at this; omega⟩ (X2d.cell (a := ⟨wr.heap.size, 0, none⟩) (HPB.out 0))
            have h81 : ∀ W, Kept (fun b => b < wd.heap.size ∧ Value.ownBlock (.slice aov kv cv) ≠ some b) wd W → W.cell? ⟨wr.heap.size, 1, none⟩ = some (.int .i64 r5.k) := fun W h => Kept.cellq h ⟨Nat.lt_of_lt_of_le HP2.out.2.2 HD2.out, fun e => by have := HP2.out.1 _ e; dsimp only at this; omega⟩ (X2d.cell (a := ⟨wr.heap.size, 1, none⟩) (HPB.out 1))
            have h82 : ∀ W, Kept (fun b => b < wd.heap.size ∧ Value.ownBlock (.slice aov kv cv) ≠ some b) wd W → W.cell? ⟨wr.heap.size, 2, none⟩ = some (.string r5.a) := fun W h => Kept.cellq h ⟨Nat.lt_of_lt_of_le HP2.out.2.2 HD2.out, fun e => by have := HP2.out.1 _ e; dsimp only at this; omega⟩ (X2d.cell (a := ⟨wr.heap.size, 2, none⟩) (HPB.out 2))
            have h83 : ∀ W, Kept (fun b => b < wd.heap.size ∧ Value.ownBlock (.slice aov kv cv) ≠ some b) wd W → W.cell? ⟨wr.heap.size, 3, none⟩ = some (.string r5.b) := fun W h => Kept.cellq h ⟨Nat.lt_of_lt_of_le HP2.out.2.2 HD2.out, fun e => by have := HP2.out.1 _ e; dsimp only at this; omega⟩ (X2d.cell (a := ⟨wr.heap.size, 3, none⟩) (HPB.out 3))
            have h84 : ∀ W, Kept (fun b => b < wd.heap.size ∧ Value.ownBlock (.slice aov kv cv) ≠ some b) wd W → W.cell? ⟨wr.heap.size, 4, none⟩ = some (.slice aor r5.ps.length cr) := fun W h => Kept.cellq h ⟨Nat.lt_of_lt_of_le HP2.out.2.2 HD2.out, fun e => by have := HP2.out.1 _ e; dsimp only at this; omega⟩ (X2d.cell (a := ⟨wr.heap.size, 4, none⟩) (HPB.out 4))

            clear hwd X2d
            ((refine WalkL.take 0 _ ?_ (by simp only [List.getElem?_toArray, List.getElem?_cons_zero]; rfl) (by kernel_rfl) (by kernel_rfl) (by kernel_rfl) (by rfl) (fun W hW => ?_) ?_; rotate_left; · (go_simp; try with_reducible rfl)); simp only [Act.put, List.setIfInBounds_toArray, List.set_cons_zero, List.set_cons_succ]); ((refine WalkL.take 1 _ ?_ (by simp only [List.getElem?_toArray, List.getElem?_cons_succ, List.getElem?_cons_zero]; rfl) (by kernel_rfl) (by kernel_rfl) (by kernel_rfl) (by rfl) (fun W hW => ?_) ?_; rotate_left; · (go_simp; try with_reducible rfl)); simp only [Act.put, List.setIfInBounds_toArray, List.set_cons_zero, List.set_cons_succ]); ((refine WalkL.take 2 _ ?_ (by simp only [List.getElem?_toArray, List.getElem?_cons_succ, List.getElem?_cons_zero]; rfl) (by kernel_rfl) (by kernel_rfl) (by kernel_rfl) (by rfl) (fun W hW => ?_) ?_; rotate_left; · (go_simp; try with_reducible rfl)); simp only [Act.put, List.setIfInBounds_toArray, List.set_cons_zero, List.set_cons_succ]); ((refine WalkL.take 3 _ ?_ (by simp only [List.getElem?_toArray, List.getElem?_cons_succ, List.getElem?_cons_zero]; rfl) (by kernel_rfl) (by kernel_rfl) (by kernel_rfl) (by rfl) (fun W hW => ?_) ?_; rotate_left; · (go_simp; try with_reducible rfl)); simp only [Act.put, List.setIfInBounds_toArray, List.set_cons_zero, List.set_cons_succ]); ((refine WalkL.take 4 _ ?_ (by simp only [List.getElem?_toArray, List.getElem?_cons_succ, List.getElem?_cons_zero]; rfl) (by kernel_rfl) (by kernel_rfl) (by kernel_rfl) (by rfl) (fun W hW => ?_) ?_; rotate_left; · (go_simp; try with_reducible rfl)); simp only [Act.put, List.setIfInBounds_toArray, List.set_cons_zero, List.set_cons_succ]); ((refine WalkL.take 5 _ ?_ (by simp only [List.getElem?_toArray, List.getElem?_cons_succ, List.getElem?_cons_zero]; rfl) (by kernel_rfl) (by kernel_rfl) (by kernel_rfl) (by rfl) (fun W hW => ?_) ?_; rotate_left; · (go_simp; try with_reducible rfl)); simp only [Act.put, List.setIfInBounds_toArray, List.set_cons_zero, List.set_cons_succ])
            refine WalkL.one 6 (by kernel_rfl) ?_
            refine ⟨_, (by simp only [List.getElem?_toArray, List.getElem?_cons_succ, List.getElem?_cons_zero]; rfl), by rfl, fun K hK => ?_⟩
            go_simp
            refine HCP.out.mono ?_
            unfold rV
            rintro e w5 ⟨v5, rfl, hat5, hb5⟩
            have hk5 : Kept (fun b => b < wd.heap.size ∧ Value.ownBlock (.slice aov kv cv) ≠ some b) wd w5 := Below.kept hb5 fun b hb => hb.1
            refine hK.out _ _ hk5 ?_
            clear hK
            obtain ⟨ao5, c5, rfl, -, -, -⟩ := hat5.rows
            have HB5 := Lib.hid (HBd.out.keep (Below.kept hb5 fun b hb => hb.1) (hb5.block _ HBd.out.box.lt))
            have HX5 := Lib.hid (show Ext w w5 from HXd.out.trans hb5)
            have HE5 := Lib.hid (show Below (w.heap.size + 1 + 1 + 1) wb w5 from HEd.out.trans (Below.mono hb5 (by have := HZd.out; omega)))
            have HAT := Lib.hid hat5
            have HZ5 := Lib.hid (show wd.heap.size ≤ w5.heap.size from hb5.size)
            clear hat5 hb5 HCP
            ((refine WalkL.take 7 _ ?_ (by simp only [List.getElem?_toArray, List.getElem?_cons_succ, List.getElem?_cons_zero]; rfl) (by kernel_rfl) (by kernel_rfl) (by kernel_rfl) (by rfl) (fun W hW => ?_) ?_; rotate_left; · (go_simp; try with_reducible rfl)); simp only [Act.put, List.setIfInBounds_toArray, List.set_cons_zero, List.set_cons_succ])
            refine WalkL.one 8 (by kernel_rfl) ?_
            refine ⟨_, (by simp only [List.getElem?_toArray, List.getElem?_cons_succ, List.getElem?_cons_zero]; rfl), by rfl, fun K hK => ?_⟩
            go_simp
            have X6 := Lib.hid (Ext.alloc w5 (.cells #[.string nm, .int .i64 r5.k, .string r5.a, .string r5.b, .slice ao5 r5.ps.length c5] 82))
            have hk6 := hk5.trans (Below.kept X6.out fun b (hb : b < wd.heap.size ∧ Value.ownBlock (.slice aov kv cv) ≠ some b) => Nat.lt_of_lt_of_le hb.1 HZ5.out)
            refine hK.out _ _ hk6 ?_
            clear hK
            refine WalkL.one 9 (by kernel_rfl) ?_
            refine ⟨_, (by simp only [List.getElem?_toArray, List.getElem?_cons_succ, List.getElem?_cons_zero]; rfl), by rfl, fun K hK => ?_⟩
            refine wp_ownw relsElT (.tmp 59) (.tmp 66) rfl rfl (HB5.out.row.below X6.out) rfl (m := 1) (news := [.string nm, .int .i64 r5.k, .string r5.a, .string r5.b, .slice ao5 r5.ps.length c5]) rfl (fun j u hu => ?_) (by simp [Value.oneCell']) (by have := HLQ.out; rw [flat_length relC_length]; simp; omega) (by have := HLQ.out; rw [flat_length relC_length]; simp; omega) (by have := HZd.out; have := HZ5.out; simp; omega) (fun v7 w7 hown7 hb7 hgr7 => ?_)
            · rw [Addr.add_lit, cell_of_row _ w5.heap.size (0 + j) #[.string nm, .int .i64 r5.k, .string r5.a, .string r5.b, .slice ao5 r5.ps.length c5] 82 (0, 0) (heap_alloc_new w5 _)]
              simpa using hu
            have hk57 : ∀ b, b < w5.heap.size → Value.ownBlock (.slice aov kv cv) ≠ some b → w7.heap[b]? = w5.heap[b]? := fun b h1 h2 => (hgr7.block b (Nat.lt_of_lt_of_le h1 X6.out.size) (fun e => h2 e.symm)).trans (X6.out.block b h1)
            have hz57 : w5.heap.size ≤ w7.heap.size := Nat.le_trans X6.out.size hgr7.size
            have hk57' : Kept (fun b => b < w5.heap.size ∧ Value.ownBlock (.slice aov kv cv) ≠ some b) w5 w7 := ⟨hgr7.os.trans X6.out.os, hgr7.tape.trans X6.out.tape, hgr7.output.trans X6.out.output, hz57, fun b hb => hk57 b hb.1 hb.2⟩
            have hk7 := hk5.trans (hk57'.mono fun b (hb : b < wd.heap.size ∧ Value.ownBlock (.slice aov kv cv) ≠ some b) => ⟨Nat.lt_of_lt_of_le hb.1 HZ5.out, hb.2⟩)
            refine hK.out _ _ hk7 ?_
            clear hK
            simp only [Act.put, List.setIfInBounds_toArray, List.set_cons_zero, List.set_cons_succ]
            have HADD := Lib.hid (HB5.out.add (n0 := wd.heap.size) (x := ((nm, r5), .slice ao5 r5.ps.length c5)) (Nat.lt_succ_self _) hk57 hz57 hown7 (fun g hg => (hb7 g hg).imp id (fun h => Nat.le_trans X6.out.size h)) HAT.out HZd.out (fun g hg => (HPd.out g hg).2))
            have HLOW := Lib.hid (show Below (w.heap.size + 1 + 1 + 1) wb (w7.setCell ⟨w.heap.size + 1 + 1 + 1, 1, none⟩ v7) from (HE5.out.trans (hk57'.below fun b hb => ⟨by have := HZd.out; have := HZ5.out; omega, fun e => by have := (HPd.out _ e).1; omega⟩)).setCell (Nat.le_refl _) _)
            have HLX := Lib.hid (show Below w.heap.size w (w7.setCell ⟨w.heap.size + 1 + 1 + 1, 1, none⟩ v7) from (Below.trans HX5.out (hk57'.below fun b (hb : b < w.heap.size) => ⟨by have := HZd.out; have := HZ5.out; omega, fun e => by have := (HPd.out _ e).1; omega⟩)).setCell (by show w.heap.size ≤ w.heap.size + 1 + 1 + 1; omega) _)
            have hrp7 : Blk w7 (w.heap.size + 1 + 1 + 1) #[.string tn, .slice aov kv cv] 49 := (hk57 _ HB5.out.box.lt (fun e => by have := (HPd.out _ e).1; omega)).trans HB5.out.box
            obtain ⟨ao7, k7, c7, rfl, -, -, -⟩ := hown7.sl.len
            have f7 := hrp7.free
            have g7 := hrp7.cells 1
            clear hk5 hk6 hk57 hz57 hk57' hown7 hb7 hgr7 hrp7 X6 hov
            ((refine WalkL.take 10 _ ?_ (by simp only [List.getElem?_toArray, List.getElem?_cons_succ, List.getElem?_cons_zero]; rfl) (by kernel_rfl) (by kernel_rfl) (by kernel_rfl) (by rfl) (fun W hW => ?_) ?_; rotate_left; · (go_simp; try with_reducible rfl)); simp only [Act.put, List.setIfInBounds_toArray, List.set_cons_zero, List.set_cons_succ])
            refine WalkL.last (by kernel_rfl) (by kernel_rfl) ?_
            refine ⟨_, (by simp only [List.getElem?_toArray, List.getElem?_cons_succ, List.getElem?_cons_zero]; rfl), by rfl, fun K hK => ?_⟩
            go_simp
            refine hK.out _ _ ?_
            clear hK hk7 f7 g7 HBd HXd HEd HPd HZd HB5 HX5 HE5 HAT HZ5
            generalize w7.setCell ⟨w.heap.size + 1 + 1 + 1, 1, none⟩ (.slice ao7 k7 c7) = w8 at *
            go_wp2_with fail

            go_roundw
            case rel => exact ⟨i + 1, _, _, by omega, by go_num, by rw [List.map_append, HQ.out, HFS.out, if_pos HFX.out, List.append_assoc]; rfl, HADD.out, HLOW.out, HLX.out⟩
            case measure => simp [intOf]; omega
        · obtain rfl : i = m.length := by omega
          clear hxw
          rw [List.take_length] at HQ
          have ob := HBX.out.box.cells
          have hrb : Blk wr (w.heap.size + 1 + 1) #[.string ⟨#[]⟩, .slice none 0 0] 49 := (HBE.out.block _ (by omega)).trans HR.out
          have HRB := Lib.hid hrb
          have rb := hrb.cells
          have rf := hrb.free
          clear hrb
          go_wp2_with fail
          clear ob rb rf
          have hks : Kept (fun b => b ≠ w.heap.size + 1 + 1) wr ((wr.setCell ⟨w.heap.size + 1 + 1, 0, none⟩ (.string tn)).setCell ⟨w.heap.size + 1 + 1, 1, none⟩ (.slice aov kv cv)) := ((Kept.refl _ wr).set (a := ⟨w.heap.size + 1 + 1, 0, none⟩) (fun h => h rfl) _).set (a := ⟨w.heap.size + 1 + 1, 1, none⟩) (fun h => h rfl) _
          refine bodyPost_ret (results_cell_row rfl _ _ (w.heap.size + 1 + 1) 49 #[.string tn, .slice aov kv cv] (0, 0) _ rfl (HRB.out.set2 _ _) Try.underlying49 rfl (by kernel_rfl)) rfl ?_
          refine ⟨.slice aov kv cv, rfl, ⟨q, HQ.out, fun x hx => ?_, ?_⟩, Below.trans HXW.out (hks.below fun b (hb : b < w.heap.size) => (by show b ≠ w.heap.size + 1 + 1; omega))⟩
          · exact (ElR.mono (ElR.same (HBX.out.parts x hx) fun b hb => hks.block b (by have := hb.1.1; show b ≠ w.heap.size + 1 + 1; omega)) fun b hb => ⟨by have := hb.1.1; omega, Nat.lt_of_lt_of_le hb.1.2 hks.size⟩)
          · exact (HBX.out.row.sl.same fun b hb => hks.block b (by have := hb.1; show b ≠ w.heap.size + 1 + 1; omega)).mono fun b hb => ⟨by have := hb.1; omega, Nat.lt_of_lt_of_le hb.2 hks.size⟩

end Go.Proofs.Ytipddhcfcehcaaa
