/- The tape's schemas may be; a closure has rules only. The walk of RulesClose. No condition: lemmas. -/
import Derived.Test.YtfhonficpccegaaZ43
import Derived.Test.YtfhonficpccegaaZ31
namespace Go.Proofs.Ytfhonficpccegaa
open Go Go.RowKit Go.Maps

theorem rel_own : ∀ n ∈ relNs, ownB n = true ∧ n ≠ (⟨#[116, 121, 112, 101]⟩ : ByteArray) ∧ n.size ≤ 6 := by
  intro n hn
  have h : (relNs.all fun n => ownB n && decide (n ≠ (⟨#[116, 121, 112, 101]⟩ : ByteArray)) && decide (n.size ≤ 6)) = true := by kernel_rfl
  have := List.all_eq_true.1 h n hn
  simp only [Bool.and_eq_true, decide_eq_true_eq] at this
  exact ⟨this.1.1, this.1.2, this.2⟩
theorem ty_own : ∀ n ∈ tyNs, ownB n = true ∧ n.size ≤ 6 := by
  intro n hn
  have h : (tyNs.all fun n => ownB n && decide (n.size ≤ 6)) = true := by kernel_rfl
  have := List.all_eq_true.1 h n hn
  simp only [Bool.and_eq_true, decide_eq_true_eq] at this
  exact this
theorem rel_nodup : relNs.Nodup := of_decide_eq_true (by kernel_rfl)
theorem ty_nodup : tyNs.Nodup := of_decide_eq_true (by kernel_rfl)
/-- What the plain laws want of a rule. -/
structure FineR (ts : List TyS) (t : TyS) (d n m : Nat) (r : RT) : Prop where
  text : ∀ k, k + d ≤ 8 → r.textOk k = true
  sz : r.sz ≤ n
  bk : r.bk ≤ m
  ok : r.Ok
  named : r.named ts t = true
theorem sumN_le {α : Type} (f : α → Nat) (D : Nat) : ∀ l : List α, (∀ x ∈ l, f x ≤ D) → sumN f l ≤ l.length * D
  | [], _ => by simp [sumN]
  | a :: l, h => by
    rw [sumN, List.length_cons, Nat.add_mul, Nat.one_mul]
    have := sumN_le f D l fun x hx => h x (List.mem_cons_of_mem _ hx)
    have := h a List.mem_cons_self
    omega
theorem szL_sum (l : List RT) : szL l = sumN RT.sz l := by
  induction l with
  | nil => rfl
  | cons x l ih => rw [szL, sumN, ih]
theorem FineR.leaf {ts : List TyS} {t : TyS} {own : List ByteArray} (hs : ∀ n ∈ own, n ∈ relNs) (hh : ∀ n ∈ own, hasT t n = true) (ha : ∀ n ∈ relNs.take 2, anyT ts n = true) (d : Nat) {r : RT} (h : LeafR own r) : FineR ts t d 1 17 r := by
  have h0 : (⟨#[]⟩ : ByteArray).size = 0 := rfl
  rcases h with rfl | ⟨a, h1, rfl⟩ | ⟨a, h1, b, h2, rfl⟩
  · refine ⟨fun k _ => ?_, ?_, ?_, ?_, ?_⟩
    · rw [RT.textOk]; rfl
    · rw [RT.sz]; simp [szL]
    · rw [RT.bk, bkL, h0]; omega
    · rw [RT.Ok, okL, h0]; exact ⟨by omega, by omega, by omega, trivial⟩
    · rw [RT.named]; simp [namedL, headOk]
  · obtain ⟨o1, o2, o3⟩ := rel_own a (hs a h1)
    refine ⟨fun k _ => ?_, ?_, ?_, ?_, ?_⟩
    · rw [RT.textOk, if_neg (by decide), if_pos rfl, o1]; rfl
    · rw [RT.sz]; simp [szL]
    · rw [RT.bk, bkL, h0]; omega
    · rw [RT.Ok, okL, h0]; exact ⟨by omega, by omega, by omega, trivial⟩
    · rw [RT.named]; simp [namedL, headOk, hh a h1]
  · obtain ⟨o1, o2, o3⟩ := rel_own a (hs a h1)
    obtain ⟨p1, p2, p3⟩ := rel_own b (List.take_subset 2 relNs h2)
    refine ⟨fun k _ => ?_, ?_, ?_, ?_, ?_⟩
    · rw [RT.textOk, if_neg (by decide), if_neg (by decide), if_pos rfl, o1, p1]; rfl
    · rw [RT.sz]; simp [szL]
    · rw [RT.bk, bkL]; omega
    · rw [RT.Ok, okL]; exact ⟨by omega, by omega, by omega, trivial⟩
    · rw [RT.named]; simp [namedL, headOk, hh a h1, ha b h2]
theorem FineR.group {ts : List TyS} {t : TyS} {d n m : Nat} {k : Int} (hk : k = 4 ∨ k = 5) {ps : List RT} (hl : 2 ≤ ps.length ∧ ps.length ≤ 3) (h : ∀ p ∈ ps, FineR ts t d n m p ∧ p.k ≠ k) : FineR ts t (d + 1) (1 + 3 * n) (5 + 3 * m) (.mk k ⟨#[]⟩ ⟨#[]⟩ ps) := by
  refine ⟨fun j hj => ?_, ?_, ?_, ?_, ?_⟩
  · rw [RT.textOk, if_neg (by omega), if_neg (by omega), if_neg (by omega), if_pos hk, decide_eq_true hl.1, textL_eq]
    have : ps.all (goodP k j) = true := List.all_eq_true.2 fun p hp => by
      have hi : innerD k p.k j ≤ j + 1 := by unfold innerD; split <;> omega
      unfold goodP
      rw [decide_eq_true (h p hp).2, decide_eq_true (show innerD k p.k j ≤ 8 by omega), (h p hp).1.text _ (by omega)]
      rfl
    rw [this]
    rfl
  · rw [RT.sz, szL_sum]
    have := sumN_le RT.sz n ps fun p hp => (h p hp).1.sz
    have := Nat.mul_le_mul_right n hl.2
    omega
  · rw [RT.bk, bkL_sum]
    have := sumN_le RT.bk m ps fun p hp => (h p hp).1.bk
    have := Nat.mul_le_mul_right m hl.2
    have h0 : (⟨#[]⟩ : ByteArray).size = 0 := rfl
    omega
  · rw [RT.Ok]
    have h0 : (⟨#[]⟩ : ByteArray).size = 0 := rfl
    exact ⟨by omega, by omega, by omega, okL_mem.2 fun p hp => (h p hp).1.ok⟩
  · rw [RT.named, namedL_eq]
    have h1 : headOk ts t k ⟨#[]⟩ ⟨#[]⟩ = true := by
      unfold headOk
      rcases hk with rfl | rfl <;> rfl
    rw [h1, Bool.true_and]
    exact List.all_eq_true.2 fun p hp => (h p hp).1.named
theorem FineR.mono {ts : List TyS} {t : TyS} {d n m d' n' m' : Nat} {r : RT} (h : FineR ts t d n m r) (hd : d ≤ d') (hn : n ≤ n') (hm : m ≤ m') : FineR ts t d' n' m' r := ⟨fun k hk => h.text k (by omega), Nat.le_trans h.sz hn, Nat.le_trans h.bk hm, h.ok, h.named⟩
theorem GoodR.zero {own : List ByteArray} {r : RT} : GoodR own 0 r ↔ LeafR own r := Iff.rfl
section
variable {ts : List TyS} {t : TyS} {own : List ByteArray} (hs : ∀ n ∈ own, n ∈ relNs) (hh : ∀ n ∈ own, hasT t n = true) (ha : ∀ n ∈ relNs.take 2, anyT ts n = true)
include hs hh ha
theorem GoodR.fine0 {r : RT} (h : GoodR own 0 r) : FineR ts t 0 1 17 r := FineR.leaf hs hh ha 0 h
theorem GoodR.fine1 {r : RT} (h : GoodR own 1 r) : FineR ts t 1 4 56 r := by
  rcases h with h | ⟨k, ps, rfl, hk, hl, hp⟩
  · exact (FineR.leaf hs hh ha 1 h).mono (by omega) (by omega) (by omega)
  · exact (FineR.group hk (by omega) fun p hx => ⟨GoodR.fine0 hs hh ha (hp p hx).1, (hp p hx).2⟩).mono (by omega) (by omega) (by omega)
theorem GoodR.fine2 {r : RT} (h : GoodR own 2 r) : FineR ts t 2 13 173 r := by
  rcases h with h | ⟨k, ps, rfl, hk, hl, hp⟩
  · exact (FineR.leaf hs hh ha 2 h).mono (by omega) (by omega) (by omega)
  · exact (FineR.group hk (by omega) fun p hx => ⟨GoodR.fine1 hs hh ha (hp p hx).1, (hp p hx).2⟩).mono (by omega) (by omega) (by omega)
theorem TopR.fine {r : RT} (h : TopR own r) : FineR ts t 3 32 524 r ∧ r.sz ≤ 15 := by
  rcases h with h | ⟨r0, h0, hk, rfl⟩
  · have := GoodR.fine2 hs hh ha h
    exact ⟨this.mono (by omega) (by omega) (by omega), Nat.le_trans this.sz (by omega)⟩
  · have h2 := GoodR.fine2 hs hh ha h0
    have h1 := (FineR.leaf hs hh ha 2 (r := .mk 1 ⟨#[]⟩ ⟨#[]⟩ []) (.inl rfl))
    have hsz : (RT.mk 4 ⟨#[]⟩ ⟨#[]⟩ [.mk 1 ⟨#[]⟩ ⟨#[]⟩ [], r0]).sz ≤ 15 := by
      rw [RT.sz, szL, szL, szL]
      have := h1.sz
      have := h2.sz
      omega
    have := FineR.group (ts := ts) (t := t) (k := 4) (.inl rfl) (ps := [.mk 1 ⟨#[]⟩ ⟨#[]⟩ [], r0]) (by simp) (d := 2) (n := 13) (m := 173) fun p hp => by
      simp only [List.mem_cons, List.not_mem_nil, or_false] at hp
      rcases hp with rfl | rfl
      · exact ⟨h1.mono (by omega) (by omega) (by omega), by simp [RT.k]⟩
      · exact ⟨h2, hk⟩
    exact ⟨⟨this.text, Nat.le_trans hsz (by omega), Nat.le_trans this.bk (by omega), this.ok, this.named⟩, hsz⟩
end
/-- What the plain laws want of a schema. -/
structure FineS (ts : List TyS) : Prop where
  chk : chk06 ts = 0
  ok : ∀ t ∈ ts, t.Ok
  bk : schBk ts ≤ 10000
  two : 2 ≤ ts.length ∧ ts.length ≤ 3
  rels : ∀ t ∈ ts, 2 ≤ t.rels.length ∧ t.rels.length ≤ 4
theorem GoodS.fine {ts : List TyS} (h : GoodS ts) : FineS ts := by
  obtain ⟨hl, hn, hg⟩ := h
  have hany : ∀ n ∈ relNs.take 2, anyT ts n = true := fun n hn2 => by
    have h0 : 0 < ts.length := by omega
    obtain ⟨m, hm2, hm4, hr, _⟩ := hg ts[0] (List.getElem_mem h0)
    refine List.any_eq_true.2 ⟨ts[0], List.getElem_mem h0, ?_⟩
    have : n ∈ ts[0].rels.map (·.1) := by
      rw [hr]
      exact List.take_subset_take_left relNs hm2 hn2
    obtain ⟨x, hx, rfl⟩ := List.mem_map.1 this
    exact List.any_eq_true.2 ⟨x, hx, decide_eq_true rfl⟩
  have hfine : ∀ t ∈ ts, (∀ n ∈ t.rels.map (·.1), n ∈ relNs) ∧ (t.rels.map (·.1)).Nodup ∧ (2 ≤ t.rels.length ∧ t.rels.length ≤ 4) ∧ ∀ r ∈ t.rels, FineR ts t 3 32 524 r.2 ∧ r.2.sz ≤ 15 := fun t ht => by
    obtain ⟨m, hm2, hm4, hr, hp⟩ := hg t ht
    have hlen : t.rels.length = m := by
      have := congrArg List.length hr
      rw [List.length_map, List.length_take] at this
      have h4 : relNs.length = 4 := rfl
      omega
    refine ⟨fun n hn => by rw [hr] at hn; exact List.take_subset m relNs hn, by rw [hr]; exact rel_nodup.sublist (List.take_sublist m relNs), by omega, fun r hr' => ?_⟩
    refine TopR.fine (own := relNs.take m) (fun n hn => List.take_subset m relNs hn) (fun n hn => ?_) hany (hp r hr')
    rw [← hr] at hn
    obtain ⟨x, hx, rfl⟩ := List.mem_map.1 hn
    exact List.any_eq_true.2 ⟨x, hx, decide_eq_true rfl⟩
  have hnm : ∀ t ∈ ts, ownB t.name = true ∧ t.name.size ≤ 6 := fun t ht => ty_own _ (by
    have : t.name ∈ ts.map (·.name) := List.mem_map_of_mem ht
    rw [hn] at this
    exact List.take_subset _ _ this)
  have hrn : ∀ t ∈ ts, ∀ r ∈ t.rels, ownB r.1 = true ∧ r.1 ≠ (⟨#[116, 121, 112, 101]⟩ : ByteArray) ∧ r.1.size ≤ 6 := fun t ht r hr => rel_own _ ((hfine t ht).1 _ (List.mem_map_of_mem hr))
  have hprint : printOk ts = true := List.all_eq_true.2 fun t ht => by
    unfold tyOk
    rw [(hnm t ht).1, Bool.true_and]
    refine List.all_eq_true.2 fun r hr => ?_
    unfold relOk
    rw [((hfine t ht).2.2.2 r hr).1.text 0 (by omega), (hrn t ht r hr).1, decide_eq_true (hrn t ht r hr).2.1]
    rfl
  have hlong : longOk ts = true := by
    unfold longOk
    rw [decide_eq_true (show ts.length ≤ 16 by omega), Bool.true_and]
    refine List.all_eq_true.2 fun t ht => ?_
    unfold tyLong
    rw [decide_eq_true (show t.rels.length ≤ 16 by have := (hfine t ht).2.2.1.2; omega), Bool.true_and]
    exact List.all_eq_true.2 fun r hr => decide_eq_true ((hfine t ht).2.2.2 r hr).1.sz
  have huniq : uniqOk ts = true := by
    unfold uniqOk
    rw [hn, decide_eq_true (ty_nodup.sublist (List.take_sublist _ _)), Bool.true_and]
    exact List.all_eq_true.2 fun t ht => decide_eq_true (hfine t ht).2.1
  have hnames : namesOk ts = true := by
    unfold namesOk
    exact List.all_eq_true.2 fun t ht => List.all_eq_true.2 fun r hr => ((hfine t ht).2.2.2 r hr).1.named
  refine ⟨by unfold chk06; rw [hprint, hlong, huniq, hnames]; rfl, fun t ht => ⟨by have := (hnm t ht).2; omega, fun r hr => ⟨by have := (hrn t ht r hr).2.2; omega, ((hfine t ht).2.2.2 r hr).1.ok⟩⟩, ?_, by omega, fun t ht => (hfine t ht).2.2.1⟩
  unfold schBk
  have h1 := sumN_le tyBk 2136 ts fun t ht => by
    rw [tyBk_eq]
    have := sumN_le relBk 532 t.rels fun r hr => by
      rw [relBk_eq]
      have := (hrn t ht r hr).2.2
      have := ((hfine t ht).2.2.2 r hr).1.bk
      omega
    have := (hfine t ht).2.2.1.2
    have := (hnm t ht).2
    have := Nat.mul_le_mul_right 532 (hfine t ht).2.2.1.2
    omega
  have := Nat.mul_le_mul_right 2136 (show ts.length ≤ 3 by omega)
  omega

/-- What is named has a rule. -/
theorem has_look {ts : List TyS} {t : TyS} (ht : t ∈ ts) {a : ByteArray} (h : hasT t a = true) : (lookA (refsOf ts) ⟨t.name, a⟩).isSome = true := by
  obtain ⟨r, hr, he⟩ := List.any_eq_true.1 (show t.rels.any (fun r => decide (r.1 = a)) = true from h)
  have he := of_decide_eq_true he
  subst he
  obtain ⟨x, hx⟩ := look_refs (x := ⟨t.name, r.1⟩) (List.mem_map.2 ⟨_, refs_mem.2 ⟨t, ht, r, hr, rfl⟩, rfl⟩)
  rw [hx]
  rfl
theorem named_needs {ts : List TyS} {t : TyS} (ht : t ∈ ts) (r : RT) : r.named ts t = true → ∀ y ∈ r.pneeds (refsOf ts) t.name, (lookA (refsOf ts) y).isSome = true := by
  induction r using RT.ind with
  | h r ih =>
  obtain ⟨k, a, b, ps⟩ := r
  dsimp only [RT.ps] at ih
  intro h y hy
  rw [RT.named, Bool.and_eq_true, namedL_eq, List.all_eq_true] at h
  obtain ⟨h1, h2⟩ := h
  rw [RT.pneeds, List.mem_append, pneedsL_eq, List.mem_flatMap] at hy
  rcases hy with hy | ⟨p, hp, hy⟩
  · unfold headOk at h1
    by_cases k2 : k = 2
    · subst k2
      rw [if_pos rfl, List.mem_singleton] at hy
      subst hy
      exact has_look ht (by simpa using h1)
    · rw [if_neg k2] at hy
      by_cases k3 : k = 3
      · subst k3
        rw [if_pos rfl, List.mem_cons] at hy
        rcases hy with rfl | hy
        · exact has_look ht (by
            simp at h1
            exact h1.1)
        · obtain ⟨n, hn, rfl⟩ := List.mem_map.1 hy
          unfold whereP at hn
          obtain ⟨x, hx, rfl⟩ := List.mem_map.1 hn
          obtain ⟨hx1, hb⟩ := List.mem_filter.1 hx
          have hb := of_decide_eq_true hb
          subst hb
          obtain ⟨z, hz⟩ := look_refs (x := x.1) (List.mem_map.2 ⟨x, hx1, rfl⟩)
          rw [show (⟨x.1.t, x.1.r⟩ : R2) = x.1 from rfl, hz]
          rfl
      · rw [if_neg k3] at hy
        cases hy
  · exact ih p hp (h2 p hp) y hy
theorem chk_names {ts : List TyS} (h : chk06 ts = 0) : namesOk ts = true := by
  unfold chk06 at h
  split at h
  · split at h
    · split at h
      · split at h
        · assumption
        · cases h
      · cases h
    · cases h
  · cases h
theorem reach_look {ts : List TyS} (h : chk06 ts = 0) {r x : R2} (hr : (lookA (refsOf ts) r).isSome = true) (hx : ReachP ts r x) : (lookA (refsOf ts) x).isSome = true := by
  cases hx with
  | self => exact hr
  | step h1 h2 =>
    obtain ⟨rule, hl, hy⟩ := needs_univ h2
    obtain ⟨t, ht, q, hq, e⟩ := refs_mem.1 (look_mem hl)
    injection e with e1 e2
    subst e2
    rw [e1] at hy
    exact named_needs ht q.2 (List.all_eq_true.1 (List.all_eq_true.1 (chk_names h) t ht) q hq) _ hy

end Go.Proofs.Ytfhonficpccegaa
namespace Go.Proofs.Ytfhonficpccegaa
open Go Go.RowKit Go.Maps

theorem take_own (l : List R2) (y : R2) {k : Nat} (hk : k < l.length) : ∃ ob : Bool, decide (y ∈ l.take (k + 1)) = ob ∧ ((decide (y ∈ l.take k) = true ∧ ob = true) ∨ (decide (y ∈ l.take k) = false ∧ decide (l[k] = y) = ob)) := by
  refine ⟨_, rfl, ?_⟩
  by_cases h : y ∈ l.take k
  · exact .inl ⟨decide_eq_true h, decide_eq_true (by rw [List.take_succ_eq_append_getElem hk]; exact List.mem_append_left _ h)⟩
  · refine .inr ⟨decide_eq_false h, ?_⟩
    rw [List.take_succ_eq_append_getElem hk]
    simp only [List.mem_append, List.mem_singleton, h, false_or]
    exact decide_eq_decide.2 eq_comm
theorem Sl.small {S : Nat → Prop} {w : World} {v : Value} {l : List R2} (h : Sl S w 2 v (r2cs l)) : l.length ≤ 9223372036854775807 := by
  obtain ⟨ao, c, -, h1, h2, -⟩ := refs_rows h
  exact Nat.le_trans h1 h2

set_option maxRecDepth 100000 in
set_option maxHeartbeats 3000000 in
theorem closeLaw_any (l : List UInt8) (v : Value) (a : Nat) (ha : a < 256) (w : World) (h : Sl (· < w.heap.size) w 1 v (bc l)) : Calls Try.prog 7 #[v, .int .u8 a] w fun e w' => e = .returned (.bool true) ∧ Below w.heap.size w w' := by
  have HF := Lib.hid (fixed06_any w)
  have HSL := Lib.hid h
  have HA := Lib.hid ha
  obtain ⟨ao, ln, c, rfl, hln, -, hcm⟩ := h.len
  rw [bc_length, Nat.mul_one] at hln
  subst hln
  clear h ha
  go_enter Try.func7, Try.ntmps7
  go_wp2_with fail
  refine HF.out.mono ?_
  rintro e w1 ⟨rfl, hb1⟩
  have HB1 := Lib.hid hb1
  clear hb1 HF
  by_cases hlen : (300 : Int) < (l.length : Int)
  · go_wp2_with fail
    go_ret
    exact ⟨rfl, HB1.out⟩
  have hx12 := Ext.alloc w1 (.cells #[.slice ao l.length c, .int .i64 0] 56)
  have HT2 := Lib.hid (show Tp (w1.alloc (.cells #[.slice ao l.length c, .int .i64 0] 56)) w1.heap.size from ⟨_, l, 0, Nat.zero_le _, (HSL.out.same (Same.below (HB1.out.trans (hx12.mono HB1.out.size)))).mono fun b (hb : b < w.heap.size) => Nat.lt_of_lt_of_le hb HB1.out.size, Blk.made _ _ _⟩)
  have HMK := Lib.hid (mkSchema_any _ _ HT2.out)
  have HB2 := Lib.hid (show Below w.heap.size w _ from HB1.out.trans (hx12.mono HB1.out.size))
  clear hx12
  go_wp2_with fail
  refine HMK.out.mono ?_
  rintro e w3 ⟨ts, tv, rfl, hgs, hty, htp, hkt⟩
  have HFS := Lib.hid (GoodS.fine hgs)
  have HB3 := Lib.hid (show Below w.heap.size w w3 from HB2.out.trans (hkt.below fun b hb => ⟨Nat.lt_of_lt_of_le hb HB2.out.size, by have := HB1.out.size; omega⟩))
  have hty3 := hty.mono (S' := (· < w3.heap.size)) fun b hb => hb.2
  obtain ⟨aot, ct, rfl, htc, htcm, -⟩ := hty3.rows
  have x34 := Ext.alloc w3 (.cells #[.slice aot ts.length ct] 24)
  have HS4 := Lib.hid (Blk.made w3 #[.slice aot ts.length ct] 24)
  have HTY4 := Lib.hid (hty3.up x34)
  have HB4 := Lib.hid (HB3.out.trans (x34.mono HB3.out.size))
  have HTL := Lib.hid HFS.out.two
  clear hgs hty htp hkt hty3 x34 HMK HT2 HB2 HB1 HSL hlen
  go_wp2_with fail
  obtain ⟨w4, hw4⟩ : ∃ x, x = w3.alloc (.cells #[.slice aot ts.length ct] 24) := ⟨_, rfl⟩
  rw [← hw4] at HS4 HTY4 HB4 ⊢
  clear hw4
  generalize w3.heap.size = b5 at *
  obtain ⟨ao', c', hveq, -, -, htcell⟩ := HTY4.out.rows
  cases hveq
  have hi1l : a % ts.length < ts.length := Nat.mod_lt _ (by have := HTL.out; omega)
  have hmod : (a : Int).tmod (ts.length : Int) = ((a % ts.length : Nat) : Int) := by rw [Int.tmod_eq_emod_of_nonneg (by omega)]; simp
  obtain ⟨bb, off, rv, haot, hbb, c0, c1, hrl⟩ := htcell (a % ts.length) hi1l
  cases haot
  have HTM := Lib.hid (List.getElem_mem hi1l)
  have HRT := Lib.hid (fun k (hk : k < ts[a % ts.length].rels.length) => refs_at hi1l hk)
  generalize ts[a % ts.length] = t at *
  generalize a % ts.length = i1 at *
  obtain ⟨aor, cr, rfl, hrc, hrcm, -⟩ := hrl.rows
  have HRL := Lib.hid hrl
  have HN1 := Lib.hid (show ts.length ≤ 3 ∧ 2 ≤ ts.length from by have := HTL.out; omega)
  clear hrl htcell HTL
  have HSM := Lib.hid (show schBk ts ≤ 10000 ∧ chk06 ts = 0 ∧ (∀ t ∈ ts, t.Ok) from ⟨HFS.out.bk, HFS.out.chk, HFS.out.ok⟩)
  have HRN := Lib.hid (show 2 ≤ t.rels.length ∧ t.rels.length ≤ 4 from HFS.out.rels t HTM.out)
  generalize ts.length = n1 at *
  have haw : IntKind.i64.wrap (a : Int) = (a : Int) := IntWalk.i64_in _ (by have := HA.out; omega)
  have hn0 : ¬ n1 = 0 := by have := HN1.out; omega
  have hi1n : (i1 : Int) < (n1 : Int) := by omega
  have hi10 : (0 : Int) ≤ (i1 : Int) := by omega
  have hs : ∀ W, Ext w4 W → W.cell? ⟨b5, 0, none⟩ = some (.slice (some ⟨bb, off, none⟩) n1 ct) := fun W h => by rw [(HS4.out.below h).cells]; rfl
  have ht0 : ∀ W, Ext w4 W → W.cell? ⟨bb, off + i1 * 2, none⟩ = some (.string t.name) := fun W h => h.cell (a := ⟨bb, off + i1 * 2, none⟩) c0
  have ht1 : ∀ W, Ext w4 W → W.cell? ⟨bb, off + i1 * 2 + 1, none⟩ = some (.slice aor t.rels.length cr) := fun W h => h.cell (a := ⟨bb, off + i1 * 2 + 1, none⟩) c1
  clear c0 c1 hi1l
  refine region_walkN (Ext w4) (Ext.drew w4) (by kernel_rfl) (by kernel_rfl) (fun _ _ d _ _ h => by cases d <;> exact h) ?_
  ((refine WalkN.take 0 _ ?_ (by simp only [List.getElem?_toArray, List.getElem?_cons_zero]; rfl) (by kernel_rfl) (by kernel_rfl) (by rfl) (fun W hW => ?_) ?_; rotate_left; · (go_simp; try with_reducible rfl)); simp only [Act.put, List.setIfInBounds_toArray, List.set_cons_zero, List.set_cons_succ]); ((refine WalkN.take 1 _ ?_ (by simp only [List.getElem?_toArray, List.getElem?_cons_succ, List.getElem?_cons_zero]; rfl) (by kernel_rfl) (by kernel_rfl) (by rfl) (fun W hW => ?_) ?_; rotate_left; · (go_simp; try with_reducible rfl)); simp only [Act.put, List.setIfInBounds_toArray, List.set_cons_zero, List.set_cons_succ]); ((refine WalkN.take 2 _ ?_ (by simp only [List.getElem?_toArray, List.getElem?_cons_succ, List.getElem?_cons_zero]; rfl) (by kernel_rfl) (by kernel_rfl) (by rfl) (fun W hW => ?_) ?_; rotate_left; · (go_simp; try with_reducible rfl)); simp only [Act.put, List.setIfInBounds_toArray, List.set_cons_zero, List.set_cons_succ]); ((refine WalkN.take 3 _ ?_ (by simp only [List.getElem?_toArray, List.getElem?_cons_succ, List.getElem?_cons_zero]; rfl) (by kernel_rfl) (by kernel_rfl) (by rfl) (fun W hW => ?_) ?_; rotate_left; · (go_simp; try with_reducible rfl)); simp only [Act.put, List.setIfInBounds_toArray, List.set_cons_zero, List.set_cons_succ]); ((refine WalkN.take 4 _ ?_ (by simp only [List.getElem?_toArray, List.getElem?_cons_succ, List.getElem?_cons_zero]; rfl) (by kernel_rfl) (by kernel_rfl) (by rfl) (fun W hW => ?_) ?_; rotate_left; · (go_simp; try with_reducible rfl)); simp only [Act.put, List.setIfInBounds_toArray, List.set_cons_zero, List.set_cons_succ]); ((refine WalkN.take 5 _ ?_ (by simp only [List.getElem?_toArray, List.getElem?_cons_succ, List.getElem?_cons_zero]; rfl) (by kernel_rfl) (by kernel_rfl) (by rfl) (fun W hW => ?_) ?_; rotate_left; · (go_simp; try with_reducible rfl)); simp only [Act.put, List.setIfInBounds_toArray, List.set_cons_zero, List.set_cons_succ]); ((refine WalkN.take 6 _ ?_ (by simp only [List.getElem?_toArray, List.getElem?_cons_succ, List.getElem?_cons_zero]; rfl) (by kernel_rfl) (by kernel_rfl) (by rfl) (fun W hW => ?_) ?_; rotate_left; · (go_simp; try with_reducible rfl)); simp only [Act.put, List.setIfInBounds_toArray, List.set_cons_zero, List.set_cons_succ]); ((refine WalkN.take 7 _ ?_ (by simp only [List.getElem?_toArray, List.getElem?_cons_succ, List.getElem?_cons_zero]; rfl) (by kernel_rfl) (by kernel_rfl) (by rfl) (fun W hW => ?_) ?_; rotate_left; · (go_simp; try with_reducible rfl)); simp only [Act.put, List.setIfInBounds_toArray, List.set_cons_zero, List.set_cons_succ]); ((refine WalkN.take 8 _ ?_ (by simp only [List.getElem?_toArray, List.getElem?_cons_succ, List.getElem?_cons_zero]; rfl) (by kernel_rfl) (by kernel_rfl) (by rfl) (fun W hW => ?_) ?_; rotate_left; · (go_simp; try with_reducible rfl)); simp only [Act.put, List.setIfInBounds_toArray, List.set_cons_zero, List.set_cons_succ]); ((refine WalkN.take 9 _ ?_ (by simp only [List.getElem?_toArray, List.getElem?_cons_succ, List.getElem?_cons_zero]; rfl) (by kernel_rfl) (by kernel_rfl) (by rfl) (fun W hW => ?_) ?_; rotate_left; · (go_simp; try with_reducible rfl)); simp only [Act.put, List.setIfInBounds_toArray, List.set_cons_zero, List.set_cons_succ])
  refine WalkN.one 10 (by kernel_rfl) ?_
  refine ⟨_, (by simp only [List.getElem?_toArray, List.getElem?_cons_succ, List.getElem?_cons_zero]; rfl), by rfl, fun K hK => ?_⟩
  go_simp
  obtain ⟨w5, hw5⟩ : ∃ x, x = (w4.alloc (.cells #[.string ⟨#[]⟩, .slice none 0 0] 59)).drew := ⟨_, rfl⟩
  have hx5 : Ext w4 w5 := by rw [hw5]; exact Ext.trans (Ext.alloc _ _) (Ext.drew _)
  have hB5 : Blk w5 w4.heap.size #[.string ⟨#[]⟩, .slice none 0 0] 59 := by rw [hw5]; exact (Blk.made _ _ _).drew
  rw [← hw5]
  refine hK.out _ _ hx5 ?_
  clear hK hs ht0 ht1 hw5
  have c5 := hB5.cells
  have f5 := hB5.free
  refine WalkN.one 11 (by kernel_rfl) ?_
  refine ⟨_, (by simp only [List.getElem?_toArray, List.getElem?_cons_succ, List.getElem?_cons_zero]; rfl), by rfl, fun K hK => ?_⟩
  go_simp
  obtain ⟨w6, hw6⟩ : ∃ x, x = (w5.setCell ⟨w4.heap.size, 0, none⟩ (.string t.name)).setCell ⟨w4.heap.size, 1, none⟩ (.slice aor t.rels.length cr) := ⟨_, rfl⟩
  have hx6 : Ext w4 w6 := by rw [hw6]; exact (hx5.setCell (Nat.le_refl _) _).setCell (Nat.le_refl _) _
  have hB6 : Blk w6 w4.heap.size #[.string t.name, .slice aor t.rels.length cr] 59 := by rw [hw6]; exact (hB5.set_to (cs' := #[.string t.name, .slice none 0 0]) 0 _ rfl).set_to 1 _ rfl
  rw [← hw6]
  refine hK.out _ _ hx6 ?_
  clear hK c5 f5 hw6
  refine WalkN.done (by kernel_rfl) ?_
  have HS6 := Lib.hid (HS4.out.below hx6)
  have HT6 := Lib.hid hB6
  have HTY6 := Lib.hid (HTY4.out.up hx6)
  have HB6 := Lib.hid (HB4.out.trans (hx6.mono HB4.out.size))
  have HRL6 := Lib.hid (HRL.out.up hx6)
  clear hx5 hB5 hx6 hB6 HS4 HTY4 HB4 HRL HB3 hmod hi1n hi10 hn0 hbb htc htcm
  generalize w4.heap.size = b6 at *
  go_wp2_with fail
  obtain ⟨ao', c', hveq, -, -, hrcell⟩ := HRL6.out.rows
  cases hveq
  have hk1l : a / 8 % t.rels.length < t.rels.length := Nat.mod_lt _ (by have := HRN.out; omega)
  have hmod : ((a / 8 : Nat) : Int).tmod (t.rels.length : Int) = ((a / 8 % t.rels.length : Nat) : Int) := by rw [Int.tmod_eq_emod_of_nonneg (by omega)]; simp
  have hquo : (a : Int).tdiv 8 = ((a / 8 : Nat) : Int) := by rw [Int.tdiv_eq_ediv_of_nonneg (by omega)]; simp
  obtain ⟨bb2, off2, pv, haor, hbb2, d0, -⟩ := hrcell (a / 8 % t.rels.length) hk1l
  cases haor
  have HRF := Lib.hid (HRT.out (a / 8 % t.rels.length) hk1l)
  generalize t.rels[a / 8 % t.rels.length] = rl at *
  obtain ⟨rn, rrule⟩ := rl
  dsimp only at d0 HRF
  have hq8 : a / 8 < 32 := by have := HA.out; omega
  generalize a / 8 % t.rels.length = k1 at *
  generalize a / 8 = q8 at *
  clear hrcell HRT
  generalize t.rels.length = n2 at *
  have hqw : IntKind.i64.wrap (q8 : Int) = (q8 : Int) := IntWalk.i64_in _ (by omega)
  have hn0 : ¬ n2 = 0 := by have := HRN.out; omega
  have hi1n : (k1 : Int) < (n2 : Int) := by omega
  have hi10 : (0 : Int) ≤ (k1 : Int) := by omega
  have hs : ∀ W, Ext w6 W → ∀ i, W.cell? ⟨b6, i, none⟩ = (#[Value.string t.name, .slice (some ⟨bb2, off2, none⟩) n2 cr] : Array Value)[i]? := fun W h => (HT6.out.below h).cells
  have ht0 : ∀ W, Ext w6 W → W.cell? ⟨bb2, off2 + k1 * 5, none⟩ = some (.string rn) := fun W h => h.cell (a := ⟨bb2, off2 + k1 * 5, none⟩) d0
  clear d0 hk1l
  refine region_walkN (Ext w6) (Ext.drew w6) (by kernel_rfl) (by kernel_rfl) (fun _ _ d _ _ h => by cases d <;> exact h) ?_
  ((refine WalkN.take 0 _ ?_ (by simp only [List.getElem?_toArray, List.getElem?_cons_zero]; rfl) (by kernel_rfl) (by kernel_rfl) (by rfl) (fun W hW => ?_) ?_; rotate_left; · (go_simp; try with_reducible rfl)); simp only [Act.put, List.setIfInBounds_toArray, List.set_cons_zero, List.set_cons_succ]); ((refine WalkN.take 1 _ ?_ (by simp only [List.getElem?_toArray, List.getElem?_cons_succ, List.getElem?_cons_zero]; rfl) (by kernel_rfl) (by kernel_rfl) (by rfl) (fun W hW => ?_) ?_; rotate_left; · (go_simp; try with_reducible rfl)); simp only [Act.put, List.setIfInBounds_toArray, List.set_cons_zero, List.set_cons_succ]); ((refine WalkN.take 2 _ ?_ (by simp only [List.getElem?_toArray, List.getElem?_cons_succ, List.getElem?_cons_zero]; rfl) (by kernel_rfl) (by kernel_rfl) (by rfl) (fun W hW => ?_) ?_; rotate_left; · (go_simp; try with_reducible rfl)); simp only [Act.put, List.setIfInBounds_toArray, List.set_cons_zero, List.set_cons_succ]); ((refine WalkN.take 3 _ ?_ (by simp only [List.getElem?_toArray, List.getElem?_cons_succ, List.getElem?_cons_zero]; rfl) (by kernel_rfl) (by kernel_rfl) (by rfl) (fun W hW => ?_) ?_; rotate_left; · (go_simp; try with_reducible rfl)); simp only [Act.put, List.setIfInBounds_toArray, List.set_cons_zero, List.set_cons_succ]); ((refine WalkN.take 4 _ ?_ (by simp only [List.getElem?_toArray, List.getElem?_cons_succ, List.getElem?_cons_zero]; rfl) (by kernel_rfl) (by kernel_rfl) (by rfl) (fun W hW => ?_) ?_; rotate_left; · (go_simp; try with_reducible rfl)); simp only [Act.put, List.setIfInBounds_toArray, List.set_cons_zero, List.set_cons_succ]); ((refine WalkN.take 5 _ ?_ (by simp only [List.getElem?_toArray, List.getElem?_cons_succ, List.getElem?_cons_zero]; rfl) (by kernel_rfl) (by kernel_rfl) (by rfl) (fun W hW => ?_) ?_; rotate_left; · (go_simp; try with_reducible rfl)); simp only [Act.put, List.setIfInBounds_toArray, List.set_cons_zero, List.set_cons_succ]); ((refine WalkN.take 6 _ ?_ (by simp only [List.getElem?_toArray, List.getElem?_cons_succ, List.getElem?_cons_zero]; rfl) (by kernel_rfl) (by kernel_rfl) (by rfl) (fun W hW => ?_) ?_; rotate_left; · (go_simp; try with_reducible rfl)); simp only [Act.put, List.setIfInBounds_toArray, List.set_cons_zero, List.set_cons_succ]); ((refine WalkN.take 7 _ ?_ (by simp only [List.getElem?_toArray, List.getElem?_cons_succ, List.getElem?_cons_zero]; rfl) (by kernel_rfl) (by kernel_rfl) (by rfl) (fun W hW => ?_) ?_; rotate_left; · (go_simp; try with_reducible rfl)); simp only [Act.put, List.setIfInBounds_toArray, List.set_cons_zero, List.set_cons_succ]); ((refine WalkN.take 8 _ ?_ (by simp only [List.getElem?_toArray, List.getElem?_cons_succ, List.getElem?_cons_zero]; rfl) (by kernel_rfl) (by kernel_rfl) (by rfl) (fun W hW => ?_) ?_; rotate_left; · (go_simp; try with_reducible rfl)); simp only [Act.put, List.setIfInBounds_toArray, List.set_cons_zero, List.set_cons_succ]); ((refine WalkN.take 9 _ ?_ (by simp only [List.getElem?_toArray, List.getElem?_cons_succ, List.getElem?_cons_zero]; rfl) (by kernel_rfl) (by kernel_rfl) (by rfl) (fun W hW => ?_) ?_; rotate_left; · (go_simp; try with_reducible rfl)); simp only [Act.put, List.setIfInBounds_toArray, List.set_cons_zero, List.set_cons_succ]); ((refine WalkN.take 10 _ ?_ (by simp only [List.getElem?_toArray, List.getElem?_cons_succ, List.getElem?_cons_zero]; rfl) (by kernel_rfl) (by kernel_rfl) (by rfl) (fun W hW => ?_) ?_; rotate_left; · (go_simp; try with_reducible rfl)); simp only [Act.put, List.setIfInBounds_toArray, List.set_cons_zero, List.set_cons_succ]); ((refine WalkN.take 11 _ ?_ (by simp only [List.getElem?_toArray, List.getElem?_cons_succ, List.getElem?_cons_zero]; rfl) (by kernel_rfl) (by kernel_rfl) (by rfl) (fun W hW => ?_) ?_; rotate_left; · (go_simp; try with_reducible rfl)); simp only [Act.put, List.setIfInBounds_toArray, List.set_cons_zero, List.set_cons_succ]); ((refine WalkN.take 12 _ ?_ (by simp only [List.getElem?_toArray, List.getElem?_cons_succ, List.getElem?_cons_zero]; rfl) (by kernel_rfl) (by kernel_rfl) (by rfl) (fun W hW => ?_) ?_; rotate_left; · (go_simp; try with_reducible rfl)); simp only [Act.put, List.setIfInBounds_toArray, List.set_cons_zero, List.set_cons_succ]); ((refine WalkN.take 13 _ ?_ (by simp only [List.getElem?_toArray, List.getElem?_cons_succ, List.getElem?_cons_zero]; rfl) (by kernel_rfl) (by kernel_rfl) (by rfl) (fun W hW => ?_) ?_; rotate_left; · (go_simp; try with_reducible rfl)); simp only [Act.put, List.setIfInBounds_toArray, List.set_cons_zero, List.set_cons_succ]); ((refine WalkN.take 14 _ ?_ (by simp only [List.getElem?_toArray, List.getElem?_cons_succ, List.getElem?_cons_zero]; rfl) (by kernel_rfl) (by kernel_rfl) (by rfl) (fun W hW => ?_) ?_; rotate_left; · (go_simp; try with_reducible rfl)); simp only [Act.put, List.setIfInBounds_toArray, List.set_cons_zero, List.set_cons_succ])
  refine WalkN.one 15 (by kernel_rfl) ?_
  refine ⟨_, (by simp only [List.getElem?_toArray, List.getElem?_cons_succ, List.getElem?_cons_zero]; rfl), by rfl, fun K hK => ?_⟩
  go_simp
  obtain ⟨w7, hw7⟩ : ∃ x, x = (w6.alloc (.cells #[.string ⟨#[]⟩, .string ⟨#[]⟩] 43)).drew := ⟨_, rfl⟩
  have hx7 : Ext w6 w7 := by rw [hw7]; exact Ext.trans (Ext.alloc _ _) (Ext.drew _)
  have hB7 : Blk w7 w6.heap.size #[.string ⟨#[]⟩, .string ⟨#[]⟩] 43 := by rw [hw7]; exact (Blk.made _ _ _).drew
  rw [← hw7]
  refine hK.out _ _ hx7 ?_
  clear hK hs ht0 hw7
  have c7 := hB7.cells
  have f7 := hB7.free
  refine WalkN.one 16 (by kernel_rfl) ?_
  refine ⟨_, (by simp only [List.getElem?_toArray, List.getElem?_cons_succ, List.getElem?_cons_zero]; rfl), by rfl, fun K hK => ?_⟩
  go_simp
  obtain ⟨w8, hw8⟩ : ∃ x, x = (w7.setCell ⟨w6.heap.size, 0, none⟩ (.string t.name)).setCell ⟨w6.heap.size, 1, none⟩ (.string rn) := ⟨_, rfl⟩
  have hx8 : Ext w6 w8 := by rw [hw8]; exact (hx7.setCell (Nat.le_refl _) _).setCell (Nat.le_refl _) _
  have hB8 : Blk w8 w6.heap.size #[.string t.name, .string rn] 43 := by rw [hw8]; exact (hB7.set_to (cs' := #[.string t.name, .string ⟨#[]⟩]) 0 _ rfl).set_to 1 _ rfl
  rw [← hw8]
  refine hK.out _ _ hx8 ?_
  clear hK c7 f7 hw8
  refine WalkN.done (by kernel_rfl) ?_
  have HS8a := Lib.hid (HS6.out.below hx8)
  have HR8a := Lib.hid hB8
  have HTY8a := Lib.hid (HTY6.out.up hx8)
  have HB8a := Lib.hid (HB6.out.trans (hx8.mono HB6.out.size))
  have HUQ := Lib.hid (chk_uniq HSM.out.2.1)
  have HLG := Lib.hid (chk_long HSM.out.2.1)
  have HLR := Lib.hid (long_refs HLG.out)
  have HNL := Lib.hid (long_needsP HUQ.out HLG.out)
  have HTO := Lib.hid (HSM.out.2.2 t HTM.out)
  have HRO := Lib.hid (show R2.Ok ⟨t.name, rn⟩ from by
    have h1 := HTO.out.1
    obtain ⟨t2, ht2, r2, hr2, e2⟩ := refs_mem.1 HRF.out
    have h2 := ((HSM.out.2.2 t2 ht2).2 r2 hr2).1
    have e3 : rn = r2.1 := congrArg (fun p : R2 × RT => p.1.r) e2
    unfold R2.Ok maxLen
    dsimp only
    rw [e3]
    omega)
  have HLK := Lib.hid (show (lookA (refsOf ts) ⟨t.name, rn⟩).isSome = true from by
    obtain ⟨x, hx⟩ := look_refs (x := ⟨t.name, rn⟩) (List.mem_map.2 ⟨_, HRF.out, rfl⟩)
    rw [hx]; rfl)
  have s8 := HS8a.out.cells
  have r8 := HR8a.out.cells
  have HCL := Lib.hid (closureP_any ts _ ⟨t.name, rn⟩ _ HTY8a.out HSM.out.2.2 HUQ.out (by have := HLR.out; omega) HRO.out (fun x hx => by have := long_needs HUQ.out HLG.out x hx; omega))
  unfold r2V at HCL
  dsimp only at HCL
  clear hx7 hB7 hx8 hB8 HS6 HT6 HTY6 HB6 HRL6 hmod hquo hi1n hi10 hn0 hqw haw hbb2 hrc hrcm HN1 HRN
  generalize w6.heap.size = b7 at *
  generalize t.name = tn at *
  go_wp2_with fail
  refine HCL.out.mono ?_
  rintro e w8 ⟨v8, ss, rfl, -, hmm, ho8, hb8⟩
  obtain ⟨hu8, hm8⟩ := hmm HLK.out
  have HMM := Lib.hid hm8
  have HS8 := Lib.hid (HS8a.out.below hb8)
  have HR8 := Lib.hid (HR8a.out.below hb8)
  have HTY8 := Lib.hid (HTY8a.out.up hb8)
  have HB8 := Lib.hid (HB8a.out.trans (hb8.mono HB8a.out.size))
  have HSN := Lib.hid (show ss.length ≤ 9223372036854775807 from ho8.sl.small)
  obtain ⟨ao8, c8, rfl, -, -, h8c⟩ := refs_rows ho8.sl
  have HLC := Lib.hid h8c
  clear HCL hmm ho8 hb8 hu8 hm8 h8c s8 r8 HS8a HR8a HTY8a HB8a
  go_wp2_with fail
  go_loopw [9, 58] (fun ov iv wr => ∃ i : Nat, i ≤ ss.length ∧ ov = .bool (decide ((⟨tn, rn⟩ : R2) ∈ ss.take i)) ∧ iv = .int .i64 i ∧ Ext w8 wr) (fun _ iv _ => ss.length - (intOf iv).toNat)
  case atStart => exact ⟨0, by omega, by simp, rfl, Ext.refl _⟩
  case round =>
    obtain ⟨i, hi, rfl, rfl, hext⟩ := hrel
    have HE := Lib.hid hext
    have hss := HSN.out
    by_cases hlt : i < ss.length
    · obtain ⟨bx, ox, rfl, hbx, x0, x1⟩ := HLC.out i hlt
      have d0 := hext.cell (a := ⟨bx, ox + i * 2, none⟩) x0
      have d1 := hext.cell (a := ⟨bx, ox + i * 2 + 1, none⟩) x1
      obtain ⟨ob, hob, hcs⟩ := take_own ss (⟨tn, rn⟩ : R2) hlt
      have HOB := Lib.hid hob
      have HXR := Lib.hid ((HMM.out _).1 (List.getElem_mem hlt))
      have HIT := Lib.hid hlt
      generalize decide ((⟨tn, rn⟩ : R2) ∈ ss.take i) = sm at *
      generalize ss[i] = x at *
      obtain ⟨xt, xr⟩ := x
      dsimp only at d0 d1
      have HXO := Lib.hid (reach_ok HSM.out.2.2 HRO.out HXR.out)
      have HXL := Lib.hid (reach_look HSM.out.2.1 HLK.out HXR.out)
      have hxa := Ext.alloc wr (.cells #[.string xt, .string xr] 43)
      have HEA := Lib.hid (hext.trans hxa)
      have HXA := Lib.hid (Blk.made wr #[.string xt, .string xr] 43)
      have xb := HXA.out.cells
      have rb := (HR8.out.below HEA.out).cells
      have sb := (HS8.out.below HEA.out).cells
      have heq := fun W => r2_eql ⟨xt, xr⟩ ⟨tn, rn⟩ W
      unfold r2V at heq
      dsimp only at heq
      have HFP := Lib.hid (findP_any ts _ xt xr _ (HTY8.out.up HEA.out) HSM.out.2.2 HUQ.out (by have := HLR.out; omega) HXO.out.1 HXO.out.2)
      rw [HXL.out] at HFP
      clear x0 x1 hext hxa hob hi
      rcases hcs with ⟨rfl, rfl⟩ | ⟨rfl, hxz⟩
      · clear heq
        go_wp2_with fail
        clear d0 d1 xb rb sb
        refine HFP.out.mono ?_
        rintro e wf ⟨⟨z, zv⟩, rfl, hatz, -, -, hbf⟩
        dsimp only at hatz
        obtain ⟨aoz, cz, rfl, -, -, -⟩ := hatz.rows
        have xfg := Ext.alloc wf (.cells #[.int .i64 z.k, .string z.a, .string z.b, .slice aoz z.ps.length cz] 46)
        have HEG := Lib.hid (show Ext w8 _ from HEA.out.trans (Ext.trans hbf xfg))
        have HXG := Lib.hid (HXA.out.below (Ext.trans hbf xfg))
        have sg := (HS8.out.below HEG.out).cells
        have xg := HXG.out.cells
        have HND := Lib.hid (needsP_any ts _ ⟨xt, xr⟩ _ (HTY8.out.up HEG.out) HSM.out.2.2 HUQ.out (by have := HLR.out; omega) HXO.out (by have := HNL.out ⟨xt, xr⟩; omega))
        unfold r2V at HND
        dsimp only at HND
        unfold rvV rV
        dsimp only
        clear hatz hbf xfg HFP
        go_wp2_with fail
        refine HND.out.mono ?_
        rintro e w9 ⟨v9, s9, rfl, -, hm9, ho9, hb9⟩
        have HM9 := Lib.hid (show ∀ y ∈ s9, y ∈ ss from fun y hy => (HMM.out y).2 (HXR.out.step ((hm9 y).1 hy)))
        have HE9 := Lib.hid (show Ext w8 w9 from HEG.out.trans hb9)
        have HN9 := Lib.hid (show s9.length ≤ 9223372036854775807 from ho9.sl.small)
        obtain ⟨ao9, c9, rfl, -, -, h9c⟩ := refs_rows ho9.sl
        have H9C := Lib.hid h9c
        clear HND hm9 ho9 hb9 h9c sg xg
        go_wp2_with fail
        go_loopw [83] (fun jv wr => ∃ j : Nat, j ≤ s9.length ∧ jv = .int .i64 j ∧ Ext w9 wr) (fun jv _ => s9.length - (intOf jv).toNat)
        case atStart => exact ⟨0, by omega, rfl, Ext.refl _⟩
        case round =>
          obtain ⟨j, hj, rfl, hxj⟩ := hrel
          have HXJ := Lib.hid hxj
          have hn9 := HN9.out
          by_cases hjt : j < s9.length
          · obtain ⟨by_, oy, rfl, hby, y0, y1⟩ := H9C.out j hjt
            have HYM := Lib.hid (HM9.out _ (List.getElem_mem hjt))
            have d0 := hxj.cell (a := ⟨by_, oy + j * 2, none⟩) y0
            have d1 := hxj.cell (a := ⟨by_, oy + j * 2 + 1, none⟩) y1
            generalize s9[j] = y at *
            obtain ⟨yt, yr⟩ := y
            dsimp only at d0 d1
            have hxy := Ext.alloc wr (.cells #[.string yt, .string yr] 43)
            have HYB := Lib.hid (Blk.made wr #[.string yt, .string yr] 43)
            have HEY := Lib.hid (show Ext w8 _ from HE9.out.trans (hxj.trans hxy))
            have HXY := Lib.hid (hxj.trans hxy)
            have HJT := Lib.hid hjt
            obtain ⟨wy, hwy⟩ : ∃ x, x = wr.alloc (.cells #[.string yt, .string yr] 43) := ⟨_, rfl⟩
            clear y0 y1 hxj hxy hj
            go_wp2_with fail
            clear d0 d1
            rw [← hwy] at HYB HEY HXY ⊢
            clear hwy
            generalize wr.heap.size = bY at *
            go_loopw [16, 89] (fun tv2 kv wr => ∃ k : Nat, k ≤ ss.length ∧ tv2 = .bool (decide ((⟨yt, yr⟩ : R2) ∈ ss.take k)) ∧ kv = .int .i64 k ∧ Ext wy wr) (fun _ kv _ => ss.length - (intOf kv).toNat)
            case atStart => exact ⟨0, by omega, by simp, rfl, Ext.refl _⟩
            case round =>
              obtain ⟨k, hk, rfl, rfl, hxk⟩ := hrel
              have hss := HSN.out
              by_cases hkt : k < ss.length
              · obtain ⟨bz, oz, hbzz, hbz, z0, z1⟩ := HLC.out k hkt
                cases hbzz
                have e0 := (HEY.out.trans hxk).cell z0
                have e1 := (HEY.out.trans hxk).cell z1
                obtain ⟨oz2, hoz, hcs⟩ := take_own ss (⟨yt, yr⟩ : R2) hkt
                have HOZ := Lib.hid hoz
                generalize decide ((⟨yt, yr⟩ : R2) ∈ ss.take k) = sk at *
                generalize ss[k] = zz at *
                obtain ⟨zt, zr⟩ := zz
                dsimp only at e0 e1
                have hxz := Ext.alloc wr (.cells #[.string zt, .string zr] 43)
                have HZX := Lib.hid (hxk.trans hxz)
                have HZB := Lib.hid (Blk.made wr #[.string zt, .string zr] 43)
                have zb := HZB.out.cells
                have yb := (HYB.out.below HZX.out).cells
                have heqz := fun W => r2_eql ⟨zt, zr⟩ ⟨yt, yr⟩ W
                unfold r2V at heqz
                dsimp only at heqz
                clear z0 z1 hxk hxz hoz hk
                rcases hcs with ⟨rfl, rfl⟩ | ⟨rfl, hyz⟩
                · go_wp2_with fail
                  go_roundw
                  case rel => exact ⟨k + 1, by omega, by rw [HOZ.out], by go_num, HZX.out⟩
                  case measure => simp [intOf]; omega
                · rw [hyz] at heqz
                  clear hyz
                  go_wp2_with fail
                  go_roundw
                  case rel => exact ⟨k + 1, by omega, by rw [HOZ.out], by go_num, HZX.out⟩
                  case measure => simp [intOf]; omega
              · obtain rfl : k = ss.length := by omega
                rw [List.take_length, decide_eq_true HYM.out]
                have hjt2 := HJT.out
                have HXK := Lib.hid hxk
                clear hxk
                go_wp2_with fail
                go_roundw
                case rel => exact ⟨j + 1, by omega, by go_num, HXY.out.trans HXK.out⟩
                case measure => simp [intOf]; omega
          · obtain rfl : j = s9.length := by omega
            have hit := HIT.out
            clear hxj
            go_wp2_with fail
            go_roundw
            case rel => exact ⟨i + 1, by omega, by rw [HOB.out], by go_num, HE9.out.trans HXJ.out⟩
            case measure => simp [intOf]; omega
      · rw [hxz] at heq
        clear hxz
        go_wp2_with fail
        clear d0 d1 xb rb sb heq
        refine HFP.out.mono ?_
        rintro e wf ⟨⟨z, zv⟩, rfl, hatz, -, -, hbf⟩
        dsimp only at hatz
        obtain ⟨aoz, cz, rfl, -, -, -⟩ := hatz.rows
        have xfg := Ext.alloc wf (.cells #[.int .i64 z.k, .string z.a, .string z.b, .slice aoz z.ps.length cz] 46)
        have HEG := Lib.hid (show Ext w8 _ from HEA.out.trans (Ext.trans hbf xfg))
        have HXG := Lib.hid (HXA.out.below (Ext.trans hbf xfg))
        have sg := (HS8.out.below HEG.out).cells
        have xg := HXG.out.cells
        have HND := Lib.hid (needsP_any ts _ ⟨xt, xr⟩ _ (HTY8.out.up HEG.out) HSM.out.2.2 HUQ.out (by have := HLR.out; omega) HXO.out (by have := HNL.out ⟨xt, xr⟩; omega))
        unfold r2V at HND
        dsimp only at HND
        unfold rvV rV
        dsimp only
        clear hatz hbf xfg HFP
        go_wp2_with fail
        refine HND.out.mono ?_
        rintro e w9 ⟨v9, s9, rfl, -, hm9, ho9, hb9⟩
        have HM9 := Lib.hid (show ∀ y ∈ s9, y ∈ ss from fun y hy => (HMM.out y).2 (HXR.out.step ((hm9 y).1 hy)))
        have HE9 := Lib.hid (show Ext w8 w9 from HEG.out.trans hb9)
        have HN9 := Lib.hid (show s9.length ≤ 9223372036854775807 from ho9.sl.small)
        obtain ⟨ao9, c9, rfl, -, -, h9c⟩ := refs_rows ho9.sl
        have H9C := Lib.hid h9c
        clear HND hm9 ho9 hb9 h9c sg xg
        go_wp2_with fail
        go_loopw [83] (fun jv wr => ∃ j : Nat, j ≤ s9.length ∧ jv = .int .i64 j ∧ Ext w9 wr) (fun jv _ => s9.length - (intOf jv).toNat)
        case atStart => exact ⟨0, by omega, rfl, Ext.refl _⟩
        case round =>
          obtain ⟨j, hj, rfl, hxj⟩ := hrel
          have HXJ := Lib.hid hxj
          have hn9 := HN9.out
          by_cases hjt : j < s9.length
          · obtain ⟨by_, oy, rfl, hby, y0, y1⟩ := H9C.out j hjt
            have HYM := Lib.hid (HM9.out _ (List.getElem_mem hjt))
            have d0 := hxj.cell (a := ⟨by_, oy + j * 2, none⟩) y0
            have d1 := hxj.cell (a := ⟨by_, oy + j * 2 + 1, none⟩) y1
            generalize s9[j] = y at *
            obtain ⟨yt, yr⟩ := y
            dsimp only at d0 d1
            have hxy := Ext.alloc wr (.cells #[.string yt, .string yr] 43)
            have HYB := Lib.hid (Blk.made wr #[.string yt, .string yr] 43)
            have HEY := Lib.hid (show Ext w8 _ from HE9.out.trans (hxj.trans hxy))
            have HXY := Lib.hid (hxj.trans hxy)
            have HJT := Lib.hid hjt
            obtain ⟨wy, hwy⟩ : ∃ x, x = wr.alloc (.cells #[.string yt, .string yr] 43) := ⟨_, rfl⟩
            clear y0 y1 hxj hxy hj
            go_wp2_with fail
            clear d0 d1
            rw [← hwy] at HYB HEY HXY ⊢
            clear hwy
            generalize wr.heap.size = bY at *
            go_loopw [16, 89] (fun tv2 kv wr => ∃ k : Nat, k ≤ ss.length ∧ tv2 = .bool (decide ((⟨yt, yr⟩ : R2) ∈ ss.take k)) ∧ kv = .int .i64 k ∧ Ext wy wr) (fun _ kv _ => ss.length - (intOf kv).toNat)
            case atStart => exact ⟨0, by omega, by simp, rfl, Ext.refl _⟩
            case round =>
              obtain ⟨k, hk, rfl, rfl, hxk⟩ := hrel
              have hss := HSN.out
              by_cases hkt : k < ss.length
              · obtain ⟨bz, oz, hbzz, hbz, z0, z1⟩ := HLC.out k hkt
                cases hbzz
                have e0 := (HEY.out.trans hxk).cell z0
                have e1 := (HEY.out.trans hxk).cell z1
                obtain ⟨oz2, hoz, hcs⟩ := take_own ss (⟨yt, yr⟩ : R2) hkt
                have HOZ := Lib.hid hoz
                generalize decide ((⟨yt, yr⟩ : R2) ∈ ss.take k) = sk at *
                generalize ss[k] = zz at *
                obtain ⟨zt, zr⟩ := zz
                dsimp only at e0 e1
                have hxz := Ext.alloc wr (.cells #[.string zt, .string zr] 43)
                have HZX := Lib.hid (hxk.trans hxz)
                have HZB := Lib.hid (Blk.made wr #[.string zt, .string zr] 43)
                have zb := HZB.out.cells
                have yb := (HYB.out.below HZX.out).cells
                have heqz := fun W => r2_eql ⟨zt, zr⟩ ⟨yt, yr⟩ W
                unfold r2V at heqz
                dsimp only at heqz
                clear z0 z1 hxk hxz hoz hk
                rcases hcs with ⟨rfl, rfl⟩ | ⟨rfl, hyz⟩
                · go_wp2_with fail
                  go_roundw
                  case rel => exact ⟨k + 1, by omega, by rw [HOZ.out], by go_num, HZX.out⟩
                  case measure => simp [intOf]; omega
                · rw [hyz] at heqz
                  clear hyz
                  go_wp2_with fail
                  go_roundw
                  case rel => exact ⟨k + 1, by omega, by rw [HOZ.out], by go_num, HZX.out⟩
                  case measure => simp [intOf]; omega
              · obtain rfl : k = ss.length := by omega
                rw [List.take_length, decide_eq_true HYM.out]
                have hjt2 := HJT.out
                have HXK := Lib.hid hxk
                clear hxk
                go_wp2_with fail
                go_roundw
                case rel => exact ⟨j + 1, by omega, by go_num, HXY.out.trans HXK.out⟩
                case measure => simp [intOf]; omega
          · obtain rfl : j = s9.length := by omega
            have hit := HIT.out
            clear hxj
            go_wp2_with fail
            go_roundw
            case rel => exact ⟨i + 1, by omega, by rw [HOB.out], by go_num, HE9.out.trans HXJ.out⟩
            case measure => simp [intOf]; omega
    · obtain rfl : i = ss.length := by omega
      rw [List.take_length, decide_eq_true ((HMM.out _).2 .self)]
      have sb := (HS8.out.below hext).cells
      have HCH := Lib.hid (checkP_any ts _ wr (HTY8.out.up hext) HSM.out.2.2 (by have := schB_bk ts; have := HSM.out.1; omega) (sz_sch (by have := HSM.out.1; omega)) (by have := (names_bk ts).1; have := HSM.out.1; omega) (by have := (names_bk ts).2; have := HSM.out.1; omega))
      rw [HSM.out.2.1] at HCH
      clear hext
      go_wp2_with fail
      refine HCH.out.mono ?_
      rintro e w9 ⟨rfl, hb9⟩
      have HB9 := Lib.hid (HB8.out.trans ((HE.out.trans hb9).mono HB8.out.size))
      clear hb9 HCH sb
      go_wp2_with fail
      go_ret
      exact ⟨rfl, HB9.out⟩

end Go.Proofs.Ytfhonficpccegaa
