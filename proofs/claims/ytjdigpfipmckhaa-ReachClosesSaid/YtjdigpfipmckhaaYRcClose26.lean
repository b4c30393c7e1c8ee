/- Lemmas for the claim, no condition. -/
import Derived.Test.YtjdigpfipmckhaaYRcClose25
import Derived.Test.YtjdigpfipmckhaaYRcClose17
import Derived.Test.YtjdigpfipmckhaaYRcClose4
import Derived.Test.YtjdigpfipmckhaaYRcClose23
namespace Go.Proofs.Ytjdigpfipmckhaa
open Go Go.RowKit Go.Maps
theorem rel_own : ∀ n ∈ relNs, ownB n = true ∧ n ≠ (⟨#[116, 121, 112, 101]⟩ : ByteArray) ∧ n.size ≤ 6 := by
  intro n hn
  have h : (relNs.all fun n => ownB n && decide (n ≠ (⟨#[116, 121, 112, 101]⟩ : ByteArray)) && decide (n.size ≤ 6)) = true := by kernel_rfl
  have := List.all_eq_true.1 h n hn
  simp only [Bool.and_eq_true, decide_eq_true_eq] at this
  exact ⟨this.1.1, this.1.2, this.2⟩
theorem ty_own : ∀ n ∈ tyNs, ownB n = true ∧ n.size ≤ 6 := by
  intro n hn
  have h : (tyNs.all fun n => ownB n && decide (n.size ≤ 6)) = true := by kernel_rfl
  have := List.all_eq_true.1 h n hn
  simp only [Bool.and_eq_true, decide_eq_true_eq] at this
  exact this
theorem rel_nodup : relNs.Nodup := of_decide_eq_true (by kernel_rfl)
theorem ty_nodup : tyNs.Nodup := of_decide_eq_true (by kernel_rfl)
structure FineR (ts : List TyS) (t : TyS) (d n m : Nat) (r : RT) : Prop where
  text : ∀ k, k + d ≤ 8 → r.textOk k = true
  sz : r.sz ≤ n
  bk : r.bk ≤ m
  ok : r.Ok
  named : r.named ts t = true
theorem sumN_le {α : Type} (f : α → Nat) (D : Nat) : ∀ l : List α, (∀ x ∈ l, f x ≤ D) → sumN f l ≤ l.length * D
  | [], _ => by simp [sumN]
  | a :: l, h => by
    rw [sumN, List.length_cons, Nat.add_mul, Nat.one_mul]
    have := sumN_le f D l fun x hx => h x (List.mem_cons_of_mem _ hx)
    have := h a List.mem_cons_self
    omega
theorem szL_sum (l : List RT) : szL l = sumN RT.sz l := by
  induction l with
  | nil => rfl
  | cons x l ih => rw [szL, sumN, ih]
theorem FineR.leaf {ts : List TyS} {t : TyS} {own : List ByteArray} (hs : ∀ n ∈ own, n ∈ relNs) (hh : ∀ n ∈ own, hasT t n = true) (ha : ∀ n ∈ relNs.take 2, anyT ts n = true) (d : Nat) {r : RT} (h : LeafR own r) : FineR ts t d 1 17 r := by
  have h0 : (⟨#[]⟩ : ByteArray).size = 0 := rfl
  rcases h with rfl | ⟨a, h1, rfl⟩ | ⟨a, h1, b, h2, rfl⟩
  · refine ⟨fun k _ => ?_, ?_, ?_, ?_, ?_⟩
    · rw [RT.textOk]; rfl
    · rw [RT.sz]; simp [szL]
    · rw [RT.bk, bkL, h0]; omega
    · rw [RT.Ok, okL, h0]; exact ⟨by omega, by omega, by omega, trivial⟩
    · rw [RT.named]; simp [namedL, headOk]
  · obtain ⟨o1, o2, o3⟩ := rel_own a (hs a h1)
    refine ⟨fun k _ => ?_, ?_, ?_, ?_, ?_⟩
    · rw [RT.textOk, if_neg (by decide), if_pos rfl, o1]; rfl
    · rw [RT.sz]; simp [szL]
    · rw [RT.bk, bkL, h0]; omega
    · rw [RT.Ok, okL, h0]; exact ⟨by omega, by omega, by omega, trivial⟩
    · rw [RT.named]; simp [namedL, headOk, hh a h1]
  · obtain ⟨o1, o2, o3⟩ := rel_own a (hs a h1)
    obtain ⟨p1, p2, p3⟩ := rel_own b (List.take_subset 2 relNs h2)
    refine ⟨fun k _ => ?_, ?_, ?_, ?_, ?_⟩
    · rw [RT.textOk, if_neg (by decide), if_neg (by decide), if_pos rfl, o1, p1]; rfl
    · rw [RT.sz]; simp [szL]
    · rw [RT.bk, bkL]; omega
    · rw [RT.Ok, okL]; exact ⟨by omega, by omega, by omega, trivial⟩
    · rw [RT.named]; simp [namedL, headOk, hh a h1, ha b h2]
theorem FineR.group {ts : List TyS} {t : TyS} {d n m : Nat} {k : Int} (hk : k = 4 ∨ k = 5) {ps : List RT} (hl : 2 ≤ ps.length ∧ ps.length ≤ 3) (h : ∀ p ∈ ps, FineR ts t d n m p ∧ p.k ≠ k) : FineR ts t (d + 1) (1 + 3 * n) (5 + 3 * m) (.mk k ⟨#[]⟩ ⟨#[]⟩ ps) := by
  refine ⟨fun j hj => ?_, ?_, ?_, ?_, ?_⟩
  · rw [RT.textOk, if_neg (by omega), if_neg (by omega), if_neg (by omega), if_pos hk, decide_eq_true hl.1, textL_eq]
    have : ps.all (goodP k j) = true := List.all_eq_true.2 fun p hp => by
      have hi : innerD k p.k j ≤ j + 1 := by unfold innerD; split <;> omega
      unfold goodP
      rw [decide_eq_true (h p hp).2, decide_eq_true (show innerD k p.k j ≤ 8 by omega), (h p hp).1.text _ (by omega)]
      rfl
    rw [this]
    rfl
  · rw [RT.sz, szL_sum]
    have := sumN_le RT.sz n ps fun p hp => (h p hp).1.sz
    have := Nat.mul_le_mul_right n hl.2
    omega
  · rw [RT.bk, bkL_sum]
    have := sumN_le RT.bk m ps fun p hp => (h p hp).1.bk
    have := Nat.mul_le_mul_right m hl.2
    have h0 : (⟨#[]⟩ : ByteArray).size = 0 := rfl
    omega
  · rw [RT.Ok]
    have h0 : (⟨#[]⟩ : ByteArray).size = 0 := rfl
    exact ⟨by omega, by omega, by omega, okL_mem.2 fun p hp => (h p hp).1.ok⟩
  · rw [RT.named, namedL_eq]
    have h1 : headOk ts t k ⟨#[]⟩ ⟨#[]⟩ = true := by
      unfold headOk
      rcases hk with rfl | rfl <;> rfl
    rw [h1, Bool.true_and]
    exact List.all_eq_true.2 fun p hp => (h p hp).1.named
theorem FineR.mono {ts : List TyS} {t : TyS} {d n m d' n' m' : Nat} {r : RT} (h : FineR ts t d n m r) (hd : d ≤ d') (hn : n ≤ n') (hm : m ≤ m') : FineR ts t d' n' m' r := ⟨fun k hk => h.text k (by omega), Nat.le_trans h.sz hn, Nat.le_trans h.bk hm, h.ok, h.named⟩
section
variable {ts : List TyS} {t : TyS} {own : List ByteArray} (hs : ∀ n ∈ own, n ∈ relNs) (hh : ∀ n ∈ own, hasT t n = true) (ha : ∀ n ∈ relNs.take 2, anyT ts n = true)
include hs hh ha
theorem GoodR.fine0 {r : RT} (h : GoodR own 0 r) : FineR ts t 0 1 17 r := FineR.leaf hs hh ha 0 h
theorem GoodR.fine1 {r : RT} (h : GoodR own 1 r) : FineR ts t 1 4 56 r := by
  rcases h with h | ⟨k, ps, rfl, hk, hl, hp⟩
  · exact (FineR.leaf hs hh ha 1 h).mono (by omega) (by omega) (by omega)
  · exact (FineR.group hk (by omega) fun p hx => ⟨GoodR.fine0 hs hh ha (hp p hx).1, (hp p hx).2⟩).mono (by omega) (by omega) (by omega)
theorem GoodR.fine2 {r : RT} (h : GoodR own 2 r) : FineR ts t 2 13 173 r := by
  rcases h with h | ⟨k, ps, rfl, hk, hl, hp⟩
  · exact (FineR.leaf hs hh ha 2 h).mono (by omega) (by omega) (by omega)
  · exact (FineR.group hk (by omega) fun p hx => ⟨GoodR.fine1 hs hh ha (hp p hx).1, (hp p hx).2⟩).mono (by omega) (by omega) (by omega)
theorem TopR.fine {r : RT} (h : TopR own r) : FineR ts t 3 32 524 r ∧ r.sz ≤ 15 := by
  rcases h with h | ⟨r0, h0, hk, rfl⟩
  · have := GoodR.fine2 hs hh ha h
    exact ⟨this.mono (by omega) (by omega) (by omega), Nat.le_trans this.sz (by omega)⟩
  · have h2 := GoodR.fine2 hs hh ha h0
    have h1 := (FineR.leaf hs hh ha 2 (r := .mk 1 ⟨#[]⟩ ⟨#[]⟩ []) (.inl rfl))
    have hsz : (RT.mk 4 ⟨#[]⟩ ⟨#[]⟩ [.mk 1 ⟨#[]⟩ ⟨#[]⟩ [], r0]).sz ≤ 15 := by
      rw [RT.sz, szL, szL, szL]
      have := h1.sz
      have := h2.sz
      omega
    have := FineR.group (ts := ts) (t := t) (k := 4) (.inl rfl) (ps := [.mk 1 ⟨#[]⟩ ⟨#[]⟩ [], r0]) (by simp) (d := 2) (n := 13) (m := 173) fun p hp => by
      simp only [List.mem_cons, List.not_mem_nil, or_false] at hp
      rcases hp with rfl | rfl
      · exact ⟨h1.mono (by omega) (by omega) (by omega), by simp [RT.k]⟩
      · exact ⟨h2, hk⟩
    exact ⟨⟨this.text, Nat.le_trans hsz (by omega), Nat.le_trans this.bk (by omega), this.ok, this.named⟩, hsz⟩
end
structure FineS (ts : List TyS) : Prop where
  chk : chk06 ts = 0
  ok : ∀ t ∈ ts, t.Ok
  bk : schBk ts ≤ 10000
  two : 2 ≤ ts.length ∧ ts.length ≤ 3
  rels : ∀ t ∈ ts, 2 ≤ t.rels.length ∧ t.rels.length ≤ 4
theorem GoodS.fine {ts : List TyS} (h : GoodS ts) : FineS ts := by
  obtain ⟨hl, hn, hg⟩ := h
  have hany : ∀ n ∈ relNs.take 2, anyT ts n = true := fun n hn2 => by
    have h0 : 0 < ts.length := by omega
    obtain ⟨m, hm2, hm4, hr, _⟩ := hg ts[0] (List.getElem_mem h0)
    refine List.any_eq_true.2 ⟨ts[0], List.getElem_mem h0, ?_⟩
    have : n ∈ ts[0].rels.map (·.1) := by
      rw [hr]
      exact List.take_subset_take_left relNs hm2 hn2
    obtain ⟨x, hx, rfl⟩ := List.mem_map.1 this
    exact List.any_eq_true.2 ⟨x, hx, decide_eq_true rfl⟩
  have hfine : ∀ t ∈ ts, (∀ n ∈ t.rels.map (·.1), n ∈ relNs) ∧ (t.rels.map (·.1)).Nodup ∧ (2 ≤ t.rels.length ∧ t.rels.length ≤ 4) ∧ ∀ r ∈ t.rels, FineR ts t 3 32 524 r.2 ∧ r.2.sz ≤ 15 := fun t ht => by
    obtain ⟨m, hm2, hm4, hr, hp⟩ := hg t ht
    have hlen : t.rels.length = m := by
      have := congrArg List.length hr
      rw [List.length_map, List.length_take] at this
      have h4 : relNs.length = 4 := rfl
      omega
    refine ⟨fun n hn => by rw [hr] at hn; exact List.take_subset m relNs hn, by rw [hr]; exact rel_nodup.sublist (List.take_sublist m relNs), by omega, fun r hr' => ?_⟩
    refine TopR.fine (own := relNs.take m) (fun n hn => List.take_subset m relNs hn) (fun n hn => ?_) hany (hp r hr')
    rw [← hr] at hn
    obtain ⟨x, hx, rfl⟩ := List.mem_map.1 hn
    exact List.any_eq_true.2 ⟨x, hx, decide_eq_true rfl⟩
  have hnm : ∀ t ∈ ts, ownB t.name = true ∧ t.name.size ≤ 6 := fun t ht => ty_own _ (by
    have : t.name ∈ ts.map (·.name) := List.mem_map_of_mem ht
    rw [hn] at this
    exact List.take_subset _ _ this)
  have hrn : ∀ t ∈ ts, ∀ r ∈ t.rels, ownB r.1 = true ∧ r.1 ≠ (⟨#[116, 121, 112, 101]⟩ : ByteArray) ∧ r.1.size ≤ 6 := fun t ht r hr => rel_own _ ((hfine t ht).1 _ (List.mem_map_of_mem hr))
  have hprint : printOk ts = true := List.all_eq_true.2 fun t ht => by
    unfold tyOk
    rw [(hnm t ht).1, Bool.true_and]
    refine List.all_eq_true.2 fun r hr => ?_
    unfold relOk
    rw [((hfine t ht).2.2.2 r hr).1.text 0 (by omega), (hrn t ht r hr).1, decide_eq_true (hrn t ht r hr).2.1]
    rfl
  have hlong : longOk ts = true := by
    unfold longOk
    rw [decide_eq_true (show ts.length ≤ 16 by omega), Bool.true_and]
    refine List.all_eq_true.2 fun t ht => ?_
    unfold tyLong
    rw [decide_eq_true (show t.rels.length ≤ 16 by have := (hfine t ht).2.2.1.2; omega), Bool.true_and]
    exact List.all_eq_true.2 fun r hr => decide_eq_true ((hfine t ht).2.2.2 r hr).1.sz
  have huniq : uniqOk ts = true := by
    unfold uniqOk
    rw [hn, decide_eq_true (ty_nodup.sublist (List.take_sublist _ _)), Bool.true_and]
    exact List.all_eq_true.2 fun t ht => decide_eq_true (hfine t ht).2.1
  have hnames : namesOk ts = true := by
    unfold namesOk
    exact List.all_eq_true.2 fun t ht => List.all_eq_true.2 fun r hr => ((hfine t ht).2.2.2 r hr).1.named
  refine ⟨by unfold chk06; rw [hprint, hlong, huniq, hnames]; rfl, fun t ht => ⟨by have := (hnm t ht).2; omega, fun r hr => ⟨by have := (hrn t ht r hr).2.2; omega, ((hfine t ht).2.2.2 r hr).1.ok⟩⟩, ?_, by omega, fun t ht => (hfine t ht).2.2.1⟩
  unfold schBk
  have h1 := sumN_le tyBk 2136 ts fun t ht => by
    rw [tyBk_eq]
    have := sumN_le relBk 532 t.rels fun r hr => by
      rw [relBk_eq]
      have := (hrn t ht r hr).2.2
      have := ((hfine t ht).2.2.2 r hr).1.bk
      omega
    have := (hfine t ht).2.2.1.2
    have := (hnm t ht).2
    have := Nat.mul_le_mul_right 532 (hfine t ht).2.2.1.2
    omega
  have := Nat.mul_le_mul_right 2136 (show ts.length ≤ 3 by omega)
  omega
end Go.Proofs.Ytjdigpfipmckhaa
namespace Go.Proofs.Ytjdigpfipmckhaa
open Go Go.RowKit
mutual
def FT.InN (n : Nat) : FT → Prop | .mk _ _ refs ps => (∀ k ∈ refs, 0 ≤ k ∧ k < (n : Int)) ∧ inNL n ps
def inNL (n : Nat) : List FT → Prop | [] => True | r :: rs => r.InN n ∧ inNL n rs
end
theorem inNL_iff (n : Nat) : ∀ {l : List FT}, inNL n l ↔ ∀ x ∈ l, x.InN n
  | [] => by simp [inNL]
  | r :: rs => by rw [inNL, inNL_iff n]; simp
theorem FT.inN_iff (n : Nat) (f : FT) : f.InN n ↔ (∀ k ∈ f.refs, 0 ≤ k ∧ k < (n : Int)) ∧ ∀ x ∈ f.ps, x.InN n := by
  obtain ⟨k, s, r, ps⟩ := f
  rw [FT.InN, inNL_iff]
  rfl
theorem FT.InN.mono {n m : Nat} (h : n ≤ m) {f : FT} (hf : f.InN n) : f.InN m := by
  induction f using FT.ind with
  | h f ih =>
    rw [FT.inN_iff] at hf ⊢
    exact ⟨fun k hk => ⟨(hf.1 k hk).1, by have := (hf.1 k hk).2; omega⟩, fun x hx => ih x hx (hf.2 x hx)⟩
theorem numD_lt (ps : List P3) (p : P3) : numD ps p < (putP ps p).length := by
  unfold numD putP
  split
  · next h =>
    rw [List.findIdx_lt_length]
    exact ⟨p, h, by simp⟩
  · rw [List.length_append, List.length_singleton]
    exact Nat.lt_succ_of_le List.findIdx_le_length
theorem refsD_lt : ∀ (l : List P3) (ps : List P3) (out : List Int), (∀ k ∈ out, 0 ≤ k ∧ k < (ps.length : Int)) → ∀ k ∈ (refsD ps out l).1, 0 ≤ k ∧ k < ((refsD ps out l).2.length : Int)
  | [], ps, out, h => h
  | p :: l, ps, out, h => by
    rw [refsD]
    refine refsD_lt l _ _ fun k hk => ?_
    have hle := (putP_pre ps p).length_le
    split at hk
    · have := h k hk; omega
    · rcases List.mem_append.1 hk with hk | hk
      · have := h k hk; omega
      · rw [List.mem_singleton.1 hk]; have := numD_lt ps p; omega
theorem headF_lt (T : List Tup) (p : P3) (k : Int) (a b : ByteArray) (ps : List P3) : ∀ n ∈ (headF T p k a b ps).2.1, 0 ≤ n ∧ n < ((headF T p k a b ps).2.2.length : Int) := by
  unfold headF
  split
  · exact refsD_lt _ _ _ fun k hk => by cases hk
  · split
    · intro n hn
      rw [List.mem_singleton.1 hn]
      have := numD_lt ps ⟨p.t, p.i, a⟩
      show (0 : Int) ≤ _ ∧ _ < ((putP ps ⟨p.t, p.i, a⟩).length : Int)
      omega
    · split
      · exact refsD_lt _ _ _ fun k hk => by cases hk
      · intro n hn; cases hn
theorem formsD_pre (T : List Tup) (p : P3) : ∀ (l : List RT) (ps : List P3), ps <+: (formsD T p l ps).2
  | [], ps => List.prefix_refl _
  | r :: l, ps => by rw [formsD]; exact (formD_pre T p r ps).trans (formsD_pre T p l _)
theorem formD_inN (T : List Tup) (p : P3) (r : RT) : ∀ (ps : List P3), (formD T p r ps).1.InN (formD T p r ps).2.length := by
  induction r using RT.ind with
  | h r ih =>
    intro ps
    rw [formD_eq, FT.inN_iff]
    have : ∀ (l : List RT) (qs : List P3), (∀ x ∈ l, x ∈ r.ps) → ∀ f ∈ (formsD T p l qs).1, f.InN (formsD T p l qs).2.length := by
      intro l
      induction l with
      | nil => intro qs _ f hf; cases hf
      | cons x l ihl =>
        intro qs hx f hf
        rw [formsD] at hf ⊢
        rcases List.mem_cons.1 hf with rfl | hf
        · exact (ih x (hx x (by simp)) qs).mono (formsD_pre T p l _).length_le
        · exact ihl _ (fun y hy => hx y (List.mem_cons_of_mem _ hy)) f hf
    exact ⟨fun k hk => ⟨(headF_lt T p r.k r.a r.b ps k hk).1, by have h1 := (headF_lt T p r.k r.a r.b ps k hk).2; have h2 := (formsD_pre T p r.ps (headF T p r.k r.a r.b ps).2.2).length_le; simp only; omega⟩, this r.ps _ fun _ h => h⟩
theorem walkN_inN (ts : List TyS) (T : List Tup) (shut : List R2) (p : P3) : ∀ n, ∀ f ∈ (walkN ts T shut p n).2, f.InN (walkN ts T shut p n).1.length
  | 0 => by intro f hf; simp [walkN] at hf
  | n + 1 => by
    intro f hf
    rw [walkN] at hf ⊢
    rcases List.mem_append.1 hf with hf | hf
    · exact (walkN_inN ts T shut p n f hf).mono (stepG_pre _ _ _ _ _).length_le
    · rw [List.mem_singleton.1 hf]
      unfold stepG
      split
      · exact formD_inN _ _ _ _
      · rw [FT.inN_iff]
        exact ⟨(fun k hk => by cases hk), fun x hx => by cases hx⟩
theorem walkN_first (ts : List TyS) (T : List Tup) (shut : List R2) (p : P3) (n : Nat) : (walkN ts T shut p n).1[0]? = some p := by
  have h := walkN_pre ts T shut p 0 n (Nat.zero_le n)
  rw [walkN] at h
  obtain ⟨t, ht⟩ := h
  rw [← ht]
  rfl
end Go.Proofs.Ytjdigpfipmckhaa
namespace Go.Proofs.Ytjdigpfipmckhaa
open Go Go.RowKit Go.Maps
theorem nms_len (r : RT) : r.nms.length ≤ 2 * r.sz := by
  induction r using RT.ind with
  | h r ih =>
    have : ∀ l : List RT, (∀ x ∈ l, x ∈ r.ps) → (nmsL l).length ≤ 2 * szL l := by
      intro l
      induction l with
      | nil => intro _; simp [nmsL]
      | cons x l ihl =>
        intro hx
        rw [nmsL, szL, List.length_append]
        have h1 := ih x (hx x (by simp))
        have h2 := ihl fun y hy => hx y (List.mem_cons_of_mem _ hy)
        omega
    have h := this r.ps fun _ h => h
    rw [RT.nms_eq, List.length_cons, List.length_cons]
    obtain ⟨k, a, b, ps⟩ := r
    rw [RT.sz]
    simp only [RT.ps] at h ⊢
    omega
theorem nms_ok (r : RT) (h : r.Ok) : ∀ n ∈ r.nms, n.size ≤ maxLen := by
  induction r using RT.ind with
  | h r ih =>
    obtain ⟨k, a, b, ps⟩ := r
    rw [RT.Ok] at h
    intro n hn
    rw [RT.nms_eq] at hn
    simp only [RT.a, RT.b, RT.ps, List.mem_cons] at hn
    rcases hn with rfl | rfl | hn
    · exact Nat.le_trans h.2.1 (by decide)
    · exact Nat.le_trans h.2.2.1 (by decide)
    · have hp := okL_mem.1 h.2.2.2
      have : ∀ l : List RT, (∀ x ∈ l, x ∈ ps) → ∀ n ∈ nmsL l, n.size ≤ maxLen := by
        intro l
        induction l with
        | nil => intro _ n hn; simp [nmsL] at hn
        | cons x l ihl =>
          intro hx n hn
          rw [nmsL, List.mem_append] at hn
          rcases hn with hn | hn
          · exact ih x (hx x (by simp)) (hp x (hx x (by simp))) n hn
          · exact ihl (fun y hy => hx y (List.mem_cons_of_mem _ hy)) n hn
      exact this ps (fun _ h => h) n hn
def allN (ts : List TyS) : List ByteArray := (refsOf ts).flatMap fun x => x.2.nms
theorem allN_mem (ts : List TyS) : NmU ts (allN ts) := fun x hx n hn => List.mem_flatMap.2 ⟨x, hx, hn⟩
theorem flatN_len {α β : Type} (f : α → List β) (m : Nat) : ∀ (l : List α), (∀ x ∈ l, (f x).length ≤ m) → (l.flatMap f).length ≤ l.length * m
  | [], _ => by simp
  | a :: l, h => by
    rw [List.flatMap_cons, List.length_append, List.length_cons, Nat.add_mul]
    have h1 := h a (by simp)
    have h2 := flatN_len f m l fun x hx => h x (List.mem_cons_of_mem _ hx)
    omega
theorem refs_sz {ts : List TyS} (h : longOk ts = true) : ∀ x ∈ refsOf ts, x.2.sz ≤ 32 := fun x hx => by
  obtain ⟨t, ht, r, hr, rfl⟩ := refs_mem.1 hx
  unfold longOk at h
  rw [Bool.and_eq_true, List.all_eq_true] at h
  have h2 := h.2 t ht
  unfold tyLong at h2
  rw [Bool.and_eq_true, List.all_eq_true] at h2
  simpa using h2.2 r hr
theorem refs_ok {ts : List TyS} (h : ∀ t ∈ ts, t.Ok) : ∀ x ∈ refsOf ts, x.2.Ok := fun x hx => by
  obtain ⟨t, ht, r, hr, rfl⟩ := refs_mem.1 hx
  exact ((h t ht).2 r hr).2
def objU (T : List Tup) (p : P3) : List (ByteArray × ByteArray) := (p.t, p.i) :: T.map fun t => (t.s.t, t.s.i)
def namU (N : List ByteArray) (T : List Tup) (p : P3) : List ByteArray := p.r :: (T.map fun t => t.s.r) ++ N
theorem okU (T : List Tup) (p : P3) (N : List ByteArray) : OkU T (objU T p) (namU N T p) where
  objs t ht := List.mem_cons_of_mem _ (List.mem_map.2 ⟨t, ht, rfl⟩)
  rels t ht := by unfold namU; rw [List.cons_append]; exact List.mem_cons_of_mem _ (List.mem_append_left _ (List.mem_map.2 ⟨t, ht, rfl⟩))
theorem inU_walk {ts : List TyS} (T : List Tup) (shut : List R2) (p : P3) {N : List ByteArray} (hN : NmU ts N) (n : Nat) : ∀ x ∈ (walkN ts T shut p n).1, InU (objU T p) (namU N T p) x :=
  walkN_in (okU T p N) (fun x hx m hm => by unfold namU; rw [List.cons_append]; exact List.mem_cons_of_mem _ (List.mem_append_right _ (hN x hx m hm))) shut ⟨by simp [objU], by simp [namU]⟩ n
theorem walk_few {ts : List TyS} (T : List Tup) (shut : List R2) (p : P3) {N : List ByteArray} (hN : NmU ts N) (n : Nat) : (walkN ts T shut p n).1.length ≤ (T.length + 1) * (T.length + N.length + 1) := by
  have h := inU_few (walkN_nodup ts T shut p n) (inU_walk T shut p hN n)
  simp only [objU, namU, List.length_cons, List.length_append, List.length_map] at h
  rwa [show T.length + 1 + N.length = T.length + N.length + 1 by omega] at h
theorem walkIn_chk {ts : List TyS} {T : List Tup} (shut : List R2) {p : P3} (hc : longOk ts = true) (hok : ∀ t ∈ ts, t.Ok) (hT : T.length ≤ 100) (hTo : ∀ t ∈ T, t.Ok) (hp : p.Ok) : WalkIn ts T shut p 2000000 where
  okp n x hx := by
    have h := inU_walk T shut p (allN_mem ts) n x hx
    have hN : ∀ m ∈ allN ts, m.size ≤ maxLen := fun m hm => by
      obtain ⟨y, hy, hm⟩ := List.mem_flatMap.1 hm
      exact nms_ok _ (refs_ok hok y hy) m hm
    obtain ⟨h1, h2⟩ := h
    have hO : x.t.size ≤ maxLen ∧ x.i.size ≤ maxLen := by
      rcases List.mem_cons.1 h1 with h1 | h1
      · have e1 := congrArg Prod.fst h1; have e2 := congrArg Prod.snd h1; dsimp only at e1 e2; rw [e1, e2]; exact ⟨hp.1, hp.2.1⟩
      · obtain ⟨t, ht, e⟩ := List.mem_map.1 h1
        have h3 := (hTo t ht).2
        have e1 := congrArg Prod.fst e; have e2 := congrArg Prod.snd e; dsimp only at e1 e2; rw [← e1, ← e2]
        exact ⟨h3.1, h3.2.1⟩
    refine ⟨hO.1, hO.2, ?_⟩
    unfold namU at h2
    rw [List.cons_append, List.mem_cons, List.mem_append] at h2
    rcases h2 with h2 | h2 | h2
    · rw [h2]; exact hp.2.2
    · obtain ⟨t, ht, e⟩ := List.mem_map.1 h2
      rw [← e]; exact (hTo t ht).2.2.2
    · exact hN _ h2
  few n := by
    have h := walk_few T shut p (allN_mem ts) n
    have h2 : (allN ts).length ≤ 256 * 64 := by
      have h3 := flatN_len (fun x : R2 × RT => x.2.nms) 64 (refsOf ts) fun x hx => by have := nms_len x.2; have := refs_sz hc x hx; omega
      have h4 := long_refs hc
      unfold allN
      exact Nat.le_trans h3 (Nat.mul_le_mul_right _ h4)
    have h5 : (T.length + 1) * (T.length + (allN ts).length + 1) ≤ 101 * (100 + 256 * 64 + 1) := Nat.mul_le_mul (by omega) (by omega)
    omega
  room x hx := by
    have h1 := refs_sz hc x hx
    have h2 : x.2.sz * (T.length + 1) ≤ 32 * 101 := Nat.mul_le_mul h1 (by omega)
    omega
  nmax := by omega
  rok := refs_ok hok
  tok t ht := (hTo t ht).2
  tlen := by omega
theorem WalkP.done {ts : List TyS} {T : List Tup} {shut : List R2} {p : P3} {most : Int} {ok long : Value} {ps : List P3} {fs : List FT} {ev : Value} (h : WalkP ts T shut p most ok long ps fs ev) (hm : ∀ n, ((walkN ts T shut p n).1.length : Int) ≤ most) :
    ∃ n, WalkEnd ts T shut p most n ∧ ps = (walkN ts T shut p n).1 ∧ fs = (walkN ts T shut p n).2 ∧ ev = ok := by
  rcases h with h | ⟨⟨n, h1, h2, h3⟩, -⟩
  · exact h
  · have := hm n; omega
theorem GoodR.nms {own : List ByteArray} (ho : ∀ n ∈ own, n ∈ relNs) : ∀ (d : Nat) (r : RT), GoodR own d r → ∀ n ∈ r.nms, n = ⟨#[]⟩ ∨ n ∈ relNs := by
  have leaf : ∀ r : RT, LeafR own r → ∀ n ∈ r.nms, n = ⟨#[]⟩ ∨ n ∈ relNs := fun r h n hn => by
    rcases h with rfl | ⟨a, ha, rfl⟩ | ⟨a, ha, b, hb, rfl⟩ <;> rw [RT.nms_eq] at hn <;> simp only [RT.a, RT.b, RT.ps, nmsL, List.mem_cons, List.not_mem_nil, or_false] at hn
    · rcases hn with rfl | rfl <;> exact .inl rfl
    · rcases hn with rfl | rfl
      · exact .inr (ho _ ha)
      · exact .inl rfl
    · rcases hn with rfl | rfl
      · exact .inr (ho _ ha)
      · exact .inr (List.mem_of_mem_take hb)
  intro d
  induction d with
  | zero => exact fun r h => leaf r h
  | succ d ih =>
    intro r h n hn
    rcases h with h | ⟨k, ps, rfl, -, -, hp⟩
    · exact leaf r h n hn
    · rw [RT.nms_eq] at hn
      simp only [RT.a, RT.b, RT.ps, List.mem_cons] at hn
      rcases hn with rfl | rfl | hn
      · exact .inl rfl
      · exact .inl rfl
      · have : ∀ l : List RT, (∀ x ∈ l, x ∈ ps) → ∀ n ∈ nmsL l, n = ⟨#[]⟩ ∨ n ∈ relNs := by
          intro l
          induction l with
          | nil => intro _ n hn; simp [nmsL] at hn
          | cons x l ihl =>
            intro hx n hn
            rw [nmsL, List.mem_append] at hn
            rcases hn with hn | hn
            · exact ih x (hp x (hx x (by simp))).1 n hn
            · exact ihl (fun y hy => hx y (List.mem_cons_of_mem _ hy)) n hn
        exact this ps (fun _ h => h) n hn
def fewN : List ByteArray := ⟨#[]⟩ :: relNs
theorem GoodS.nms {ts : List TyS} (h : GoodS ts) : NmU ts fewN := fun x hx n hn => by
  obtain ⟨t, ht, r, hr, rfl⟩ := refs_mem.1 hx
  obtain ⟨m, -, -, -, hp⟩ := h.2.2 t ht
  have ho : ∀ n ∈ relNs.take m, n ∈ relNs := fun n hn => List.mem_of_mem_take hn
  have key : n = ⟨#[]⟩ ∨ n ∈ relNs := by
    rcases hp r hr with h | ⟨r0, h0, -, he⟩
    · exact GoodR.nms ho 2 _ h n hn
    · dsimp only at hn
      rw [he, RT.nms_eq] at hn
      simp only [RT.a, RT.b, RT.ps, nmsL, List.mem_cons, List.mem_append, List.not_mem_nil, or_false] at hn
      rcases hn with rfl | rfl | hn | hn
      · exact .inl rfl
      · exact .inl rfl
      · rw [RT.nms_eq] at hn
        simp only [RT.a, RT.b, RT.ps, nmsL, List.mem_cons, List.not_mem_nil, or_false] at hn
        rcases hn with rfl | rfl <;> exact .inl rfl
      · exact GoodR.nms ho 2 _ h0 n hn
  rcases key with rfl | h
  · exact List.mem_cons_self
  · exact List.mem_cons_of_mem _ h
theorem good_few {ts : List TyS} (h : GoodS ts) {T : List Tup} (hT : T.length ≤ 24) (shut : List R2) (p : P3) (n : Nat) : (walkN ts T shut p n).1.length ≤ 750 := by
  have h1 := walk_few T shut p h.nms n
  have h2 : (T.length + 1) * (T.length + fewN.length + 1) ≤ 25 * 30 := Nat.mul_le_mul (by omega) (by have : fewN.length = 5 := rfl; omega)
  omega
end Go.Proofs.Ytjdigpfipmckhaa
