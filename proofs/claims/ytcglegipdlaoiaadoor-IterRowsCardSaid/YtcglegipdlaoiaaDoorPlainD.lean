/- Plain laws of rows of inner keys: order, sortedness. No condition: lemmas. -/
import Derived.Test.YtcglegipdlaoiaaDoorLaw18
import Derived.Test.YtcglegipdlaoiaaDoorLawInner
import Derived.Sort.Walk0
namespace Go.Proofs.YtcglegipdlaoiaaDoor
open Go Go.RowKit

theorem ltS_iff (a b : ByteArray) : ltS a b = decide (a.data.toList < b.data.toList) := by
  unfold ltS
  rw [ByteArray.toList_eq, ByteArray.toList_eq]
  exact bytesLess_eq _ _
theorem ltS_irr (a : ByteArray) : ltS a a = false := by
  rw [ltS_iff]; simp [List.lt_irrefl]
theorem ltS_trans {a b c : ByteArray} (h : ltS a b = true) (k : ltS b c = true) : ltS a c = true := by
  rw [ltS_iff] at *
  simp only [decide_eq_true_eq] at *
  exact List.lt_trans h k
theorem ltS_total {a b : ByteArray} (h : ltS a b = false) (hne : a ≠ b) : ltS b a = true := by
  rw [ltS_iff] at *
  simp only [decide_eq_true_eq, decide_eq_false_iff_not] at *
  have h1 : b.data.toList ≤ a.data.toList := List.not_lt.1 h
  rcases List.le_iff_lt_or_eq.1 h1 with h2 | h2
  · exact h2
  · exact absurd (ByteArray.ext (by rw [← Array.toList_inj]; exact h2.symm)) hne

/-- A row rises, pair by pair. -/
def Up (l : List ByteArray) : Prop := l.Pairwise fun a b => ltS a b = true

theorem putS_mem : ∀ (l : List ByteArray) (k x : ByteArray), x ∈ (putS l k).1 ↔ x = k ∨ x ∈ l
  | [], k, x => by simp [putS]
  | a :: r, k, x => by
    have ih := putS_mem r k x
    unfold putS
    split
    · simp only [List.mem_cons, ih]
      constructor
      · rintro (h | h | h)
        · exact .inr (.inl h)
        · exact .inl h
        · exact .inr (.inr h)
      · rintro (h | h | h)
        · exact .inr (.inl h)
        · exact .inl h
        · exact .inr (.inr h)
    · split
      · rename_i h
        subst h
        simp
      · simp

theorem putS_up : ∀ (l : List ByteArray) (k : ByteArray), Up l → Up (putS l k).1
  | [], k, _ => by simp [putS, Up]
  | a :: r, k, h => by
    have hr : Up r := (List.pairwise_cons.1 h).2
    have ha := (List.pairwise_cons.1 h).1
    unfold putS
    split
    · rename_i hl
      refine List.pairwise_cons.2 ⟨fun x hx => ?_, putS_up r k hr⟩
      rcases (putS_mem r k x).1 hx with rfl | hx
      · exact hl
      · exact ha x hx
    · rename_i hl
      split
      · exact h
      · rename_i hne
        have hka : ltS k a = true := ltS_total (by simpa using hl) hne
        refine List.pairwise_cons.2 ⟨fun x hx => ?_, h⟩
        rcases List.mem_cons.1 hx with rfl | hx
        · exact hka
        · exact ltS_trans hka (ha x hx)

theorem Up.rises {l : List ByteArray} (h : Up l) : Rises l := fun i hi => List.pairwise_iff_getElem.1 h i (i + 1) (by omega) hi (by omega)

theorem deco_inner (x : Ent) (h : U64 x.2.1) : deco (innerA x) = some x := by
  obtain ⟨k, r, d⟩ := x
  unfold deco innerA
  rw [show (⟨(innerB k.data.toList r d).toArray⟩ : ByteArray).data.toList = innerB k.data.toList r d from rfl, outer_inner _ _ _ h]
  rfl

theorem fold_mem : ∀ (es : List Ent) (l : List ByteArray) (x : ByteArray), x ∈ es.foldl (fun out y => (putS out (innerA y)).1) l ↔ x ∈ l ∨ ∃ e ∈ es, x = innerA e
  | [], l, x => by simp
  | e :: es, l, x => by
    rw [List.foldl_cons, fold_mem es, putS_mem]
    simp only [List.mem_cons, exists_eq_or_imp]
    constructor
    · rintro ((h | h) | h)
      · exact .inr (.inl h)
      · exact .inl h
      · exact .inr (.inr h)
    · rintro (h | h | h)
      · exact .inl (.inr h)
      · exact .inl (.inl h)
      · exact .inr h
theorem fold_up : ∀ (es : List Ent) (l : List ByteArray), Up l → Up (es.foldl (fun out y => (putS out (innerA y)).1) l)
  | [], _, h => h
  | _ :: es, l, h => fold_up es _ (putS_up l _ h)

theorem rowsL_up (es : List Ent) : Up (rowsL es) := fold_up es [] List.Pairwise.nil
theorem rowsL_mem (es : List Ent) (x : ByteArray) : x ∈ rowsL es ↔ ∃ e ∈ es, x = innerA e := by
  unfold rowsL; rw [fold_mem]; simp

/-- A row of inner keys of entries. -/
def Good (l : List ByteArray) : Prop := Up l ∧ ∀ k ∈ l, ∃ e : Ent, U64 e.2.1 ∧ k = innerA e
theorem rowsL_good (es : List Ent) (h : ∀ e ∈ es, U64 e.2.1) : Good (rowsL es) :=
  ⟨rowsL_up es, fun k hk => by obtain ⟨e, he, rfl⟩ := (rowsL_mem es k).1 hk; exact ⟨e, h e he, rfl⟩⟩
theorem Good.deco {l : List ByteArray} (h : Good l) {k : ByteArray} (hk : k ∈ l) : ∃ e : Ent, U64 e.2.1 ∧ k = innerA e ∧ Proofs.YtcglegipdlaoiaaDoor.deco k = some e := by
  obtain ⟨e, he, rfl⟩ := h.2 k hk
  exact ⟨e, he, rfl, deco_inner e he⟩
theorem Good.code {l : List ByteArray} (h : Good l) : codeOf l = 0 :=
  codeOf_ok (fun i hi e => by obtain ⟨x, _, _, hx⟩ := h.deco (List.getElem_mem hi); rw [hx] at e; cases e) h.1.rises
theorem Good.sub {l m : List ByteArray} (h : Good l) (hs : m.Sublist l) : Good m := ⟨h.1.sublist hs, fun k hk => h.2 k (hs.subset hk)⟩

theorem inner_lt {a b : Ent} (ha : U64 a.2.1) (hb : U64 b.2.1) (h : ltS (innerA a) (innerA b) = true) : (a.1 = b.1 ∧ b.2.1 ≤ a.2.1) ∨ ltS a.1 b.1 = true := by
  unfold ltS at *
  rw [ByteArray.toList_eq, ByteArray.toList_eq] at *
  have := inner_less a.1.data.toList a.2.1 a.2.2 b.1.data.toList b.2.1 b.2.2 ha hb
  rw [show Op.bytesLess (innerA a).data.toList (innerA b).data.toList = Op.bytesLess (innerB a.1.data.toList a.2.1 a.2.2) (innerB b.1.data.toList b.2.1 b.2.2) from rfl, this] at h
  unfold lessE at h
  split at h
  · exact .inr h
  · rename_i hk
    left
    have hk : a.1.data.toList = b.1.data.toList := by simpa using hk
    refine ⟨ByteArray.ext (by rw [← Array.toList_inj]; exact hk), ?_⟩
    split at h
    · simp at h; omega
    · rename_i hr
      simp at hr
      omega

end Go.Proofs.YtcglegipdlaoiaaDoor

namespace Go.Proofs.YtcglegipdlaoiaaDoor
open Go Go.RowKit

/-- Entries of a row of inner keys: Keys rise, and of one Key the Revs fall. -/
def Fine (es : List Ent) : Prop := es.Pairwise fun a b => (a.1 = b.1 ∧ b.2.1 ≤ a.2.1) ∨ ltS a.1 b.1 = true

theorem decoD_of {k : ByteArray} {e : Ent} (h : deco k = some e) : decoD k = e := by unfold decoD; rw [h]; rfl

theorem Good.fine {l : List ByteArray} (h : Good l) : Fine (l.map decoD) := by
  unfold Fine
  rw [List.pairwise_map]
  refine List.Pairwise.imp_of_mem ?_ h.1
  intro a b ha hb hlt
  obtain ⟨x, hx, rfl, dx⟩ := h.deco ha
  obtain ⟨y, hy, rfl, dy⟩ := h.deco hb
  rw [decoD_of dx, decoD_of dy]
  exact inner_lt hx hy hlt

theorem good_pairs {l : List ByteArray} (h : Good l) : Proofs.YtcglegipdlaoiaaDoor.pairs l = l.map fun k => (k, decoD k) := by
  unfold Proofs.YtcglegipdlaoiaaDoor.pairs
  have : ∀ m : List ByteArray, (∀ k ∈ m, k ∈ l) → m.filterMap (fun k => (deco k).map fun x => (k, x)) = m.map fun k => (k, decoD k) := by
    intro m
    induction m with
    | nil => intro _; rfl
    | cons a m ih =>
      intro hm
      obtain ⟨e, _, _, he⟩ := h.deco (hm a (by simp))
      rw [List.filterMap_cons, he, List.map_cons, decoD_of he, ih (fun k hk => hm k (by simp [hk]))]
      rfl
  exact this l fun _ h => h

/-- What (*first).is knows behind some entries. -/
structure InvF (rev : Nat) (es : List Ent) (s : St) : Prop where
  none : es = [] → s.2.2 = false
  last : ∀ y ys, es = ys ++ [y] → s.2.2 = true ∧ s.1 = y.1 ∧ (s.2.1 = true ↔ ∃ z ∈ es, z.1 = y.1 ∧ z.2.1 ≤ rev)

theorem fine_new {ys : List Ent} {y x : Ent} (h : Fine (ys ++ [y] ++ [x])) (hne : x.1 ≠ y.1) : ¬ ∃ z ∈ ys ++ [y], z.1 = x.1 := by
  rintro ⟨z, hz, he⟩
  obtain ⟨h1, _, h2⟩ := List.pairwise_append.1 h
  have hyx := h2 y (by simp) x (by simp)
  rcases hyx with ⟨e, _⟩ | hyx
  · exact hne e.symm
  · rcases List.mem_append.1 hz with hz | hz
    · have hzy := (List.pairwise_append.1 h1).2.2 z hz y (by simp)
      rcases hzy with ⟨e, _⟩ | hzy
      · exact hne (he.symm.trans e)
      · have := ltS_trans hzy hyx
        rw [he, ltS_irr] at this
        cases this
    · obtain rfl : z = y := by simpa using hz
      exact hne he.symm

theorem inv_step {rev : Nat} {es : List Ent} {s : St} {x : Ent} (hf : Fine (es ++ [x])) (hi : InvF rev es s) :
    InvF rev (es ++ [x]) (isStep rev s x).2 ∧ ((isStep rev s x).1 = true ↔ x.2.1 ≤ rev ∧ ¬ ∃ z ∈ es, z.1 = x.1 ∧ z.2.1 ≤ rev) := by
  obtain ⟨k, sm, an⟩ := s
  have key : ∃ told : Bool, (if an = false ∨ x.1 ≠ k then (x.1, false, true) else (k, sm, an)) = (x.1, told, true) ∧ (told = true ↔ ∃ z ∈ es, z.1 = x.1 ∧ z.2.1 ≤ rev) := by
    rcases List.eq_nil_or_concat es with rfl | ⟨ys, y, rfl⟩
    · have := hi.none rfl
      simp only at this
      subst this
      exact ⟨false, by simp, by simp⟩
    · rw [List.concat_eq_append] at *
      obtain ⟨h1, h2, h3⟩ := hi.last y ys rfl
      simp only at h1 h2 h3
      subst h1 h2
      by_cases hk : x.1 = y.1
      · refine ⟨sm, by simp [hk], ?_⟩
        rw [hk]
        exact h3
      · refine ⟨false, by simp [hk], ?_⟩
        simp only [Bool.false_eq_true, false_iff]
        rintro ⟨z, hz, he, _⟩
        exact fine_new hf hk ⟨z, hz, he⟩
  obtain ⟨told, e, ht⟩ := key
  have hstep : isStep rev (k, sm, an) x = if rev < x.2.1 ∨ told = true then (false, (x.1, told, true)) else (true, (x.1, true, true)) := by
    unfold isStep
    simp only at e ⊢
    rw [e]
  rw [hstep]
  by_cases hc : rev < x.2.1 ∨ told = true
  · rw [if_pos hc]
    refine ⟨⟨fun h => by simp at h, fun y' ys' hy => ?_⟩, ?_⟩
    · obtain ⟨_, hxy⟩ := List.append_inj' hy rfl
      obtain rfl : x = y' := by simpa using hxy
      refine ⟨rfl, rfl, ?_⟩
      simp only
      rw [ht]
      constructor
      · rintro ⟨z, hz, h⟩; exact ⟨z, by simp [hz], h⟩
      · rintro ⟨z, hz, h⟩
        rcases List.mem_append.1 hz with hz | hz
        · exact ⟨z, hz, h⟩
        · obtain rfl : z = x := by simpa using hz
          rcases hc with hc | hc
          · have := h.2; omega
          · exact ht.1 hc
    · simp only [Bool.false_eq_true, false_iff, not_and, Classical.not_not]
      intro h
      rcases hc with hc | hc
      · omega
      · exact ht.1 hc
  · rw [if_neg hc]
    have h1 : x.2.1 ≤ rev := by have := fun h => hc (.inl h); omega
    have h2 : ¬ told = true := fun h => hc (.inr h)
    refine ⟨⟨fun h => by simp at h, fun y' ys' hy => ?_⟩, ?_⟩
    · obtain ⟨_, hxy⟩ := List.append_inj' hy rfl
      obtain rfl : x = y' := by simpa using hxy
      exact ⟨rfl, rfl, by simp only [true_iff]; exact ⟨x, by simp, rfl, h1⟩⟩
    · simp only [true_iff]
      exact ⟨h1, fun h => h2 (ht.2 h)⟩

end Go.Proofs.YtcglegipdlaoiaaDoor

namespace Go.Proofs.YtcglegipdlaoiaaDoor
open Go Go.RowKit

/-- Is k the first of its Key in l whose Rev isn't greater than rev? -/
def FirstOf (l : List ByteArray) (rev : Nat) (k : ByteArray) : Prop :=
  (decoD k).2.1 ≤ rev ∧ ¬ ∃ z ∈ l, ltS z k = true ∧ (decoD z).1 = (decoD k).1 ∧ (decoD z).2.1 ≤ rev

theorem good_take_mem {l : List ByteArray} (h : Up l) {n : Nat} (hn : n < l.length) (z : ByteArray) : z ∈ l.take n ↔ z ∈ l ∧ ltS z l[n] = true := by
  constructor
  · intro hz
    refine ⟨List.mem_of_mem_take hz, ?_⟩
    obtain ⟨i, hi, rfl⟩ := List.getElem_of_mem hz
    rw [List.length_take] at hi
    rw [List.getElem_take]
    exact List.pairwise_iff_getElem.1 h i n (by omega) hn (by omega)
  · rintro ⟨hz, hlt⟩
    obtain ⟨i, hi, rfl⟩ := List.getElem_of_mem hz
    by_cases hin : i < n
    · exact List.mem_take_iff_getElem.2 ⟨i, by omega, rfl⟩
    · exfalso
      by_cases he : i = n
      · subst he; rw [ltS_irr] at hlt; cases hlt
      · have := ltS_trans (List.pairwise_iff_getElem.1 h n i hn hi (by omega)) hlt
        rw [ltS_irr] at this; cases this

theorem first_iff {l : List ByteArray} (h : Up l) {n : Nat} (hn : n < l.length) (rev : Nat) :
    ((decoD l[n]).2.1 ≤ rev ∧ ¬ ∃ z ∈ (l.take n).map decoD, z.1 = (decoD l[n]).1 ∧ z.2.1 ≤ rev) ↔ FirstOf l rev l[n] := by
  unfold FirstOf
  constructor
  · rintro ⟨h1, h2⟩
    refine ⟨h1, fun ⟨z, hz, h3, h4⟩ => h2 ⟨decoD z, List.mem_map_of_mem ((good_take_mem h hn z).2 ⟨hz, h3⟩), h4⟩⟩
  · rintro ⟨h1, h2⟩
    refine ⟨h1, fun ⟨z, hz, h4⟩ => ?_⟩
    obtain ⟨y, hy, rfl⟩ := List.mem_map.1 hz
    obtain ⟨h5, h6⟩ := (good_take_mem h hn y).1 hy
    exact h2 ⟨y, h5, h6, h4⟩

theorem firstD_iff {l : List ByteArray} {n : Nat} (hn : n < l.length) (rev : Nat) :
    firstD (l.map decoD) n rev = true ↔ ((decoD l[n]).2.1 ≤ rev ∧ ¬ ∃ z ∈ (l.take n).map decoD, z.1 = (decoD l[n]).1 ∧ z.2.1 ≤ rev) := by
  rw [firstD_get (by simpa using hn)]
  unfold firstB
  simp only [List.getElem_map, Bool.and_eq_true, decide_eq_true_eq, List.all_eq_true, Bool.not_eq_true', Bool.and_eq_false_iff, decide_eq_false_iff_not, ← List.map_take]
  constructor
  · rintro ⟨h1, h2⟩
    exact ⟨h1, fun ⟨z, hz, h3, h4⟩ => (h2 z hz).elim (fun e => e h3) (fun e => e h4)⟩
  · rintro ⟨h1, h2⟩
    refine ⟨h1, fun z hz => ?_⟩
    by_cases h3 : z.1 = (decoD l[n]).1
    · exact .inr fun h4 => h2 ⟨z, hz, h3, h4⟩
    · exact .inl h3

theorem inv_zero (rev : Nat) : InvF rev [] s0 := ⟨fun _ => rfl, fun y ys h => by simp at h⟩

open Classical in
/-- Does drop.Keep keep k? -/
noncomputable def keepP (floor : Nat) (bottom : Bool) (l : List ByteArray) (k : ByteArray) : Bool := decide (floor < (decoD k).2.1) || (decide (FirstOf l floor k) && !((decoD k).2.2 && bottom))
open Classical in
/-- Does drop.At tell k's Key? -/
noncomputable def atP (rev : Nat) (l : List ByteArray) (k : ByteArray) : Bool := decide (FirstOf l rev k) && !(decoD k).2.2

theorem is_first {l : List ByteArray} (h : Good l) {n : Nat} (hn : n < l.length) {rev : Nat} {s : St} (hi : InvF rev ((l.take n).map decoD) s) :
    InvF rev ((l.take (n + 1)).map decoD) (isStep rev s (decoD l[n])).2 ∧ ((isStep rev s (decoD l[n])).1 = true ↔ ((decoD l[n]).2.1 ≤ rev ∧ ¬ ∃ z ∈ (l.take n).map decoD, z.1 = (decoD l[n]).1 ∧ z.2.1 ≤ rev)) := by
  have ht : (l.take (n + 1)).map decoD = (l.take n).map decoD ++ [decoD l[n]] := by rw [List.take_succ_eq_append_getElem hn, List.map_append]; rfl
  rw [ht]
  refine inv_step ?_ hi
  rw [← ht]
  exact (h.sub (List.take_sublist _ _)).fine

open Classical in
theorem keep_take {l : List ByteArray} (h : Good l) (floor : Nat) (bottom : Bool) : ∀ n, n ≤ l.length →
    InvF floor ((l.take n).map decoD) ((pairs (l.take n)).foldl (keepF floor bottom) (s0, [])).1 ∧
      ((pairs (l.take n)).foldl (keepF floor bottom) (s0, [])).2 = rk (keepC floor bottom (l.map decoD)) (keyD l) n ∧
      ((pairs (l.take n)).foldl (keepF floor bottom) (s0, [])).2 = (l.take n).filter (keepP floor bottom l)
  | 0, _ => ⟨inv_zero _, rfl, rfl⟩
  | n + 1, hn => by
    obtain ⟨h1, h2, h3⟩ := keep_take h floor bottom n (by omega)
    have hlt : n < l.length := by omega
    obtain ⟨e, _, _, he⟩ := h.deco (List.getElem_mem hlt)
    have hd := decoD_of he
    rw [pairs_take l n hlt e he, List.foldl_append, ← hd]
    generalize (pairs (l.take n)).foldl (keepF floor bottom) (s0, []) = a at *
    obtain ⟨s, out⟩ := a
    obtain ⟨g1, g2⟩ := is_first h hlt h1
    dsimp only at *
    have e1 : (isStep floor s (decoD l[n])).1 = firstD (l.map decoD) n floor := by
      rw [Bool.eq_iff_iff, g2, firstD_iff hlt]
    have e2 : (isStep floor s (decoD l[n])).1 = decide (FirstOf l floor l[n]) := by
      rw [Bool.eq_iff_iff, g2, first_iff h.1 hlt, decide_eq_true_eq]
    have hkd : keyD l n = l[n] := by unfold keyD; rw [List.getD_eq_getElem?_getD, List.getElem?_eq_getElem hlt]; rfl
    have hen : entD (l.map decoD) n = decoD l[n] := by rw [entD_get (by simpa using hlt), List.getElem_map]
    have hc1 : keepC floor bottom (l.map decoD) n = (decide (floor < (decoD l[n]).2.1) || ((isStep floor s (decoD l[n])).1 && !((decoD l[n]).2.2 && bottom))) := by unfold keepC; rw [hen, e1]
    have hc2 : keepP floor bottom l l[n] = (decide (floor < (decoD l[n]).2.1) || ((isStep floor s (decoD l[n])).1 && !((decoD l[n]).2.2 && bottom))) := by unfold keepP; rw [e2]
    refine ⟨g1, ?_, ?_⟩
    · simp only [List.foldl_cons, List.foldl_nil, keepF]
      by_cases hb : keepC floor bottom (l.map decoD) n = true
      · rw [rk_hit hb, hkd, ← h2, ← hc1, if_pos hb]
      · rw [rk_miss (by simpa using hb), ← h2, ← hc1, if_neg hb]
    · simp only [List.foldl_cons, List.foldl_nil, keepF]
      rw [List.take_succ_eq_append_getElem hlt, List.filter_append, ← h3, ← hc2]
      by_cases hb : keepP floor bottom l l[n] = true
      · rw [if_pos hb]; simp [hb]
      · rw [if_neg hb]; simp [hb]

open Classical in
theorem at_take {l : List ByteArray} (h : Good l) (rev : Nat) : ∀ n, n ≤ l.length →
    InvF rev ((l.take n).map decoD) ((pairs (l.take n)).foldl (atF rev) (s0, [])).1 ∧
      ((pairs (l.take n)).foldl (atF rev) (s0, [])).2 = rk (atC rev (l.map decoD)) (eKey (l.map decoD)) n ∧
      ((pairs (l.take n)).foldl (atF rev) (s0, [])).2 = ((l.take n).filter (atP rev l)).map fun k => (decoD k).1
  | 0, _ => ⟨inv_zero _, rfl, rfl⟩
  | n + 1, hn => by
    obtain ⟨h1, h2, h3⟩ := at_take h rev n (by omega)
    have hlt : n < l.length := by omega
    obtain ⟨e, _, _, he⟩ := h.deco (List.getElem_mem hlt)
    have hd := decoD_of he
    rw [pairs_take l n hlt e he, List.foldl_append, ← hd]
    generalize (pairs (l.take n)).foldl (atF rev) (s0, []) = a at *
    obtain ⟨s, out⟩ := a
    obtain ⟨g1, g2⟩ := is_first h hlt h1
    dsimp only at *
    have e1 : (isStep rev s (decoD l[n])).1 = firstD (l.map decoD) n rev := by
      rw [Bool.eq_iff_iff, g2, firstD_iff hlt]
    have e2 : (isStep rev s (decoD l[n])).1 = decide (FirstOf l rev l[n]) := by
      rw [Bool.eq_iff_iff, g2, first_iff h.1 hlt, decide_eq_true_eq]
    have hen : entD (l.map decoD) n = decoD l[n] := by rw [entD_get (by simpa using hlt), List.getElem_map]
    have hkd : eKey (l.map decoD) n = (decoD l[n]).1 := by
      show (entD (l.map decoD) n).1 = _
      rw [hen]
    have hc1 : atC rev (l.map decoD) n = ((isStep rev s (decoD l[n])).1 && !(decoD l[n]).2.2) := by unfold atC; rw [hen, e1]
    have hc2 : atP rev l l[n] = ((isStep rev s (decoD l[n])).1 && !(decoD l[n]).2.2) := by unfold atP; rw [e2]
    refine ⟨g1, ?_, ?_⟩
    · simp only [List.foldl_cons, List.foldl_nil, atF]
      by_cases hb : atC rev (l.map decoD) n = true
      · rw [rk_hit hb, hkd, ← h2, ← hc1, if_pos hb]
      · rw [rk_miss (by simpa using hb), ← h2, ← hc1, if_neg hb]
    · simp only [List.foldl_cons, List.foldl_nil, atF]
      rw [List.take_succ_eq_append_getElem hlt, List.filter_append, List.map_append, ← h3, ← hc2]
      by_cases hb : atP rev l l[n] = true
      · rw [if_pos hb]; simp [hb]
      · rw [if_neg hb]; simp [hb]

theorem keepL_rk {l : List ByteArray} (h : Good l) (floor : Nat) (bottom : Bool) : keepL floor bottom l = rk (keepC floor bottom (l.map decoD)) (keyD l) l.length := by
  have := (keep_take h floor bottom l.length (Nat.le_refl _)).2.1
  rwa [List.take_length] at this
theorem keepL_filter {l : List ByteArray} (h : Good l) (floor : Nat) (bottom : Bool) : keepL floor bottom l = l.filter (keepP floor bottom l) := by
  have := (keep_take h floor bottom l.length (Nat.le_refl _)).2.2
  rwa [List.take_length] at this
theorem atL_rk {l : List ByteArray} (h : Good l) (rev : Nat) : atL rev l = rk (atC rev (l.map decoD)) (eKey (l.map decoD)) l.length := by
  have := (at_take h rev l.length (Nat.le_refl _)).2.1
  rwa [List.take_length] at this
theorem atL_filter {l : List ByteArray} (h : Good l) (rev : Nat) : atL rev l = (l.filter (atP rev l)).map fun k => (decoD k).1 := by
  have := (at_take h rev l.length (Nat.le_refl _)).2.2
  rwa [List.take_length] at this
theorem newL_fold {l : List ByteArray} (h : Good l) : newL l = l.foldl (fun n k => max n (decoD k).2.1) 0 := by
  unfold newL
  rw [good_pairs h, List.foldl_map]

/-- Of a row the ones ahead of k that have its Key are not older. -/
theorem good_older {l : List ByteArray} (h : Good l) {z k : ByteArray} (hz : z ∈ l) (hk : k ∈ l) (hlt : ltS z k = true) (he : (decoD z).1 = (decoD k).1) : (decoD k).2.1 ≤ (decoD z).2.1 := by
  obtain ⟨x, hx, rfl, dx⟩ := h.deco hz
  obtain ⟨y, hy, rfl, dy⟩ := h.deco hk
  rw [decoD_of dx, decoD_of dy] at *
  rcases inner_lt hx hy hlt with h | h
  · exact h.2
  · rw [he, ltS_irr] at h; cases h

theorem keepP_iff {floor : Nat} {bottom : Bool} {l : List ByteArray} {k : ByteArray} : keepP floor bottom l k = true ↔ floor < (decoD k).2.1 ∨ (FirstOf l floor k ∧ ¬ ((decoD k).2.2 = true ∧ bottom = true)) := by
  unfold keepP
  cases (decoD k).2.2 <;> cases bottom <;> simp
theorem atP_iff {rev : Nat} {l : List ByteArray} {k : ByteArray} : atP rev l k = true ↔ FirstOf l rev k ∧ (decoD k).2.2 = false := by
  unfold atP
  simp

theorem FirstOf.sub {l m : List ByteArray} {rev : Nat} {k : ByteArray} (h : FirstOf l rev k) (hs : ∀ z ∈ m, z ∈ l) : FirstOf m rev k := ⟨h.1, fun ⟨z, hz, h3⟩ => h.2 ⟨z, hs z hz, h3⟩⟩
theorem FirstOf.less {l : List ByteArray} {rev r : Nat} {k : ByteArray} (h : FirstOf l rev k) (hr : r ≤ rev) (hk : (decoD k).2.1 ≤ r) : FirstOf l r k := ⟨hk, fun ⟨z, hz, h1, h2, h3⟩ => h.2 ⟨z, hz, h1, h2, by omega⟩⟩

/-- What is first among the kept ones is first among all. -/
theorem first_up {l : List ByteArray} (h : Good l) {floor rev : Nat} {bottom : Bool} {k : ByteArray} (hk : k ∈ l) (hkk : keepP floor bottom l k = true) (hf : FirstOf (l.filter (keepP floor bottom l)) rev k) : FirstOf l rev k := by
  refine ⟨hf.1, fun ⟨z, hz, h1, h2, h3⟩ => ?_⟩
  by_cases hzf : floor < (decoD z).2.1
  · exact hf.2 ⟨z, List.mem_filter.2 ⟨hz, keepP_iff.2 (.inl hzf)⟩, h1, h2, h3⟩
  · have ho := good_older h hz hk h1 h2
    rcases keepP_iff.1 hkk with h4 | ⟨h4, _⟩
    · omega
    · exact h4.2 ⟨z, hz, h1, h2, by omega⟩

theorem keep_good {l : List ByteArray} (h : Good l) (floor : Nat) (bottom : Bool) : Good (keepL floor bottom l) := by
  rw [keepL_filter h]
  exact h.sub List.filter_sublist

/-- P18.2. -/
theorem at_keep {l : List ByteArray} (h : Good l) {floor rev : Nat} (bottom : Bool) (hr : floor ≤ rev) : atL rev (keepL floor bottom l) = atL rev l := by
  rw [atL_filter (keep_good h floor bottom), atL_filter h]
  congr 1
  rw [keepL_filter h, List.filter_filter]
  apply List.filter_congr
  intro k hk
  rw [Bool.eq_iff_iff, Bool.and_eq_true, atP_iff, atP_iff]
  constructor
  · rintro ⟨⟨h1, h2⟩, h3⟩
    exact ⟨first_up h hk h3 h1, h2⟩
  · rintro ⟨h1, h2⟩
    refine ⟨⟨h1.sub fun z hz => (List.mem_filter.1 hz).1, h2⟩, keepP_iff.2 ?_⟩
    by_cases hf : floor < (decoD k).2.1
    · exact .inl hf
    · exact .inr ⟨h1.less hr (by omega), by simp [h2]⟩

/-- P18.1: what is kept is kept again; by a greater floor no more is. -/
theorem keep_keep {l : List ByteArray} (h : Good l) {floor rev : Nat} (bottom : Bool) (hr : floor ≤ rev) : keepL rev bottom (keepL floor bottom l) = keepL rev bottom l := by
  rw [keepL_filter (keep_good h floor bottom), keepL_filter h rev, keepL_filter h floor, List.filter_filter]
  apply List.filter_congr
  intro k hk
  rw [Bool.eq_iff_iff, Bool.and_eq_true, keepP_iff, keepP_iff (floor := rev)]
  constructor
  · rintro ⟨h1, h3⟩
    rcases h1 with h1 | ⟨h1, h2⟩
    · exact .inl h1
    · exact .inr ⟨first_up h hk h3 h1, h2⟩
  · intro h1
    refine ⟨?_, keepP_iff.2 ?_⟩
    · rcases h1 with h1 | ⟨h1, h2⟩
      · exact .inl h1
      · exact .inr ⟨h1.sub fun z hz => (List.mem_filter.1 hz).1, h2⟩
    · by_cases hf : floor < (decoD k).2.1
      · exact .inl hf
      · rcases h1 with h1 | ⟨h1, h2⟩
        · omega
        · exact .inr ⟨h1.less hr (by omega), h2⟩

theorem keep_again {l : List ByteArray} (h : Good l) (floor : Nat) (bottom : Bool) : keepL floor bottom (keepL floor bottom l) = keepL floor bottom l := keep_keep h bottom (Nat.le_refl _)

theorem keep_length {l : List ByteArray} (h : Good l) (floor : Nat) (bottom : Bool) : (keepL floor bottom l).length ≤ l.length := by
  rw [keepL_filter h]; exact List.length_filter_le _ _

end Go.Proofs.YtcglegipdlaoiaaDoor
