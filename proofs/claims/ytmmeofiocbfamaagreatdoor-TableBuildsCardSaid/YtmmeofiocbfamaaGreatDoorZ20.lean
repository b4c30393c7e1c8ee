/- Plain laws: drop.Keep and drop.At as filters of a row of inner keys; what is kept of what is kept. Plain laws: rows of inner keys in several sources tell what all of them in one row tell. No condition: lemmas. -/
import Derived.Test.YtmmeofiocbfamaaGreatDoorZ19
namespace Go.Proofs.YtmmeofiocbfamaaGreatDoor
open Go Go.RowKit

/-- Is k the first of its Key in l whose Rev isn't greater than rev? -/
def FirstOf (l : List ByteArray) (rev : Nat) (k : ByteArray) : Prop :=
  (decoD k).2.1 ≤ rev ∧ ¬ ∃ z ∈ l, ltS z k = true ∧ (decoD z).1 = (decoD k).1 ∧ (decoD z).2.1 ≤ rev

theorem good_take_mem {l : List ByteArray} (h : Up l) {n : Nat} (hn : n < l.length) (z : ByteArray) : z ∈ l.take n ↔ z ∈ l ∧ ltS z l[n] = true := by
  constructor
  · intro hz
    refine ⟨List.mem_of_mem_take hz, ?_⟩
    obtain ⟨i, hi, rfl⟩ := List.getElem_of_mem hz
    rw [List.length_take] at hi
    rw [List.getElem_take]
    exact List.pairwise_iff_getElem.1 h i n (by omega) hn (by omega)
  · rintro ⟨hz, hlt⟩
    obtain ⟨i, hi, rfl⟩ := List.getElem_of_mem hz
    by_cases hin : i < n
    · exact List.mem_take_iff_getElem.2 ⟨i, by omega, rfl⟩
    · exfalso
      by_cases he : i = n
      · subst he; rw [ltS_irr] at hlt; cases hlt
      · have := ltS_trans (List.pairwise_iff_getElem.1 h n i hn hi (by omega)) hlt
        rw [ltS_irr] at this; cases this

theorem first_iff {l : List ByteArray} (h : Up l) {n : Nat} (hn : n < l.length) (rev : Nat) :
    ((decoD l[n]).2.1 ≤ rev ∧ ¬ ∃ z ∈ (l.take n).map decoD, z.1 = (decoD l[n]).1 ∧ z.2.1 ≤ rev) ↔ FirstOf l rev l[n] := by
  unfold FirstOf
  constructor
  · rintro ⟨h1, h2⟩
    refine ⟨h1, fun ⟨z, hz, h3, h4⟩ => h2 ⟨decoD z, List.mem_map_of_mem ((good_take_mem h hn z).2 ⟨hz, h3⟩), h4⟩⟩
  · rintro ⟨h1, h2⟩
    refine ⟨h1, fun ⟨z, hz, h4⟩ => ?_⟩
    obtain ⟨y, hy, rfl⟩ := List.mem_map.1 hz
    obtain ⟨h5, h6⟩ := (good_take_mem h hn y).1 hy
    exact h2 ⟨y, h5, h6, h4⟩

theorem firstD_iff {l : List ByteArray} {n : Nat} (hn : n < l.length) (rev : Nat) :
    firstD (l.map decoD) n rev = true ↔ ((decoD l[n]).2.1 ≤ rev ∧ ¬ ∃ z ∈ (l.take n).map decoD, z.1 = (decoD l[n]).1 ∧ z.2.1 ≤ rev) := by
  rw [firstD_get (by simpa using hn)]
  unfold firstB
  simp only [List.getElem_map, Bool.and_eq_true, decide_eq_true_eq, List.all_eq_true, Bool.not_eq_true', Bool.and_eq_false_iff, decide_eq_false_iff_not, ← List.map_take]
  constructor
  · rintro ⟨h1, h2⟩
    exact ⟨h1, fun ⟨z, hz, h3, h4⟩ => (h2 z hz).elim (fun e => e h3) (fun e => e h4)⟩
  · rintro ⟨h1, h2⟩
    refine ⟨h1, fun z hz => ?_⟩
    by_cases h3 : z.1 = (decoD l[n]).1
    · exact .inr fun h4 => h2 ⟨z, hz, h3, h4⟩
    · exact .inl h3

theorem inv_zero (rev : Nat) : InvF rev [] s0 := ⟨fun _ => rfl, fun y ys h => by simp at h⟩

open Classical in
/-- Does drop.Keep keep k? -/
noncomputable def keepP (floor : Nat) (bottom : Bool) (l : List ByteArray) (k : ByteArray) : Bool := decide (floor < (decoD k).2.1) || (decide (FirstOf l floor k) && !((decoD k).2.2 && bottom))
open Classical in
/-- Does drop.At tell k's Key? -/
noncomputable def atP (rev : Nat) (l : List ByteArray) (k : ByteArray) : Bool := decide (FirstOf l rev k) && !(decoD k).2.2

theorem is_first {l : List ByteArray} (h : Good l) {n : Nat} (hn : n < l.length) {rev : Nat} {s : St} (hi : InvF rev ((l.take n).map decoD) s) :
    InvF rev ((l.take (n + 1)).map decoD) (isStep rev s (decoD l[n])).2 ∧ ((isStep rev s (decoD l[n])).1 = true ↔ ((decoD l[n]).2.1 ≤ rev ∧ ¬ ∃ z ∈ (l.take n).map decoD, z.1 = (decoD l[n]).1 ∧ z.2.1 ≤ rev)) := by
  have ht : (l.take (n + 1)).map decoD = (l.take n).map decoD ++ [decoD l[n]] := by rw [List.take_succ_eq_append_getElem hn, List.map_append]; rfl
  rw [ht]
  refine inv_step ?_ hi
  rw [← ht]
  exact (h.sub (List.take_sublist _ _)).fine

open Classical in
theorem keep_take {l : List ByteArray} (h : Good l) (floor : Nat) (bottom : Bool) : ∀ n, n ≤ l.length →
    InvF floor ((l.take n).map decoD) ((pairs (l.take n)).foldl (keepF floor bottom) (s0, [])).1 ∧
      ((pairs (l.take n)).foldl (keepF floor bottom) (s0, [])).2 = rk (keepC floor bottom (l.map decoD)) (keyD l) n ∧
      ((pairs (l.take n)).foldl (keepF floor bottom) (s0, [])).2 = (l.take n).filter (keepP floor bottom l)
  | 0, _ => ⟨inv_zero _, rfl, rfl⟩
  | n + 1, hn => by
    obtain ⟨h1, h2, h3⟩ := keep_take h floor bottom n (by omega)
    have hlt : n < l.length := by omega
    obtain ⟨e, _, _, he⟩ := h.deco (List.getElem_mem hlt)
    have hd := decoD_of he
    rw [pairs_take l n hlt e he, List.foldl_append, ← hd]
    generalize (pairs (l.take n)).foldl (keepF floor bottom) (s0, []) = a at *
    obtain ⟨s, out⟩ := a
    obtain ⟨g1, g2⟩ := is_first h hlt h1
    dsimp only at *
    have e1 : (isStep floor s (decoD l[n])).1 = firstD (l.map decoD) n floor := by
      rw [Bool.eq_iff_iff, g2, firstD_iff hlt]
    have e2 : (isStep floor s (decoD l[n])).1 = decide (FirstOf l floor l[n]) := by
      rw [Bool.eq_iff_iff, g2, first_iff h.1 hlt, decide_eq_true_eq]
    have hkd : keyD l n = l[n] := by unfold keyD; rw [List.getD_eq_getElem?_getD, List.getElem?_eq_getElem hlt]; rfl
    have hen : entD (l.map decoD) n = decoD l[n] := by rw [entD_get (by simpa using hlt), List.getElem_map]
    have hc1 : keepC floor bottom (l.map decoD) n = (decide (floor < (decoD l[n]).2.1) || ((isStep floor s (decoD l[n])).1 && !((decoD l[n]).2.2 && bottom))) := by unfold keepC; rw [hen, e1]
    have hc2 : keepP floor bottom l l[n] = (decide (floor < (decoD l[n]).2.1) || ((isStep floor s (decoD l[n])).1 && !((decoD l[n]).2.2 && bottom))) := by unfold keepP; rw [e2]
    refine ⟨g1, ?_, ?_⟩
    · simp only [List.foldl_cons, List.foldl_nil, keepF]
      by_cases hb : keepC floor bottom (l.map decoD) n = true
      · rw [rk_hit hb, hkd, ← h2, ← hc1, if_pos hb]
      · rw [rk_miss (by simpa using hb), ← h2, ← hc1, if_neg hb]
    · simp only [List.foldl_cons, List.foldl_nil, keepF]
      rw [List.take_succ_eq_append_getElem hlt, List.filter_append, ← h3, ← hc2]
      by_cases hb : keepP floor bottom l l[n] = true
      · rw [if_pos hb]; simp [hb]
      · rw [if_neg hb]; simp [hb]

open Classical in
theorem at_take {l : List ByteArray} (h : Good l) (rev : Nat) : ∀ n, n ≤ l.length →
    InvF rev ((l.take n).map decoD) ((pairs (l.take n)).foldl (atF rev) (s0, [])).1 ∧
      ((pairs (l.take n)).foldl (atF rev) (s0, [])).2 = rk (atC rev (l.map decoD)) (eKey (l.map decoD)) n ∧
      ((pairs (l.take n)).foldl (atF rev) (s0, [])).2 = ((l.take n).filter (atP rev l)).map fun k => (decoD k).1
  | 0, _ => ⟨inv_zero _, rfl, rfl⟩
  | n + 1, hn => by
    obtain ⟨h1, h2, h3⟩ := at_take h rev n (by omega)
    have hlt : n < l.length := by omega
    obtain ⟨e, _, _, he⟩ := h.deco (List.getElem_mem hlt)
    have hd := decoD_of he
    rw [pairs_take l n hlt e he, List.foldl_append, ← hd]
    generalize (pairs (l.take n)).foldl (atF rev) (s0, []) = a at *
    obtain ⟨s, out⟩ := a
    obtain ⟨g1, g2⟩ := is_first h hlt h1
    dsimp only at *
    have e1 : (isStep rev s (decoD l[n])).1 = firstD (l.map decoD) n rev := by
      rw [Bool.eq_iff_iff, g2, firstD_iff hlt]
    have e2 : (isStep rev s (decoD l[n])).1 = decide (FirstOf l rev l[n]) := by
      rw [Bool.eq_iff_iff, g2, first_iff h.1 hlt, decide_eq_true_eq]
    have hen : entD (l.map decoD) n = decoD l[n] := by rw [entD_get (by simpa using hlt), List.getElem_map]
    have hkd : eKey (l.map decoD) n = (decoD l[n]).1 := by
      show (entD (l.map decoD) n).1 = _
      rw [hen]
    have hc1 : atC rev (l.map decoD) n = ((isStep rev s (decoD l[n])).1 && !(decoD l[n]).2.2) := by unfold atC; rw [hen, e1]
    have hc2 : atP rev l l[n] = ((isStep rev s (decoD l[n])).1 && !(decoD l[n]).2.2) := by unfold atP; rw [e2]
    refine ⟨g1, ?_, ?_⟩
    · simp only [List.foldl_cons, List.foldl_nil, atF]
      by_cases hb : atC rev (l.map decoD) n = true
      · rw [rk_hit hb, hkd, ← h2, ← hc1, if_pos hb]
      · rw [rk_miss (by simpa using hb), ← h2, ← hc1, if_neg hb]
    · simp only [List.foldl_cons, List.foldl_nil, atF]
      rw [List.take_succ_eq_append_getElem hlt, List.filter_append, List.map_append, ← h3, ← hc2]
      by_cases hb : atP rev l l[n] = true
      · rw [if_pos hb]; simp [hb]
      · rw [if_neg hb]; simp [hb]

theorem keepL_rk {l : List ByteArray} (h : Good l) (floor : Nat) (bottom : Bool) : keepL floor bottom l = rk (keepC floor bottom (l.map decoD)) (keyD l) l.length := by
  have := (keep_take h floor bottom l.length (Nat.le_refl _)).2.1
  rwa [List.take_length] at this
theorem keepL_filter {l : List ByteArray} (h : Good l) (floor : Nat) (bottom : Bool) : keepL floor bottom l = l.filter (keepP floor bottom l) := by
  have := (keep_take h floor bottom l.length (Nat.le_refl _)).2.2
  rwa [List.take_length] at this
theorem atL_rk {l : List ByteArray} (h : Good l) (rev : Nat) : atL rev l = rk (atC rev (l.map decoD)) (eKey (l.map decoD)) l.length := by
  have := (at_take h rev l.length (Nat.le_refl _)).2.1
  rwa [List.take_length] at this
theorem atL_filter {l : List ByteArray} (h : Good l) (rev : Nat) : atL rev l = (l.filter (atP rev l)).map fun k => (decoD k).1 := by
  have := (at_take h rev l.length (Nat.le_refl _)).2.2
  rwa [List.take_length] at this
theorem newL_fold {l : List ByteArray} (h : Good l) : newL l = l.foldl (fun n k => max n (decoD k).2.1) 0 := by
  unfold newL
  rw [good_pairs h, List.foldl_map]

/-- Of a row the ones ahead of k that have its Key are not older. -/
theorem good_older {l : List ByteArray} (h : Good l) {z k : ByteArray} (hz : z ∈ l) (hk : k ∈ l) (hlt : ltS z k = true) (he : (decoD z).1 = (decoD k).1) : (decoD k).2.1 ≤ (decoD z).2.1 := by
  obtain ⟨x, hx, rfl, dx⟩ := h.deco hz
  obtain ⟨y, hy, rfl, dy⟩ := h.deco hk
  rw [decoD_of dx, decoD_of dy] at *
  rcases inner_lt hx hy hlt with h | h
  · exact h.2
  · rw [he, ltS_irr] at h; cases h

theorem keepP_iff {floor : Nat} {bottom : Bool} {l : List ByteArray} {k : ByteArray} : keepP floor bottom l k = true ↔ floor < (decoD k).2.1 ∨ (FirstOf l floor k ∧ ¬ ((decoD k).2.2 = true ∧ bottom = true)) := by
  unfold keepP
  cases (decoD k).2.2 <;> cases bottom <;> simp
theorem atP_iff {rev : Nat} {l : List ByteArray} {k : ByteArray} : atP rev l k = true ↔ FirstOf l rev k ∧ (decoD k).2.2 = false := by
  unfold atP
  simp

theorem FirstOf.sub {l m : List ByteArray} {rev : Nat} {k : ByteArray} (h : FirstOf l rev k) (hs : ∀ z ∈ m, z ∈ l) : FirstOf m rev k := ⟨h.1, fun ⟨z, hz, h3⟩ => h.2 ⟨z, hs z hz, h3⟩⟩
theorem FirstOf.less {l : List ByteArray} {rev r : Nat} {k : ByteArray} (h : FirstOf l rev k) (hr : r ≤ rev) (hk : (decoD k).2.1 ≤ r) : FirstOf l r k := ⟨hk, fun ⟨z, hz, h1, h2, h3⟩ => h.2 ⟨z, hz, h1, h2, by omega⟩⟩

/-- What is first among the kept ones is first among all. -/
theorem first_up {l : List ByteArray} (h : Good l) {floor rev : Nat} {bottom : Bool} {k : ByteArray} (hk : k ∈ l) (hkk : keepP floor bottom l k = true) (hf : FirstOf (l.filter (keepP floor bottom l)) rev k) : FirstOf l rev k := by
  refine ⟨hf.1, fun ⟨z, hz, h1, h2, h3⟩ => ?_⟩
  by_cases hzf : floor < (decoD z).2.1
  · exact hf.2 ⟨z, List.mem_filter.2 ⟨hz, keepP_iff.2 (.inl hzf)⟩, h1, h2, h3⟩
  · have ho := good_older h hz hk h1 h2
    rcases keepP_iff.1 hkk with h4 | ⟨h4, _⟩
    · omega
    · exact h4.2 ⟨z, hz, h1, h2, by omega⟩

theorem keep_good {l : List ByteArray} (h : Good l) (floor : Nat) (bottom : Bool) : Good (keepL floor bottom l) := by
  rw [keepL_filter h]
  exact h.sub List.filter_sublist

/-- P18.2. -/
theorem at_keep {l : List ByteArray} (h : Good l) {floor rev : Nat} (bottom : Bool) (hr : floor ≤ rev) : atL rev (keepL floor bottom l) = atL rev l := by
  rw [atL_filter (keep_good h floor bottom), atL_filter h]
  congr 1
  rw [keepL_filter h, List.filter_filter]
  apply List.filter_congr
  intro k hk
  rw [Bool.eq_iff_iff, Bool.and_eq_true, atP_iff, atP_iff]
  constructor
  · rintro ⟨⟨h1, h2⟩, h3⟩
    exact ⟨first_up h hk h3 h1, h2⟩
  · rintro ⟨h1, h2⟩
    refine ⟨⟨h1.sub fun z hz => (List.mem_filter.1 hz).1, h2⟩, keepP_iff.2 ?_⟩
    by_cases hf : floor < (decoD k).2.1
    · exact .inl hf
    · exact .inr ⟨h1.less hr (by omega), by simp [h2]⟩

/-- P18.1: what is kept is kept again; by a greater floor no more is. -/
theorem keep_keep {l : List ByteArray} (h : Good l) {floor rev : Nat} (bottom : Bool) (hr : floor ≤ rev) : keepL rev bottom (keepL floor bottom l) = keepL rev bottom l := by
  rw [keepL_filter (keep_good h floor bottom), keepL_filter h rev, keepL_filter h floor, List.filter_filter]
  apply List.filter_congr
  intro k hk
  rw [Bool.eq_iff_iff, Bool.and_eq_true, keepP_iff, keepP_iff (floor := rev)]
  constructor
  · rintro ⟨h1, h3⟩
    rcases h1 with h1 | ⟨h1, h2⟩
    · exact .inl h1
    · exact .inr ⟨first_up h hk h3 h1, h2⟩
  · intro h1
    refine ⟨?_, keepP_iff.2 ?_⟩
    · rcases h1 with h1 | ⟨h1, h2⟩
      · exact .inl h1
      · exact .inr ⟨h1.sub fun z hz => (List.mem_filter.1 hz).1, h2⟩
    · by_cases hf : floor < (decoD k).2.1
      · exact .inl hf
      · rcases h1 with h1 | ⟨h1, h2⟩
        · omega
        · exact .inr ⟨h1.less hr (by omega), h2⟩

theorem keep_again {l : List ByteArray} (h : Good l) (floor : Nat) (bottom : Bool) : keepL floor bottom (keepL floor bottom l) = keepL floor bottom l := keep_keep h bottom (Nat.le_refl _)

theorem keep_length {l : List ByteArray} (h : Good l) (floor : Nat) (bottom : Bool) : (keepL floor bottom l).length ≤ l.length := by
  rw [keepL_filter h]; exact List.length_filter_le _ _

end Go.Proofs.YtmmeofiocbfamaaGreatDoor
namespace Go.Proofs.YtmmeofiocbfamaaGreatDoor
open Go Go.RowKit

/-- The first key that isn't less. -/
def seekL (l : List ByteArray) (k : ByteArray) : Option ByteArray := l.find? fun x => !ltS x k
/-- The lesser one. -/
def better (acc o : Option ByteArray) : Option ByteArray :=
  match o with
  | none => acc
  | some k => match acc with
    | none => some k
    | some b => if ltS k b then some k else some b
/-- The first key, of all rows, that isn't less. -/
def bestL (rows : List (List ByteArray)) (k : ByteArray) : Option ByteArray := rows.foldl (fun acc r => better acc (seekL r k)) none
/-- P17.1: all keys in one row. -/
def allL (rows : List (List ByteArray)) : List ByteArray := rows.foldl (fun out l => l.foldl (fun o k => (putS o k).1) out) []

/-- o is the least of S that isn't less than k. -/
def Least (S : ByteArray → Prop) (k : ByteArray) (o : Option ByteArray) : Prop :=
  match o with
  | none => ∀ x, S x → ltS x k = true
  | some y => S y ∧ ltS y k = false ∧ ∀ x, S x → ltS x k = false → ltS x y = false

theorem Least.unique {S : ByteArray → Prop} {k : ByteArray} : ∀ {o p : Option ByteArray}, Least S k o → Least S k p → o = p
  | none, none, _, _ => rfl
  | none, some y, h, ⟨h1, h2, _⟩ => by rw [h y h1] at h2; cases h2
  | some y, none, ⟨h1, h2, _⟩, h => by rw [h y h1] at h2; cases h2
  | some y, some z, ⟨h1, h2, h3⟩, ⟨g1, g2, g3⟩ => by
    by_cases he : y = z
    · rw [he]
    · have := ltS_total (g3 y h1 h2) he
      rw [h3 z g1 g2] at this; cases this

theorem seek_least : ∀ {l : List ByteArray}, Up l → ∀ k, Least (· ∈ l) k (seekL l k)
  | [], _, k => by simp [seekL, Least]
  | a :: l, h, k => by
    have h1 := (List.pairwise_cons.1 h).1
    have ih := seek_least (List.pairwise_cons.1 h).2 k
    unfold seekL at *
    rw [List.find?_cons]
    cases ha : ltS a k with
    | false =>
      simp only [Bool.not_false]
      refine ⟨by simp, ha, fun x hx _ => ?_⟩
      rcases List.mem_cons.1 hx with rfl | hx
      · exact ltS_irr _
      · cases hxa : ltS x a with
        | false => rfl
        | true => have := ltS_trans hxa (h1 x hx); rw [ltS_irr] at this; cases this
    | true =>
      simp only [Bool.not_true]
      generalize List.find? (fun x => !ltS x k) l = o at *
      cases o with
      | none =>
        intro x hx
        rcases List.mem_cons.1 hx with rfl | hx
        · exact ha
        · exact ih x hx
      | some y =>
        refine ⟨List.mem_cons_of_mem _ ih.1, ih.2.1, fun x hx hxk => ?_⟩
        rcases List.mem_cons.1 hx with rfl | hx
        · rw [ha] at hxk; cases hxk
        · exact ih.2.2 x hx hxk

theorem better_least {S T : ByteArray → Prop} {k : ByteArray} : ∀ {o p : Option ByteArray}, Least S k o → Least T k p → Least (fun x => S x ∨ T x) k (better o p)
  | none, none, h, g => fun x hx => hx.elim (h x) (g x)
  | some y, none, ⟨h1, h2, h3⟩, g => ⟨.inl h1, h2, fun x hx hk => hx.elim (fun hx => h3 x hx hk) (fun hx => by rw [g x hx] at hk; cases hk)⟩
  | none, some z, h, ⟨g1, g2, g3⟩ => ⟨.inr g1, g2, fun x hx hk => hx.elim (fun hx => by rw [h x hx] at hk; cases hk) (fun hx => g3 x hx hk)⟩
  | some y, some z, ⟨h1, h2, h3⟩, ⟨g1, g2, g3⟩ => by
    unfold better
    dsimp only
    cases hzy : ltS z y with
    | true =>
      rw [if_pos rfl]
      refine ⟨.inr g1, g2, fun x hx hk => hx.elim (fun hx => ?_) (fun hx => g3 x hx hk)⟩
      cases hxz : ltS x z with
      | false => rfl
      | true => have := h3 x hx hk; rw [ltS_trans hxz hzy] at this; cases this
    | false =>
      rw [if_neg (by simp)]
      refine ⟨.inl h1, h2, fun x hx hk => hx.elim (fun hx => h3 x hx hk) (fun hx => ?_)⟩
      have hxz := g3 x hx hk
      by_cases he : z = y
      · subst he; exact hxz
      · cases hxy : ltS x y with
        | false => rfl
        | true => have := ltS_trans hxy (ltS_total hzy he); rw [hxz] at this; cases this

theorem Least.congr {S T : ByteArray → Prop} {k : ByteArray} {o : Option ByteArray} (h : Least S k o) (e : ∀ x, S x ↔ T x) : Least T k o := by
  have : S = T := funext fun x => propext (e x)
  rwa [← this]

theorem best_fold {k : ByteArray} : ∀ {rows : List (List ByteArray)} {S : ByteArray → Prop} {o : Option ByteArray}, (∀ r ∈ rows, Up r) → Least S k o →
    Least (fun x => S x ∨ ∃ r ∈ rows, x ∈ r) k (rows.foldl (fun acc r => better acc (seekL r k)) o)
  | [], S, o, _, h => h.congr fun x => by simp
  | r :: rows, S, o, hu, h => by
    rw [List.foldl_cons]
    refine (best_fold (fun x hx => hu x (List.mem_cons_of_mem _ hx)) (better_least h (seek_least (hu r (by simp)) k))).congr fun x => ?_
    simp only [List.mem_cons, exists_eq_or_imp]
    constructor
    · rintro ((h | h) | h)
      · exact .inl h
      · exact .inr (.inl h)
      · exact .inr (.inr h)
    · rintro (h | h | h)
      · exact .inl (.inl h)
      · exact .inl (.inr h)
      · exact .inr h

theorem putAll_mem : ∀ (l out : List ByteArray) (x : ByteArray), x ∈ l.foldl (fun o k => (putS o k).1) out ↔ x ∈ out ∨ x ∈ l
  | [], out, x => by simp
  | a :: l, out, x => by
    rw [List.foldl_cons, putAll_mem l, putS_mem, List.mem_cons]
    constructor
    · rintro ((h | h) | h)
      · exact .inr (.inl h)
      · exact .inl h
      · exact .inr (.inr h)
    · rintro (h | h | h)
      · exact .inl (.inr h)
      · exact .inl (.inl h)
      · exact .inr h
theorem putAll_up : ∀ (l out : List ByteArray), Up out → Up (l.foldl (fun o k => (putS o k).1) out)
  | [], _, h => h
  | a :: l, out, h => putAll_up l _ (putS_up out a h)
theorem putAll_length : ∀ (l out : List ByteArray), (l.foldl (fun o k => (putS o k).1) out).length ≤ out.length + l.length
  | [], out => by simp
  | a :: l, out => by
    rw [List.foldl_cons]
    have := putAll_length l (putS out a).1
    have := putS_length out a
    simp only [List.length_cons]
    omega

def sumLen : List (List ByteArray) → Nat
  | [] => 0
  | l :: r => l.length + sumLen r

theorem all_mem' : ∀ (rows : List (List ByteArray)) (out : List ByteArray) (x : ByteArray), x ∈ rows.foldl (fun out l => l.foldl (fun o k => (putS o k).1) out) out ↔ x ∈ out ∨ ∃ r ∈ rows, x ∈ r
  | [], out, x => by simp
  | r :: rows, out, x => by
    rw [List.foldl_cons, all_mem' rows, putAll_mem]
    simp only [List.mem_cons, exists_eq_or_imp]
    constructor
    · rintro ((h | h) | h)
      · exact .inl h
      · exact .inr (.inl h)
      · exact .inr (.inr h)
    · rintro (h | h | h)
      · exact .inl (.inl h)
      · exact .inl (.inr h)
      · exact .inr h
theorem all_mem (rows : List (List ByteArray)) (x : ByteArray) : x ∈ allL rows ↔ ∃ r ∈ rows, x ∈ r := by
  unfold allL; rw [all_mem']; simp
theorem all_up' : ∀ (rows : List (List ByteArray)) (out : List ByteArray), Up out → Up (rows.foldl (fun out l => l.foldl (fun o k => (putS o k).1) out) out)
  | [], _, h => h
  | r :: rows, out, h => all_up' rows _ (putAll_up r out h)
theorem all_up (rows : List (List ByteArray)) : Up (allL rows) := all_up' rows [] List.Pairwise.nil
theorem all_length' : ∀ (rows : List (List ByteArray)) (out : List ByteArray), (rows.foldl (fun out l => l.foldl (fun o k => (putS o k).1) out) out).length ≤ out.length + sumLen rows
  | [], out => by simp [sumLen]
  | r :: rows, out => by
    rw [List.foldl_cons]
    have := all_length' rows (r.foldl (fun o k => (putS o k).1) out)
    have := putAll_length r out
    simp only [sumLen]
    omega
theorem all_good {rows : List (List ByteArray)} (h : ∀ r ∈ rows, Good r) : Good (allL rows) :=
  ⟨all_up rows, fun k hk => by obtain ⟨r, hr, hkr⟩ := (all_mem rows k).1 hk; exact (h r hr).2 k hkr⟩

/-- The first key of all sources is the first one of all keys. -/
theorem best_all {rows : List (List ByteArray)} (h : ∀ r ∈ rows, Up r) (k : ByteArray) : bestL rows k = seekL (allL rows) k := by
  have h1 : Least (fun x => False ∨ ∃ r ∈ rows, x ∈ r) k (bestL rows k) := best_fold h (S := fun _ => False) (fun x hx => hx.elim)
  refine Least.unique h1 ((seek_least (all_up rows) k).congr fun x => ?_)
  simp [all_mem]

/-- Rows that rise and have the same keys are the same. -/
theorem up_ext : ∀ {a b : List ByteArray}, Up a → Up b → (∀ x, x ∈ a ↔ x ∈ b) → a = b
  | [], [], _, _, _ => rfl
  | [], y :: b, _, _, h => by have := (h y).2 (by simp); cases this
  | x :: a, [], _, _, h => by have := (h x).1 (by simp); cases this
  | x :: a, y :: b, ha, hb, h => by
    have ha1 := (List.pairwise_cons.1 ha).1
    have hb1 := (List.pairwise_cons.1 hb).1
    have e : x = y := by
      rcases List.mem_cons.1 ((h x).1 (by simp)) with e | hx
      · exact e
      · rcases List.mem_cons.1 ((h y).2 (by simp)) with e | hy
        · exact e.symm
        · have := ltS_trans (ha1 y hy) (hb1 x hx)
          rw [ltS_irr] at this; cases this
    subst e
    rw [up_ext (List.pairwise_cons.1 ha).2 (List.pairwise_cons.1 hb).2 fun z => ?_]
    constructor
    · intro hz
      rcases List.mem_cons.1 ((h z).1 (List.mem_cons_of_mem _ hz)) with e | hz'
      · subst e; have := ha1 z hz; rw [ltS_irr] at this; cases this
      · exact hz'
    · intro hz
      rcases List.mem_cons.1 ((h z).2 (List.mem_cons_of_mem _ hz)) with e | hz'
      · subst e; have := hb1 z hz; rw [ltS_irr] at this; cases this
      · exact hz'

/-- What next answers. -/
abbrev Ans := Ent × Bool × Nat
def zeroE : Ent := (ByteArray.empty, 0, false)
def ansOf (o : Option ByteArray) : Ans :=
  match o with
  | none => (zeroE, false, 0)
  | some k => match deco k with
    | some x => (x, true, 0)
    | none => (zeroE, false, 9)
def nextL (A : List ByteArray) (k : ByteArray) : Ans := ansOf (seekL A k)
def getAns (key : ByteArray) (a : Ans) : Ans := if a.2.1 = false ∨ a.1.1 ≠ key then (zeroE, false, a.2.2) else (a.1, true, 0)
def getL (A : List ByteArray) (key : ByteArray) (rev : Nat) : Ans := getAns key (nextL A (innerA (key, rev, true)))
/-- What stands behind all versions of a key. -/
def pastA (key : ByteArray) : ByteArray := ⟨(esc key.data.toList ++ [0, 2]).toArray⟩

theorem ansOf_code (o : Option ByteArray) : (ansOf o).2.2 = 0 ∨ (ansOf o).2.2 = 9 := by
  unfold ansOf
  cases o with
  | none => exact .inl rfl
  | some k => dsimp only; cases deco k <;> simp
theorem getAns_code (key : ByteArray) (a : Ans) (h : a.2.2 = 0 ∨ a.2.2 = 9) : (getAns key a).2.2 = 0 ∨ (getAns key a).2.2 = 9 := by
  unfold getAns
  split
  · exact h
  · exact .inl rfl

section
variable (A : List ByteArray) (tto : ByteArray) (rev : Nat) (most : Int)
/-- P19.1, as the code does it. -/
def scanF : Nat → ByteArray → List ByteArray → List ByteArray × Nat
  | 0, _, out => (out, 0)
  | n + 1, at_, out =>
    if ¬ (most < 1 ∨ (out.length : Int) < most) then (out, 0)
    else if (nextL A at_).2.2 ≠ 0 then ([], (nextL A at_).2.2)
    else if (nextL A at_).2.1 = false ∨ (tto.size ≠ 0 ∧ ltS (nextL A at_).1.1 tto = false) then (out, 0)
    else if (getL A (nextL A at_).1.1 rev).2.2 ≠ 0 then ([], (getL A (nextL A at_).1.1 rev).2.2)
    else scanF n (pastA (nextL A at_).1.1) (if (getL A (nextL A at_).1.1 rev).2.1 = true ∧ (getL A (nextL A at_).1.1 rev).1.2.2 = false then out ++ [(nextL A at_).1.1] else out)
end

/-- How many keys aren't less. -/
def cnt (A : List ByteArray) (k : ByteArray) : Nat := (A.filter fun x => !ltS x k).length

theorem seek_mem {A : List ByteArray} {k y : ByteArray} (h : seekL A k = some y) : y ∈ A ∧ ltS y k = false := by
  unfold seekL at h
  refine ⟨List.mem_of_find?_eq_some h, ?_⟩
  have := List.find?_some h
  simpa using this

theorem next_some {A : List ByteArray} {k : ByteArray} (h : (nextL A k).2.1 = true) : ∃ y, seekL A k = some y ∧ deco y = some (nextL A k).1 := by
  unfold nextL ansOf at *
  cases hs : seekL A k with
  | none => rw [hs] at h; cases h
  | some y =>
    rw [hs] at h
    dsimp only at *
    cases hd : deco y with
    | none => rw [hd] at h; cases h
    | some x => exact ⟨y, rfl, hd⟩

theorem deco_scan {k : ByteArray} {x : Ent} (h : deco k = some x) : ∃ rest, k.data.toList = esc x.1.data.toList ++ 0 :: 1 :: rest := by
  unfold deco at h
  obtain ⟨⟨a, b, c⟩, ho, rfl⟩ := Option.map_eq_some_iff.1 h
  unfold outerS at ho
  cases hs : scan k.data.toList with
  | none => rw [hs] at ho; cases ho
  | some y =>
    obtain ⟨a', rest⟩ := y
    rw [hs] at ho
    dsimp only at ho
    split at ho
    · simp only [Option.some.injEq, Prod.mk.injEq] at ho
      obtain ⟨rfl, _⟩ := ho
      exact ⟨rest, scan_some _ hs⟩
    · cases ho

theorem esc_ge : ∀ s : List UInt8, s.length ≤ (esc s).length
  | [] => by simp
  | c :: s => by
    have := esc_ge s
    unfold esc
    split <;> simp <;> omega

theorem deco_size {k : ByteArray} {x : Ent} (h : deco k = some x) : x.1.size ≤ k.size := by
  obtain ⟨rest, hr⟩ := deco_scan h
  have h1 := esc_ge x.1.data.toList
  have h2 := congrArg List.length hr
  have e1 : k.data.toList.length = k.size := Array.length_toList
  have e2 : x.1.data.toList.length = x.1.size := Array.length_toList
  simp only [List.length_append, List.length_cons] at h2
  omega

theorem lt_past {k : ByteArray} {x : Ent} (h : deco k = some x) : ltS k (pastA x.1) = true := by
  obtain ⟨rest, hr⟩ := deco_scan h
  unfold ltS pastA
  rw [ByteArray.toList_eq, ByteArray.toList_eq, hr, bl_common]
  simp [Op.bytesLess]

/-- What isn't less than c isn't less than b, which is less than c. -/
theorem not_lt_of {x b c : ByteArray} (hbc : ltS b c = true) (h : ltS x c = false) : ltS x b = false := by
  cases hxb : ltS x b with
  | false => rfl
  | true => rw [ltS_trans hxb hbc] at h; cases h
theorem not_lt_le {x b c : ByteArray} (hbc : ltS c b = false) (h : ltS x c = false) : ltS x b = false := by
  by_cases e : b = c
  · subst e; exact h
  · exact not_lt_of (ltS_total hbc (Ne.symm e)) h

theorem filter_len_lt {p q : ByteArray → Bool} : ∀ {A : List ByteArray} {k : ByteArray}, k ∈ A → p k = true → q k = false → (∀ x ∈ A, q x = true → p x = true) → (A.filter q).length < (A.filter p).length
  | a :: A, k, hk, hp, hq, h => by
    have hle : ∀ B : List ByteArray, (∀ x ∈ B, q x = true → p x = true) → (B.filter q).length ≤ (B.filter p).length := by
      intro B hB
      induction B with
      | nil => simp
      | cons b B ih =>
        have := ih fun x hx => hB x (List.mem_cons_of_mem _ hx)
        rw [List.filter_cons, List.filter_cons]
        cases hqb : q b with
        | true => rw [hB b (by simp) hqb]; simp; omega
        | false => cases p b <;> simp <;> omega
    rw [List.filter_cons, List.filter_cons]
    rcases List.mem_cons.1 hk with rfl | hk
    · rw [hp, hq]
      have := hle A fun x hx => h x (List.mem_cons_of_mem _ hx)
      simp; omega
    · have ih := filter_len_lt hk hp hq fun x hx => h x (List.mem_cons_of_mem _ hx)
      cases hqa : q a with
      | true => rw [h a (by simp) hqa]; simp; omega
      | false => cases p a <;> simp <;> omega

theorem cnt_lt {A : List ByteArray} {k : ByteArray} (h : (nextL A k).2.1 = true) : cnt A (pastA (nextL A k).1.1) < cnt A k := by
  obtain ⟨y, hs, hd⟩ := next_some h
  obtain ⟨hm, hk⟩ := seek_mem hs
  have hp := lt_past hd
  unfold cnt
  refine filter_len_lt hm (by simp [hk]) (by simp [hp]) fun x _ hx => ?_
  have hx' : ltS x (pastA (nextL A k).1.1) = false := by simpa using hx
  have := not_lt_le hk (not_lt_of hp hx')
  simp [this]

end Go.Proofs.YtmmeofiocbfamaaGreatDoor
