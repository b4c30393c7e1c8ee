/- Lemmas for the claim, no condition. -/
import Derived.DeepKeys4
import Derived.RangeFuncGives
import Derived.RangeFuncNested
import Derived.RangeFuncLeaves
import Derived.WalkKit
import Derived.OwnWalkIn
import Derived.TacticsInMore
import Derived.RegionIn
import Derived.LoopNIn
import Derived.LoopIn
import Derived.Test.YtipddhcfcehcaaaYT11
import Derived.Test.YtipddhcfcehcaaaYT1
import Derived.Test.YtipddhcfcehcaaaYT2
import Derived.Test.YtipddhcfcehcaaaYT0
namespace Go.Proofs.Ytipddhcfcehcaaa
open Go Go.RowKit

def TL (b : ByteArray) : List UInt8 := b.data.toList
theorem TL_append (a b : ByteArray) : TL (a ++ b) = TL a ++ TL b := by unfold TL; rw [ByteArray.data_append, Array.toList_append]
theorem TL_inj {a b : ByteArray} (h : TL a = TL b) : a = b := ByteArray.ext (by rw [← Array.toList_inj]; exact h)
theorem split_at {c : UInt8} : ∀ {l1 l2 r1 r2 : List UInt8}, l1 ++ c :: r1 = l2 ++ c :: r2 → c ∉ l1 → c ∉ l2 → l1 = l2 ∧ r1 = r2
  | [], [], _, _, h, _, _ => ⟨rfl, by injection h⟩
  | [], b :: l2, _, _, h, _, h2 => by
    injection h with h _
    exact absurd (by rw [h]; exact List.mem_cons_self) h2
  | a :: l1, [], _, _, h, h1, _ => by
    injection h with h _
    exact absurd (by rw [h]; exact List.mem_cons_self) h1
  | a :: l1, b :: l2, _, _, h, h1, h2 => by
    injection h with ha h
    obtain ⟨e1, e2⟩ := split_at h (fun h => h1 (List.mem_cons_of_mem _ h)) (fun h => h2 (List.mem_cons_of_mem _ h))
    exact ⟨by rw [ha, e1], e2⟩
/-- Ahead of which something ends. -/
def Ends (p : UInt8 → Bool) (x : List UInt8) : Prop := x = [] ∨ ∃ c r, x = c :: r ∧ p c = false
theorem span_eq {p : UInt8 → Bool} : ∀ {l1 l2 x y : List UInt8}, l1 ++ x = l2 ++ y → (∀ c ∈ l1, p c = true) → (∀ c ∈ l2, p c = true) → Ends p x → Ends p y → l1 = l2 ∧ x = y
  | [], [], _, _, h, _, _, _, _ => ⟨rfl, h⟩
  | [], b :: l2, _, _, h, _, h2, hx, _ => by
    rcases hx with rfl | ⟨c, r, rfl, hc⟩
    · cases h
    · injection h with h _
      have := h2 b List.mem_cons_self
      rw [← h, hc] at this
      cases this
  | a :: l1, [], _, _, h, h1, _, _, hy => by
    rcases hy with rfl | ⟨c, r, rfl, hc⟩
    · cases h
    · injection h with h _
      have := h1 a List.mem_cons_self
      rw [h, hc] at this
      cases this
  | a :: l1, b :: l2, _, _, h, h1, h2, hx, hy => by
    injection h with ha h
    obtain ⟨e1, e2⟩ := span_eq h (fun c hc => h1 c (List.mem_cons_of_mem _ hc)) (fun c hc => h2 c (List.mem_cons_of_mem _ hc)) hx hy
    exact ⟨by rw [ha, e1], e2⟩
/-- A leaf's letters. -/
def lc (c : UInt8) : Bool := okc c || c == 62
theorem own_chars {a : ByteArray} (h : ownB a = true) : (∀ c ∈ TL a, okc c = true) ∧ TL a ≠ [] ∧ a ≠ ⟨#[116, 104, 105, 115]⟩ := by
  unfold ownB isNm at h
  simp only [Bool.and_eq_true, List.all_eq_true, decide_eq_true_eq] at h
  refine ⟨h.1.1, fun e => ?_, h.2⟩
  have : a.size = 0 := by
    have := congrArg List.length e
    simpa [TL] using this
  omega
theorem okc_gt : okc 62 = false := by kernel_rfl
def isLeaf (r : RT) : Prop := r.k = 1 ∨ r.k = 2 ∨ r.k = 3
theorem leaf_form {r : RT} {d : Nat} (h : r.textOk d = true) (hl : isLeaf r) : r = .mk 1 ⟨#[]⟩ ⟨#[]⟩ [] ∨ (∃ a, ownB a = true ∧ r = .mk 2 a ⟨#[]⟩ []) ∨ ∃ a b, ownB a = true ∧ ownB b = true ∧ r = .mk 3 a b [] := by
  obtain ⟨k, a, b, ps⟩ := r
  rcases hl with hk | hk | hk <;> (dsimp only [RT.k] at hk; subst hk)
  · rw [RT.textOk, if_pos rfl] at h
    simp only [Bool.and_eq_true, decide_eq_true_eq] at h
    obtain ⟨⟨h1, h2⟩, h3⟩ := h
    exact .inl (by rw [ba_size_eq h1, ba_size_eq h2, List.eq_nil_of_length_eq_zero h3])
  · rw [RT.textOk, if_neg (by decide), if_pos rfl] at h
    simp only [Bool.and_eq_true, decide_eq_true_eq] at h
    obtain ⟨⟨h1, h2⟩, h3⟩ := h
    exact .inr (.inl ⟨a, h1, by rw [ba_size_eq h2, List.eq_nil_of_length_eq_zero h3]⟩)
  · rw [RT.textOk, if_neg (by decide), if_neg (by decide), if_pos rfl] at h
    simp only [Bool.and_eq_true, decide_eq_true_eq] at h
    obtain ⟨⟨h1, h2⟩, h3⟩ := h
    exact .inr (.inr ⟨a, b, h1, h2, by rw [List.eq_nil_of_length_eq_zero h3]⟩)
theorem text1 : TL (RT.mk 1 ⟨#[]⟩ ⟨#[]⟩ []).text = [116, 104, 105, 115] := by rw [RT.text]; rfl
theorem text2 (a : ByteArray) : TL (RT.mk 2 a ⟨#[]⟩ []).text = TL a := by rw [RT.text]; rfl
theorem text3 (a b : ByteArray) : TL (RT.mk 3 a b []).text = (TL a ++ [45]) ++ 62 :: TL b := by
  rw [RT.text, if_neg (by decide), if_neg (by decide), if_pos rfl, TL_append, TL_append]
  simp [TL]
theorem leaf_chars {r : RT} {d : Nat} (h : r.textOk d = true) (hl : isLeaf r) : (∀ c ∈ TL r.text, lc c = true) ∧ TL r.text ≠ [] := by
  rcases leaf_form h hl with rfl | ⟨a, ha, rfl⟩ | ⟨a, b, ha, hb, rfl⟩
  · rw [text1]
    exact ⟨by decide, by simp⟩
  · rw [text2]
    obtain ⟨h1, h2, _⟩ := own_chars ha
    exact ⟨fun c hc => by unfold lc; rw [h1 c hc]; rfl, h2⟩
  · rw [text3]
    obtain ⟨h1, h2, _⟩ := own_chars ha
    obtain ⟨h3, h4, _⟩ := own_chars hb
    refine ⟨fun c hc => ?_, by simp⟩
    unfold lc
    simp only [List.mem_append, List.mem_cons, List.not_mem_nil, or_false] at hc
    rcases hc with (hc | rfl) | rfl | hc
    · rw [h1 c hc]; rfl
    · kernel_rfl
    · kernel_rfl
    · rw [h3 c hc]; rfl
theorem no_gt {a : ByteArray} (h : ownB a = true) : (62 : UInt8) ∉ TL a := fun hm => by
  have := (own_chars h).1 _ hm
  rw [okc_gt] at this
  cases this
theorem leaf_inj {r q : RT} {d e : Nat} (h : r.textOk d = true) (hl : isLeaf r) (h' : q.textOk e = true) (hl' : isLeaf q) (ht : TL r.text = TL q.text) : r = q := by
  rcases leaf_form h hl with rfl | ⟨a, ha, rfl⟩ | ⟨a, b, ha, hb, rfl⟩ <;> rcases leaf_form h' hl' with rfl | ⟨a', ha', rfl⟩ | ⟨a', b', ha', hb', rfl⟩
  · rfl
  · rw [text1, text2] at ht
    exact absurd (TL_inj (a := a') (b := ⟨#[116, 104, 105, 115]⟩) ht.symm) (own_chars ha').2.2
  · rw [text1, text3] at ht
    have : (62 : UInt8) ∈ ([116, 104, 105, 115] : List UInt8) := by rw [ht]; simp
    exact absurd this (by decide)
  · rw [text1, text2] at ht
    exact absurd (TL_inj (a := a) (b := ⟨#[116, 104, 105, 115]⟩) ht) (own_chars ha).2.2
  · rw [text2, text2] at ht
    rw [TL_inj ht]
  · rw [text2, text3] at ht
    exact absurd (by rw [ht]; simp) (no_gt ha)
  · rw [text1, text3] at ht
    have : (62 : UInt8) ∈ ([116, 104, 105, 115] : List UInt8) := by rw [← ht]; simp
    exact absurd this (by decide)
  · rw [text2, text3] at ht
    exact absurd (by rw [← ht]; simp) (no_gt ha')
  · rw [text3, text3] at ht
    obtain ⟨e1, e2⟩ := split_at ht (by simp [no_gt ha]) (by simp [no_gt ha'])
    have e3 : TL a = TL a' := by simpa using e1
    rw [TL_inj e3, TL_inj e2]
/-- What may follow a rule, a union's part, a part of what is not a union. -/
def S0 (x : List UInt8) : Prop := x = [] ∨ ∃ r, x = 41 :: r ∨ x = 10 :: r
def S1 (x : List UInt8) : Prop := S0 x ∨ ∃ r, x = 32 :: 124 :: r
def S2 (x : List UInt8) : Prop := S1 x ∨ ∃ r, x = 32 :: 38 :: r
theorem S2.ends {x : List UInt8} (h : S2 x) : Ends lc x := by
  rcases h with ((rfl | ⟨r, rfl | rfl⟩) | ⟨r, rfl⟩) | ⟨r, rfl⟩
  · exact .inl rfl
  · exact .inr ⟨_, _, rfl, by kernel_rfl⟩
  · exact .inr ⟨_, _, rfl, by kernel_rfl⟩
  · exact .inr ⟨_, _, rfl, by kernel_rfl⟩
  · exact .inr ⟨_, _, rfl, by kernel_rfl⟩
theorem S0.no {x r : List UInt8} (h : S0 x) : x ≠ 32 :: r := by
  rcases h with rfl | ⟨r', rfl | rfl⟩
  · intro e; cases e
  · intro e; injection e with e _; exact absurd e (by decide)
  · intro e; injection e with e _; exact absurd e (by decide)
theorem S1.no {x r : List UInt8} (h : S1 x) : x ≠ 32 :: 38 :: r := by
  rcases h with h | ⟨r', rfl⟩
  · exact h.no
  · intro e
    injection e with _ e
    injection e with e _
    exact absurd e (by decide)
/-- A group's parts. -/
theorem group_form {r : RT} {d : Nat} {k : Int} (h : r.textOk d = true) (hk : r.k = k) (h45 : k = 4 ∨ k = 5) : ∃ ps, r = .mk k ⟨#[]⟩ ⟨#[]⟩ ps ∧ 2 ≤ ps.length ∧ ∀ p ∈ ps, p.k ≠ k ∧ ∃ d, p.textOk d = true := by
  obtain ⟨k', a, b, ps⟩ := r
  dsimp only [RT.k] at hk
  subst hk
  rw [RT.textOk, if_neg (by omega), if_neg (by omega), if_neg (by omega), if_pos h45] at h
  simp only [Bool.and_eq_true, decide_eq_true_eq] at h
  obtain ⟨⟨⟨h1, h2⟩, h3⟩, h4⟩ := h
  refine ⟨ps, by rw [ba_size_eq h1, ba_size_eq h2], h3, fun p hp => ?_⟩
  rw [textL_eq, List.all_eq_true] at h4
  have := h4 p hp
  unfold goodP at this
  simp only [Bool.and_eq_true, decide_eq_true_eq] at this
  exact ⟨this.1.1, _, this.2⟩
def restL (k : Int) : List RT → List UInt8 | [] => [] | p :: ps => TL (sepT k) ++ (TL (txtP k p) ++ restL k ps)
theorem restL_eq (k : Int) : ∀ l : List RT, TL (restT k l) = restL k l
  | [] => by rw [restT]; rfl
  | p :: ps => by
    rw [restT, TL_append, TL_append, restL_eq k ps]
    rfl
theorem text_group {k : Int} (h45 : k = 4 ∨ k = 5) (p : RT) (ps : List RT) : TL (RT.mk k ⟨#[]⟩ ⟨#[]⟩ (p :: ps)).text = TL (txtP k p) ++ restL k ps := by
  rw [RT.text, if_neg (by omega), if_neg (by omega), if_neg (by omega), firstT, TL_append, restL_eq]
  rfl
theorem rest_inj {k : Int} (h45 : k = 4 ∨ k = 5) {S F : List UInt8 → Prop} (hF : ∀ x, S x → F x) (hF2 : ∀ x, F (TL (sepT k) ++ x)) (hno : ∀ x y, S x → x ≠ TL (sepT k) ++ y) :
    ∀ (ps qs : List RT) (x y : List UInt8), (∀ p ∈ ps, ∀ q ∈ qs, ∀ x y, F x → F y → TL (txtP k p) ++ x = TL (txtP k q) ++ y → p = q ∧ x = y) → S x → S y → restL k ps ++ x = restL k qs ++ y → ps = qs ∧ x = y
  | [], [], _, _, _, _, _, h => ⟨rfl, h⟩
  | [], q :: qs, x, y, _, hx, _, h => by
    rw [restL, restL, List.nil_append, List.append_assoc] at h
    exact absurd h (hno _ _ hx)
  | p :: ps, [], x, y, _, _, hy, h => by
    rw [restL, restL, List.nil_append, List.append_assoc] at h
    exact absurd h.symm (hno _ _ hy)
  | p :: ps, q :: qs, x, y, ih, hx, hy, h => by
    rw [restL, restL] at h
    simp only [List.append_assoc] at h
    have h := List.append_cancel_left h
    have fol : ∀ (l : List RT) (z : List UInt8), S z → F (restL k l ++ z) := fun l z hz => by
      cases l with
      | nil => exact hF z hz
      | cons a l => rw [restL, List.append_assoc]; exact hF2 _
    obtain ⟨rfl, h2⟩ := ih p List.mem_cons_self q List.mem_cons_self _ _ (fol ps x hx) (fol qs y hy) h
    obtain ⟨rfl, rfl⟩ := rest_inj h45 hF hF2 hno ps qs x y (fun p hp q hq => ih p (List.mem_cons_of_mem _ hp) q (List.mem_cons_of_mem _ hq)) hx hy h2
    exact ⟨rfl, rfl⟩
theorem txtP4 (p : RT) : txtP 4 p = p.text := by unfold txtP; rw [if_neg (by omega)]
theorem txtP5 {p : RT} (h : p.k ≠ 4) : txtP 5 p = p.text := by unfold txtP; rw [if_neg (by omega)]
theorem txtP5' {p : RT} (h : p.k = 4) : TL (txtP 5 p) = 40 :: (TL p.text ++ [41]) := by
  unfold txtP
  rw [if_pos ⟨rfl, h⟩, TL_append, TL_append]
  rfl
theorem kinds {r : RT} {d : Nat} (h : r.textOk d = true) : isLeaf r ∨ r.k = 4 ∨ r.k = 5 := by
  obtain ⟨k, a, b, ps⟩ := r
  unfold isLeaf
  dsimp only [RT.k]
  rw [RT.textOk] at h
  by_cases h1 : k = 1
  · omega
  · by_cases h2 : k = 2
    · omega
    · by_cases h3 : k = 3
      · omega
      · by_cases h4 : k = 4 ∨ k = 5
        · omega
        · rw [if_neg h1, if_neg h2, if_neg h3, if_neg h4] at h
          cases h
/-- The three levels. -/
def Item (r : RT) : Prop := ∀ (q : RT) (d e : Nat) (x y : List UInt8), r.textOk d = true → q.textOk e = true → r.k ≠ 4 → q.k ≠ 4 → S1 x → S1 y → TL r.text ++ x = TL q.text ++ y → r = q ∧ x = y
def Tops (r : RT) : Prop := ∀ (q : RT) (d e : Nat) (x y : List UInt8), r.textOk d = true → q.textOk e = true → S0 x → S0 y → TL r.text ++ x = TL q.text ++ y → r = q ∧ x = y
def Atom (r : RT) : Prop := ∀ (q : RT) (d e : Nat) (x y : List UInt8), r.textOk d = true → q.textOk e = true → r.k ≠ 5 → q.k ≠ 5 → S2 x → S2 y → TL (txtP 5 r) ++ x = TL (txtP 5 q) ++ y → r = q ∧ x = y
theorem lc_par : lc 40 = false := by kernel_rfl
theorem leaf_vs {r q : RT} {d e : Nat} {x y : List UInt8} (h : r.textOk d = true) (h' : q.textOk e = true) (hl : isLeaf r) (hl' : isLeaf q) (hx : S2 x) (hy : S2 y) (ht : TL r.text ++ x = TL q.text ++ y) : r = q ∧ x = y := by
  obtain ⟨e1, e2⟩ := span_eq ht (leaf_chars h hl).1 (leaf_chars h' hl').1 hx.ends hy.ends
  exact ⟨leaf_inj h hl h' hl' e1, e2⟩
/-- A group's text begins with its first part's. -/
theorem group5 {q : RT} {e : Nat} (h : q.textOk e = true) (hk : q.k = 5) : ∃ p p2 ps, q = .mk 5 ⟨#[]⟩ ⟨#[]⟩ (p :: p2 :: ps) ∧ (∀ z ∈ p :: p2 :: ps, z.k ≠ 5 ∧ ∃ d, z.textOk d = true) := by
  obtain ⟨ps, rfl, h2, h3⟩ := group_form h hk (.inr rfl)
  match ps, h2 with
  | p :: p2 :: ps, _ => exact ⟨p, p2, ps, rfl, h3⟩
theorem group4 {q : RT} {e : Nat} (h : q.textOk e = true) (hk : q.k = 4) : ∃ p p2 ps, q = .mk 4 ⟨#[]⟩ ⟨#[]⟩ (p :: p2 :: ps) ∧ (∀ z ∈ p :: p2 :: ps, z.k ≠ 4 ∧ ∃ d, z.textOk d = true) := by
  obtain ⟨ps, rfl, h2, h3⟩ := group_form h hk (.inl rfl)
  match ps, h2 with
  | p :: p2 :: ps, _ => exact ⟨p, p2, ps, rfl, h3⟩
theorem leaf_k {r : RT} (h : isLeaf r) : r.k ≠ 4 ∧ r.k ≠ 5 := by unfold isLeaf at h; omega
theorem sep5 : TL (sepT 5) = [32, 38, 32] := rfl
/-- A leaf is no group of 5. -/
theorem leaf_not5 {r q : RT} {d e : Nat} {x y : List UInt8} (h : r.textOk d = true) (h' : q.textOk e = true) (hl : isLeaf r) (hk : q.k = 5) (hx : S1 x) (hy : S1 y) (ht : TL r.text ++ x = TL q.text ++ y) : False := by
  obtain ⟨p, p2, ps, rfl, hp⟩ := group5 h' hk
  rw [text_group (.inr rfl), restL, sep5] at ht
  obtain ⟨hpk, dp, hpd⟩ := hp p List.mem_cons_self
  rcases kinds hpd with hpl | hp4 | hp5
  · rw [txtP5 (leaf_k hpl).1, List.append_assoc] at ht
    obtain ⟨_, e2⟩ := leaf_vs h hpd hl hpl (.inl hx) (.inr ⟨_, rfl⟩) ht
    exact hx.no e2
  · rw [txtP5' hp4] at ht
    obtain ⟨h1, h2⟩ := leaf_chars h hl
    cases ht' : TL r.text with
    | nil => exact h2 ht'
    | cons c l =>
      rw [ht'] at ht h1
      injection ht with hc _
      have := h1 c List.mem_cons_self
      rw [hc, lc_par] at this
      cases this
  · exact hpk hp5
theorem all_levels : ∀ (n : Nat) (r : RT), r.sz ≤ n → Item r ∧ Tops r ∧ Atom r := by
  intro n
  induction n with
  | zero => intro r hr; have := r.sz_eq; omega
  | succ n ih =>
    intro r hr
    have hparts : ∀ p ∈ r.ps, Item p ∧ Tops p ∧ Atom p := fun p hp => ih p (by have := RT.sz_lt hp; omega)
    have hitem : Item r := by
      intro q d e x y h h' hk hk' hx hy ht
      rcases kinds h with hl | h4 | h5
      · rcases kinds h' with hl' | h4' | h5'
        · exact leaf_vs h h' hl hl' (.inl hx) (.inl hy) ht
        · exact absurd h4' hk'
        · exact (leaf_not5 h h' hl h5' hx hy ht).elim
      · exact absurd h4 hk
      · rcases kinds h' with hl' | h4' | h5'
        · exact (leaf_not5 h' h hl' h5 hy hx ht.symm).elim
        · exact absurd h4' hk'
        · obtain ⟨p, p2, ps, rfl, hp⟩ := group5 h h5
          obtain ⟨q, q2, qs, rfl, hq⟩ := group5 h' h5'
          rw [text_group (.inr rfl), text_group (.inr rfl), List.append_assoc, List.append_assoc] at ht
          have hA : ∀ a ∈ p :: p2 :: ps, ∀ b ∈ q :: q2 :: qs, ∀ x y, S2 x → S2 y → TL (txtP 5 a) ++ x = TL (txtP 5 b) ++ y → a = b ∧ x = y := fun a ha b hb x y hx hy ht => by
            obtain ⟨d1, o1⟩ := (hp a ha).2
            obtain ⟨d2, o2⟩ := (hq b hb).2
            exact (hparts a ha).2.2 b d1 d2 x y o1 o2 (hp a ha).1 (hq b hb).1 hx hy ht
          obtain ⟨rfl, ht2⟩ := hA p List.mem_cons_self q List.mem_cons_self _ _ (.inr ⟨_, rfl⟩) (.inr ⟨_, rfl⟩) ht
          obtain ⟨e1, e2⟩ := rest_inj (.inr rfl) (S := S1) (F := S2) (fun x h => .inl h) (fun x => .inr ⟨_, rfl⟩) (fun x y h => h.no) (p2 :: ps) (q2 :: qs) x y (fun a ha b hb => hA a (List.mem_cons_of_mem _ ha) b (List.mem_cons_of_mem _ hb)) hx hy ht2
          exact ⟨by rw [e1], e2⟩
    have htop : Tops r := by
      intro q d e x y h h' hx hy ht
      have vs4 : ∀ {a b : RT} {da db : Nat} {x y : List UInt8}, a.textOk da = true → b.textOk db = true → (∀ p ∈ a.ps, Item p) ∨ Item b → a.k = 4 → b.k ≠ 4 → S0 x → S0 y → TL a.text ++ x = TL b.text ++ y → False := by
        intro a b da db x y ha hb hI ha4 hb4 hx hy ht
        obtain ⟨p, p2, ps, rfl, hp⟩ := group4 ha ha4
        rw [text_group (.inl rfl), txtP4, List.append_assoc] at ht
        obtain ⟨hpk, dp, hpd⟩ := hp p List.mem_cons_self
        rcases hI with hI | hI
        · obtain ⟨_, e2⟩ := hI p List.mem_cons_self b dp db _ _ hpd hb hpk hb4 (.inr ⟨_, rfl⟩) (.inl hy) ht
          exact hy.no e2.symm
        · obtain ⟨_, e2⟩ := hI p db dp _ _ hb hpd hb4 hpk (.inl hy) (.inr ⟨_, rfl⟩) ht.symm
          exact hy.no e2
      by_cases h4 : r.k = 4
      · by_cases h4' : q.k = 4
        · obtain ⟨p, p2, ps, rfl, hp⟩ := group4 h h4
          obtain ⟨q, q2, qs, rfl, hq⟩ := group4 h' h4'
          rw [text_group (.inl rfl), text_group (.inl rfl), List.append_assoc, List.append_assoc] at ht
          have hA : ∀ a ∈ p :: p2 :: ps, ∀ b ∈ q :: q2 :: qs, ∀ x y, S1 x → S1 y → TL (txtP 4 a) ++ x = TL (txtP 4 b) ++ y → a = b ∧ x = y := fun a ha b hb x y hx hy ht => by
            obtain ⟨d1, o1⟩ := (hp a ha).2
            obtain ⟨d2, o2⟩ := (hq b hb).2
            rw [txtP4, txtP4] at ht
            exact (hparts a ha).1 b d1 d2 x y o1 o2 (hp a ha).1 (hq b hb).1 hx hy ht
          obtain ⟨rfl, ht2⟩ := hA p List.mem_cons_self q List.mem_cons_self _ _ (.inr ⟨_, rfl⟩) (.inr ⟨_, rfl⟩) ht
          obtain ⟨e1, e2⟩ := rest_inj (.inl rfl) (S := S0) (F := S1) (fun x h => .inl h) (fun x => .inr ⟨_, rfl⟩) (fun x y h => h.no) (p2 :: ps) (q2 :: qs) x y (fun a ha b hb => hA a (List.mem_cons_of_mem _ ha) b (List.mem_cons_of_mem _ hb)) hx hy ht2
          exact ⟨by rw [e1], e2⟩
        · exact (vs4 h h' (.inl fun p hp => (hparts p hp).1) h4 h4' hx hy ht).elim
      · by_cases h4' : q.k = 4
        · exact (vs4 h' h (.inr hitem) h4' h4 hy hx ht.symm).elim
        · exact hitem q d e x y h h' h4 h4' (.inl hx) (.inl hy) ht
    refine ⟨hitem, htop, ?_⟩
    intro q d e x y h h' hk hk' hx hy ht
    have vsL : ∀ {a b : RT} {da : Nat} {x y : List UInt8}, a.textOk da = true → isLeaf a → b.k = 4 → TL (txtP 5 a) ++ x = TL (txtP 5 b) ++ y → False := by
      intro a b da x y ha hl hb4 ht
      rw [txtP5 (leaf_k hl).1, txtP5' hb4] at ht
      obtain ⟨h1, h2⟩ := leaf_chars ha hl
      cases ht' : TL a.text with
      | nil => exact h2 ht'
      | cons c l =>
        rw [ht'] at ht h1
        injection ht with hc _
        have := h1 c List.mem_cons_self
        rw [hc, lc_par] at this
        cases this
    rcases kinds h with hl | h4 | h5
    · rcases kinds h' with hl' | h4' | h5'
      · rw [txtP5 (leaf_k hl).1, txtP5 (leaf_k hl').1] at ht
        exact leaf_vs h h' hl hl' hx hy ht
      · exact (vsL h hl h4' ht).elim
      · exact absurd h5' hk'
    · rcases kinds h' with hl' | h4' | h5'
      · exact (vsL h' hl' h4 ht.symm).elim
      · rw [txtP5' h4, txtP5' h4'] at ht
        injection ht with _ ht
        have ht : (TL r.text ++ [41]) ++ x = (TL q.text ++ [41]) ++ y := ht
        rw [List.append_assoc, List.append_assoc] at ht
        obtain ⟨e1, e2⟩ := htop q d e _ _ h h' (.inr ⟨_, .inl rfl⟩) (.inr ⟨_, .inl rfl⟩) ht
        exact ⟨e1, by simpa using e2⟩
      · exact absurd h5' hk'
    · exact absurd h5 hk
end Go.Proofs.Ytipddhcfcehcaaa
namespace Go.Proofs.Ytipddhcfcehcaaa
open Go Go.RowKit

theorem Own.lit (w : World) {B : Nat} (hB : B ≤ w.heap.size) (e : TypeId) (sz n : Nat) (cs : Array Value) (hn : cs.size = n * sz) (hm : n ≤ maxLen) (h0 : n ≠ 0) : Own (w.alloc (.cells cs e)) B e sz (.slice (some ⟨w.heap.size, 0, none⟩) n n) cs.toList := by
  refine ⟨n, by simpa using hn, .inr ⟨w.heap.size, n, cs, rfl, hB, heap_alloc_new w _, Nat.le_refl _, hm, hn, ?_⟩⟩
  rw [← hn]
  exact List.take_of_length_le (by simp)

end Go.Proofs.Ytipddhcfcehcaaa
namespace Go.Proofs.Ytipddhcfcehcaaa
open Go Go.RowKit Go.Maps

theorem laidOut : laidOutB Try.prog = true := by kernel_rfl
theorem str_lits (d : Nat) (s : ByteArray) (h : s.size ≤ maxLen) : Try.prog.keyLits (d + 1) 9 [.string s] = some [.string s.data.toList] := by
  unfold Program.keyLits
  rw [Try.underlying9]
  simp only [h, if_true]
theorem types_many : ∃ d, Try.prog.types.size = d + 1 + 1 + 1 := ⟨Try.prog.types.size - 3, by have : 3 ≤ Try.prog.types.size := of_decide_eq_true (by kernel_rfl); omega⟩

end Go.Proofs.Ytipddhcfcehcaaa
namespace Go.Proofs.Ytipddhcfcehcaaa
open Go Go.RowKit Go.Maps

theorem refK : Keyed Try.prog 61 := Keyed.of_law (deep_law_laid laidOut (m := 3) (by decide) (of_decide_eq_true (by kernel_rfl)) (by kernel_rfl) (by kernel_rfl))
theorem r2V_inj (a b : R2) (h : r2V a = r2V b) : a = b := by
  obtain ⟨a1, a2⟩ := a
  obtain ⟨b1, b2⟩ := b
  simpa [r2V] using h
/-- Texts that a machine can hold. -/
def R2.Ok (p : R2) : Prop := p.t.size ≤ maxLen ∧ p.r.size ≤ maxLen
theorem ref_lits (d : Nat) (p : R2) (h : p.Ok) : Try.prog.keyLits (d + 1 + 1) 61 [.string p.t, .string p.r] = some [.string p.t.data.toList, .string p.r.data.toList] := by
  unfold Program.keyLits
  rw [Try.underlying61]
  have e1 := str_lits d p.t h.1
  have e2 := str_lits d p.r h.2
  have e3 : Try.prog.cellsOf 61 = 2 := by kernel_rfl
  have e4 : Try.prog.cellsOf 9 = 1 := by kernel_rfl
  simp [e1, e2, e3, e4]
theorem ref_key (p : R2) (h : p.Ok) : ∃ q, keyOf Try.prog 61 (r2V p) = some q := by
  obtain ⟨d, hd⟩ := types_many
  have e := ref_lits (d + 1 + 1) p h
  have e2 : (Try.prog.keyType 61 && (r2V p).formed Try.prog 61) = true := by kernel_rfl
  have hs : Try.prog.types.size + 1 = d + 1 + 1 + 1 + 1 := by omega
  unfold keyOf
  rw [Try.underlying61]
  dsimp only
  rw [if_pos e2, hs]
  rw [show (r2V p).cells.toList = [.string p.t, .string p.r] from rfl, e]
  exact ⟨_, rfl⟩
theorem strK : Keyed Try.prog 9 := string_keyed Try.underlying9
theorem strV_inj (a b : ByteArray) (h : Value.string a = Value.string b) : a = b := by injection h
theorem str_key (s : ByteArray) (h : s.size ≤ maxLen) : ∃ q, keyOf Try.prog 9 (.string s) = some q := by
  unfold keyOf
  rw [Try.underlying9]
  dsimp only
  unfold mapKey
  rw [Try.underlying9]
  simp [h]

end Go.Proofs.Ytipddhcfcehcaaa
namespace Go.Proofs.Ytipddhcfcehcaaa
open Go Go.RowKit Go.Maps

abbrev bV : Bool → Value := fun x => .bool x

section
variable {κ α : Type} [DecidableEq κ]
theorem look_put (a : κ) (x : α) (b : κ) : ∀ l : List (κ × α), lookA (putA l a x) b = if a = b then some x else lookA l b
  | [] => by simp [putA, lookA]
  | p :: r => by
    unfold putA
    by_cases h : p.1 = a
    · rw [if_pos h]
      subst h
      by_cases hb : p.1 = b
      · simp [lookA, hb]
      · simp [lookA, hb]
    · rw [if_neg h]
      by_cases hb : p.1 = b
      · subst hb
        simp [lookA, Ne.symm h]
      · simp [lookA, hb, look_put a x b r]
end
/-- Nothing that was there has turned but b. -/
abbrev Tk (b : Nat) (w w' : World) : Prop := Kept (fun x => x < w.heap.size ∧ x ≠ b) w w'
section
variable {b : Nat} {w w' w'' : World}
theorem Tk.refl (b : Nat) (w : World) : Tk b w w := Kept.refl _ _
theorem Tk.next (h : Tk b w w') (k : Tk b w' w'') : Tk b w w'' := Kept.trans h (Kept.mono k fun x hx => ⟨Nat.lt_of_lt_of_le hx.1 h.size, hx.2⟩)
theorem Tk.of (h : Below w.heap.size w w') : Tk b w w' := Below.kept h fun x hx => hx.1
theorem Tk.turned (h : Turned w w' b) : Tk b w w' := h.kept.mono fun x hx => hx.2
theorem Tk.box (h : Tk b w w') {x : Nat} {cs : Array Value} {t : TypeId} (hx : Blk w x cs t) (hb : x ≠ b) : Blk w' x cs t := Kept.blk h hx ⟨hx.lt, hb⟩
theorem Tk.below (h : Tk b w w') {B : Nat} (h1 : B ≤ w.heap.size) (h2 : B ≤ b) : Below B w w' := Kept.below h fun x hx => ⟨by omega, by omega⟩
end

end Go.Proofs.Ytipddhcfcehcaaa
namespace Go.Proofs.Ytipddhcfcehcaaa
open Go Go.RowKit

attribute [local go_sem] Oper.semAt_some
/-- Where append's result lies: where the row lay, or in a new block. -/
theorem append_where {P : Program} {w : World} (base : Nat) (t ty e : TypeId) (i : TypeInfo) (z : Value) (ht : P.underlying t = some (.slice e)) (hi : P.info? e = some i) (hz : i.zero = some z)
    (v : Value) (n : Nat) (xs : List Value) (hown : w.ownsRow base e i.size v n xs)
    (a : Addr) (m c : Nat) (news : List Value) (hl : news.length = m * i.size) (hnews : ∀ j u, news[j]? = some u → w.cell? (a.add j) = some u) (h1 : ∀ u ∈ news, u.oneCell' = true)
    (h63 : n + m ≤ maxLen) (hbytes : (n + m) * i.bytes ≤ 140737488355328) {v' : Value} {w' : World} (hrun : (Builtin.append_ #[t, t] ty #[v, .slice (some a) m c]).run P w = .ok v' w') :
    ∀ g, v'.ownBlock = some g → v.ownBlock = some g ∨ w.heap.size ≤ g := by
  have hsmall : n + m ≤ 9223372036854775807 := by simp only [maxLen] at h63; omega
  rcases hown.2 with ⟨rfl, rfl⟩ | ⟨g, cap, cur, rfl, hbg, hg, hnc, hcm, hcs, htake⟩
  · have hx : xs = [] := List.eq_nil_of_length_eq_zero (by simpa using hown.1)
    subst hx
    by_cases hm : m = 0
    · subst hm
      have hn : news = [] := List.eq_nil_of_length_eq_zero (by simpa using hl)
      subst hn
      have : (Builtin.append_ #[t, t] ty #[.slice none 0 0, .slice (some a) 0 c]).run P w = .ok (.slice none 0 0) w := by
        simp [Builtin.append_, run_underlying ht, sizeOf, typeInfo, hi, Builtin.lenOf, Builtin.firstCells, loadCells, loadCellsFrom]
      rw [hrun] at this
      injection this with h1 h2
      subst h1
      intro g hg
      cases hg
    · have hr := run_append_nil (P := P) w t ty e i z ht hi hz a m c news hl hnews (by omega) (by omega) (by have hb := hbytes; simp only [Nat.zero_add] at hb; omega)
      rw [hrun] at hr
      injection hr with h1 h2
      subst h1
      intro g hg
      simp only [Value.ownBlock, Option.some.injEq] at hg
      exact .inr (Nat.le_of_eq hg)
  · by_cases hroom : n + m ≤ cap
    · have hfit : n * i.size + news.length ≤ cur.size := by rw [hl, hcs, ← Nat.add_mul]; exact Nat.mul_le_mul_right _ hroom
      have hr := run_append_room (P := P) w t ty e i ht hi g n cap cur hg a m c news hl hnews h1 hroom hfit
      rw [hrun] at hr
      injection hr with h1 h2
      subst h1
      intro g' hg'
      exact .inl hg'
    · have holds : ∀ j u, xs[j]? = some u → w.cell? ((⟨g, 0, none⟩ : Addr).add j) = some u := hown.cells (g := g) rfl
      have hr := run_append_grow (P := P) w t ty e i z ht hi hz ⟨g, 0, none⟩ n cap xs hown.1 holds a m c news hl hnews (by omega) (by omega) (growslice_fits (by omega) hbytes)
      rw [hrun] at hr
      injection hr with h1 h2
      subst h1
      intro g hg
      simp only [Value.ownBlock, Option.some.injEq] at hg
      exact .inr (Nat.le_of_eq hg)
theorem Own.put {W : World} {B0 : Nat} {e : TypeId} {sz : Nat} {v : Value} {xs : List Value} (h : Own W B0 e sz v xs) {l : Nat} {o : Obj} (o' : Obj) (hl : W.heap[l]? = some o) (ho : o.isCells = false) : Own (W.putObj l o') B0 e sz v xs := by
  obtain ⟨n, h⟩ := h
  exact ⟨n, ownsRow_putObj h o' hl ho⟩
end Go.Proofs.Ytipddhcfcehcaaa
