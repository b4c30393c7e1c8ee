/- Plain laws on keys as bytes: what ReplaceAll does to a key's zero bytes and back, and how escaped keys stand in order. No condition: lemmas. -/
import Derived.Lib.Replace
namespace Go.Proofs.YtcglegipdlaoiaaDoor
open Go Go.Lib

theorem replaceAll_nil (old new : List UInt8) (h : old ≠ []) : replaceAll [] old new = [] := by
  have hi : index [] old = -1 := by
    unfold index
    cases old with
    | nil => exact absurd rfl h
    | cons a t => rfl
  simp [replaceAll, replace, replaceNum, count_miss hi, replaceK]

theorem replaceAll_hit {s old new : List UInt8} (h : old ≠ []) (hn : old ≠ new) (hp : old.isPrefixOf s = true) : replaceAll s old new = new ++ replaceAll (s.drop old.length) old new := by
  have hi : index s old = 0 := by
    cases s with
    | nil => cases old with
      | nil => exact absurd rfl h
      | cons a t => simp at hp
    | cons b l => unfold index; rw [if_pos hp]
  have hb : ¬ (old == new) = true := by simpa using hn
  have hc := count_hit h (i := 0) hi
  have e := replaceK_hit old new (count (s.drop old.length) old) s 0 hi
  simp only [Nat.zero_add, List.take_zero, List.nil_append] at e hc
  simp only [replaceAll, replace, if_neg hb, replaceNum, show ((-1 : Int) < 0) = True from by simp, true_or, if_true]
  rw [hc, Nat.add_comm 1, e]

theorem replaceAll_miss {c : UInt8} {r old new : List UInt8} (h : old ≠ []) (hn : old ≠ new) (hp : old.isPrefixOf (c :: r) = false) : replaceAll (c :: r) old new = c :: replaceAll r old new := by
  have hb : ¬ (old == new) = true := by simpa using hn
  simp only [replaceAll, replace, if_neg hb, replaceNum, show ((-1 : Int) < 0) = True from by simp, true_or, if_true]
  rcases index_spec r old with ⟨h1, _⟩ | ⟨i, h1, _, _, _⟩
  · have hi : index (c :: r) old = -1 := by unfold index; rw [hp, h1]; rfl
    rw [count_miss hi, count_miss h1]
    rfl
  · have hi : index (c :: r) old = ((i + 1 : Nat) : Int) := by
      unfold index
      rw [hp, h1]
      have : ((i : Int) == -1) = false := by rw [beq_eq_false_iff_ne]; omega
      simp [this]
    have e1 := count_hit h hi
    have e2 := count_hit h h1
    have e3 : (c :: r).drop (i + 1 + old.length) = r.drop (i + old.length) := by rw [show i + 1 + old.length = (i + old.length) + 1 from by omega]; rfl
    rw [e3] at e1
    have e4 : count (c :: r) old = count r old := by omega
    rw [e4, e2, Nat.add_comm 1, replaceK_hit old new _ (c :: r) (i + 1) hi, replaceK_hit old new _ r i h1, e3]
    rfl

/-- A key's bytes, escaped: a zero byte is followed by 255. -/
def esc : List UInt8 → List UInt8
  | [] => []
  | c :: r => if c = 0 then 0 :: 255 :: esc r else c :: esc r

theorem replaceAll_esc : ∀ s : List UInt8, replaceAll s [0] [0, 255] = esc s
  | [] => replaceAll_nil _ _ (by decide)
  | c :: r => by
    by_cases hc : c = 0
    · subst hc
      rw [replaceAll_hit (by decide) (by decide) (by simp)]
      simp [esc, replaceAll_esc r]
    · rw [replaceAll_miss (by decide) (by decide) (by rw [Bool.eq_false_iff]; intro h; simp at h; exact hc h.symm)]
      simp [esc, hc, replaceAll_esc r]

/-- Back: each 0, 255 is 0. -/
def unesc : List UInt8 → List UInt8
  | [] => []
  | [c] => [c]
  | c :: d :: r => if c = 0 ∧ d = 255 then 0 :: unesc r else c :: unesc (d :: r)

theorem replaceAll_unesc : ∀ s : List UInt8, replaceAll s [0, 255] [0] = unesc s
  | [] => replaceAll_nil _ _ (by decide)
  | [c] => by
    rw [replaceAll_miss (by decide) (by decide) (by simp [List.isPrefixOf]), replaceAll_nil _ _ (by decide)]
    rfl
  | c :: d :: r => by
    by_cases hc : c = 0 ∧ d = 255
    · obtain ⟨rfl, rfl⟩ := hc
      rw [replaceAll_hit (by decide) (by decide) (by simp)]
      simp [unesc, replaceAll_unesc r]
    · rw [replaceAll_miss (by decide) (by decide) (by
        rw [Bool.eq_false_iff]
        intro h
        simp at h
        exact hc ⟨h.1.symm, h.2.symm⟩)]
      simp [unesc, hc, replaceAll_unesc (d :: r)]

theorem unesc_esc : ∀ s : List UInt8, unesc (esc s) = s
  | [] => rfl
  | c :: r => by
    by_cases hc : c = 0
    · subst hc
      simp [esc, unesc, unesc_esc r]
    · have ih := unesc_esc r
      simp only [esc, if_neg hc]
      generalize esc r = t at *
      cases t with
      | nil => simp only [unesc] at ih ⊢; rw [← ih]
      | cons d t => simp [unesc, hc, ih]

theorem esc_length (s : List UInt8) : (esc s).length ≤ 2 * s.length := by
  induction s with
  | nil => simp [esc]
  | cons c r ih =>
    by_cases hc : c = 0 <;> simp [esc, hc] <;> omega

theorem esc_append (a b : List UInt8) : esc (a ++ b) = esc a ++ esc b := by
  induction a with
  | nil => rfl
  | cons c r ih => by_cases hc : c = 0 <;> simp [esc, hc, ih]

theorem esc_inj {a b : List UInt8} (h : esc a = esc b) : a = b := by rw [← unesc_esc a, h, unesc_esc b]

theorem unesc_length : ∀ s : List UInt8, (unesc s).length ≤ s.length
  | [] => by simp [unesc]
  | [c] => by simp [unesc]
  | c :: d :: r => by
    have h1 := unesc_length r
    have h2 := unesc_length (d :: r)
    by_cases hc : c = 0 ∧ d = 255
    · simp [unesc, hc]; omega
    · simp only [unesc, if_neg hc, List.length_cons] at h2 ⊢; omega

end Go.Proofs.YtcglegipdlaoiaaDoor
