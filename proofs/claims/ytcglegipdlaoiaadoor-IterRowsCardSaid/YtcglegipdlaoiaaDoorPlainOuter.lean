/- Plain laws on inner keys: which text is one, and of what entry; in what order they stand. No condition: lemmas. -/
import Derived.Test.YtcglegipdlaoiaaDoorPlainKey
import Derived.Shelf.Small.Wraps
namespace Go.Proofs.YtcglegipdlaoiaaDoor
open Go Go.Lib

/-- The number that eight flipped bytes tell. -/
def revOf (b : List UInt8) (r : Nat) : Nat := b.foldl (fun r c => r * 256 + (255 - c.toNat)) r

/-- What stands ahead of the first end of a key, and behind it. -/
def scan : List UInt8 → Option (List UInt8 × List UInt8)
  | [] => none
  | [_] => none
  | c :: d :: r =>
    if c ≠ 0 then (scan (d :: r)).map fun x => (c :: x.1, x.2)
    else if d = 1 then some ([], r)
    else if d ≠ 255 then none
    else (scan r).map fun x => (0 :: x.1, x.2)

theorem scan_esc : ∀ (k rest : List UInt8), scan (esc k ++ 0 :: 1 :: rest) = some (k, rest)
  | [], rest => by simp [esc, scan]
  | c :: k, rest => by
    have ih := scan_esc k rest
    by_cases hc : c = 0
    · subst hc
      simp [esc, scan, ih]
    · simp only [esc, if_neg hc, List.cons_append]
      generalize hx : esc k ++ 0 :: 1 :: rest = t at *
      cases t with
      | nil => simp at hx
      | cons d t => simp [scan, hc, ih]

theorem scan_some : ∀ (s : List UInt8) {k rest : List UInt8}, scan s = some (k, rest) → s = esc k ++ 0 :: 1 :: rest
  | [], _, _, h => by simp [scan] at h
  | [_], _, _, h => by simp [scan] at h
  | c :: d :: r, k, rest, h => by
    have h1 := fun {k rest : List UInt8} => scan_some (d :: r) (k := k) (rest := rest)
    have h2 := fun {k rest : List UInt8} => scan_some r (k := k) (rest := rest)
    simp only [scan] at h
    by_cases hc : c = 0
    · subst hc
      simp only [ne_eq, not_true_eq_false, if_false] at h
      by_cases hd : d = 1
      · subst hd
        simp at h
        obtain ⟨rfl, rfl⟩ := h
        rfl
      · rw [if_neg hd] at h
        by_cases hd2 : d = 255
        · subst hd2
          simp at h
          obtain ⟨k', h, rfl⟩ := h
          rw [h2 h]
          simp [esc]
        · simp [hd2] at h
    · simp only [ne_eq, hc, not_false_eq_true, if_true, Option.map_eq_some_iff, Prod.mk.injEq] at h
      obtain ⟨⟨k', r'⟩, h, rfl, rfl⟩ := h
      rw [h1 h]
      simp [esc, hc]

/-- P2.1: the entry of an inner key: key, revision, is it a deletion. -/
def outerS (s : List UInt8) : Option (List UInt8 × Nat × Bool) :=
  match scan s with
  | some (k, rest) => if rest.length = 9 ∧ (rest.getD 8 0).toNat ≤ 1 then some (k, revOf (rest.take 8) 0, rest.getD 8 0 == 0) else none
  | none => none

/-- The code's own way: the end is sought from behind. -/
theorem outer_code (s : List UInt8) (h11 : 11 ≤ s.length) :
    outerS s = if hasSuffix (s.take (s.length - 9)) [0, 1] = true ∧ esc (unesc (trimSuffix (s.take (s.length - 9)) [0, 1])) = trimSuffix (s.take (s.length - 9)) [0, 1] ∧ ((s.drop (s.length - 9)).getD 8 0).toNat ≤ 1 then
      some (unesc (trimSuffix (s.take (s.length - 9)) [0, 1]), revOf ((s.drop (s.length - 9)).take 8) 0, (s.drop (s.length - 9)).getD 8 0 == 0) else none := by
  have hb : (s.drop (s.length - 9)).length = 9 := by rw [List.length_drop]; omega
  have hs : s = s.take (s.length - 9) ++ s.drop (s.length - 9) := (List.take_append_drop _ _).symm
  generalize s.take (s.length - 9) = p at *
  generalize s.drop (s.length - 9) = b at *
  subst hs
  by_cases hsuf : hasSuffix p [0, 1] = true
  · obtain ⟨k, rfl⟩ : ∃ k, p = k ++ [0, 1] := by
      have := hsuf
      rw [hasSuffix, List.isSuffixOf_iff_suffix] at this
      obtain ⟨k, hk⟩ := this
      exact ⟨k, hk.symm⟩
    have ht : trimSuffix (k ++ [0, 1]) [0, 1] = k := by
      simp [trimSuffix, hsuf]
    rw [ht]
    by_cases he : esc (unesc k) = k
    · have hsc : scan (k ++ [0, 1] ++ b) = some (unesc k, b) := by
        have := scan_esc (unesc k) b
        rw [he] at this
        simpa using this
      unfold outerS
      rw [hsc]
      simp [hb, he, hsuf]
    · rw [if_neg (fun h => he h.2.1)]
      unfold outerS
      cases hsc : scan (k ++ [0, 1] ++ b) with
      | none => rfl
      | some x =>
        obtain ⟨k', rest⟩ := x
        have h1 := scan_some _ hsc
        by_cases hr : rest.length = 9
        · exfalso
          have h2 : k ++ [0, 1] = esc k' ++ [0, 1] ∧ b = rest := by
            refine List.append_inj' (s₁ := k ++ [0, 1]) (s₂ := esc k' ++ [0, 1]) ?_ (by omega)
            simpa using h1
          have h3 : k = esc k' := by simpa using h2.1
          exact he (by rw [h3, unesc_esc])
        · simp [hr]
  · rw [if_neg (fun h => hsuf h.1)]
    unfold outerS
    cases hsc : scan (p ++ b) with
    | none => rfl
    | some x =>
      obtain ⟨k', rest⟩ := x
      have h1 := scan_some _ hsc
      by_cases hr : rest.length = 9
      · exfalso
        have h2 : p = esc k' ++ [0, 1] ∧ b = rest := by
          refine List.append_inj' (s₁ := p) (s₂ := esc k' ++ [0, 1]) ?_ (by omega)
          simpa using h1
        apply hsuf
        rw [h2.1, hasSuffix, List.isSuffixOf_iff_suffix]
        exact ⟨_, rfl⟩
      · simp [hr]

theorem outer_short (s : List UInt8) (h : s.length < 11) : outerS s = none := by
  unfold outerS
  cases hsc : scan s with
  | none => rfl
  | some x =>
    obtain ⟨k, rest⟩ := x
    have := congrArg List.length (scan_some _ hsc)
    simp at this
    have hr : ¬ rest.length = 9 := by omega
    simp [hr]

end Go.Proofs.YtcglegipdlaoiaaDoor
