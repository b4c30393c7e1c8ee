/- Plain laws on the order of inner keys. No condition: lemmas. -/
import Derived.Test.YtcglegipdlaoiaaDoorCodecC
import Derived.Test.YtcglegipdlaoiaaDoorPlainOuter
namespace Go.Proofs.YtcglegipdlaoiaaDoor
open Go Go.Lib
open Go.Op (bytesLess)

theorem bl_common (p a b : List UInt8) : bytesLess (p ++ a) (p ++ b) = bytesLess a b := by
  induction p with
  | nil => rfl
  | cons c p ih => simp [bytesLess, ih]

theorem bl_esc : ∀ (k1 k2 t1 t2 : List UInt8), k1 ≠ k2 → bytesLess (esc k1 ++ 0 :: 1 :: t1) (esc k2 ++ 0 :: 1 :: t2) = bytesLess k1 k2
  | [], [], _, _, h => absurd rfl h
  | [], d :: s, t1, t2, _ => by
    by_cases hd : d = 0
    · subst hd; simp [esc, bytesLess]
    · have : (0 : UInt8) < d := by
        rw [UInt8.lt_iff_toNat_lt]
        have : d.toNat ≠ 0 := fun h => hd (UInt8.toNat_inj.1 (by simpa using h))
        simp; omega
      simp [esc, bytesLess, hd, this]
  | c :: r, [], t1, t2, _ => by
    by_cases hc : c = 0
    · subst hc; simp [esc, bytesLess]
    · simp [esc, bytesLess, hc]
  | c :: r, d :: s, t1, t2, h => by
    have ih := fun h => bl_esc r s t1 t2 h
    by_cases hcd : c = d
    · subst hcd
      have hrs : r ≠ s := fun e => h (by rw [e])
      by_cases hc : c = 0
      · subst hc; simp [esc, bytesLess, ih hrs]
      · simp [esc, bytesLess, hc, ih hrs]
    · by_cases hc : c = 0
      · subst hc
        have hd : ¬ d = 0 := fun e => hcd e.symm
        have : (0 : UInt8) < d := by
          rw [UInt8.lt_iff_toNat_lt]
          have : d.toNat ≠ 0 := fun h => hd (UInt8.toNat_inj.1 (by simpa using h))
          simp; omega
        simp [esc, bytesLess, hd, this]
      · by_cases hd : d = 0
        · subst hd
          have : (c == 0) = false := by simpa using hc
          simp [esc, bytesLess, hc, this]
        · have : (c == d) = false := by simpa using hcd
          simp [esc, bytesLess, hc, hd, this]

/-- The number that bytes tell, the greatest first. -/
def val (l : List UInt8) (r : Nat) : Nat := l.foldl (fun r c => r * 256 + c.toNat) r

theorem val_ge : ∀ (l : List UInt8) (r : Nat), r * 256 ^ l.length ≤ val l r ∧ val l r < (r + 1) * 256 ^ l.length
  | [], r => by simp [val]
  | c :: l, r => by
    have ih := val_ge l (r * 256 + c.toNat)
    have hc := c.toNat_lt
    have e : val (c :: l) r = val l (r * 256 + c.toNat) := rfl
    rw [e, List.length_cons, Nat.pow_succ, Nat.mul_comm (256 ^ l.length) 256, ← Nat.mul_assoc, ← Nat.mul_assoc]
    refine ⟨Nat.le_trans (Nat.mul_le_mul_right _ (by omega)) ih.1, Nat.lt_of_lt_of_le ih.2 (Nat.mul_le_mul_right _ (by omega))⟩

theorem bl_val : ∀ (a b : List UInt8) (r : Nat), a.length = b.length → bytesLess a b = decide (val a r < val b r)
  | [], [], r, _ => by simp [bytesLess, val]
  | [], _ :: _, _, h => by simp at h
  | _ :: _, [], _, h => by simp at h
  | c :: a, d :: b, r, h => by
    have hl : a.length = b.length := by simpa using h
    have ea : val (c :: a) r = val a (r * 256 + c.toNat) := rfl
    have eb : val (d :: b) r = val b (r * 256 + d.toNat) := rfl
    rw [ea, eb]
    have ha := val_ge a (r * 256 + c.toNat)
    have hb := val_ge b (r * 256 + d.toNat)
    rw [hl] at ha
    by_cases hcd : c = d
    · subst hcd
      rw [← bl_val a b _ hl]
      simp [bytesLess]
    · by_cases hlt : c < d
      · have h1 : c.toNat + 1 ≤ d.toNat := UInt8.lt_iff_toNat_lt.1 hlt
        have := Nat.mul_le_mul_right (256 ^ b.length) (show r * 256 + c.toNat + 1 ≤ r * 256 + d.toNat by omega)
        have : val a (r * 256 + c.toNat) < val b (r * 256 + d.toNat) := by omega
        simp [bytesLess, hlt, this]
      · have h1 : d.toNat + 1 ≤ c.toNat := by
          have h2 : ¬ c.toNat < d.toNat := fun h => hlt (UInt8.lt_iff_toNat_lt.2 h)
          have h3 : c.toNat ≠ d.toNat := fun h => hcd (UInt8.toNat_inj.1 h)
          omega
        have := Nat.mul_le_mul_right (256 ^ b.length) (show r * 256 + d.toNat + 1 ≤ r * 256 + c.toNat by omega)
        have : ¬ val a (r * 256 + c.toNat) < val b (r * 256 + d.toNat) := by omega
        simp [bytesLess, hlt, hcd, this]

theorem val_be8 (m : Nat) (h : m < 18446744073709551616) (x : UInt8) : val (be8 m ++ [x]) 0 = m * 256 + x.toNat := by
  have e : ∀ a : Nat, (UInt8.ofNat a).toNat = a % 256 := fun a => by simp
  simp only [val, be8, List.cons_append, List.nil_append, List.foldl_cons, List.foldl_nil, e]
  omega

/-- P2.3: does an entry stand ahead of another one. -/
def lessE (k1 : List UInt8) (r1 : Nat) (d1 : Bool) (k2 : List UInt8) (r2 : Nat) (d2 : Bool) : Bool :=
  if k1 ≠ k2 then bytesLess k1 k2 else if r1 ≠ r2 then decide (r2 < r1) else d1 && !d2

theorem inner_less (k1 : List UInt8) (r1 : Nat) (d1 : Bool) (k2 : List UInt8) (r2 : Nat) (d2 : Bool) (h1 : U64 r1) (h2 : U64 r2) :
    bytesLess (innerB k1 r1 d1) (innerB k2 r2 d2) = lessE k1 r1 d1 k2 r2 d2 := by
  have l1 := h1.lt
  have l2 := h2.lt
  unfold lessE innerB
  by_cases hk : k1 = k2
  · subst hk
    rw [bl_common, bl_val _ _ 0 (by simp [be8]), val_be8 _ (by unfold flip64; omega), val_be8 _ (by unfold flip64; omega)]
    unfold flip64
    simp only [ne_eq, not_true_eq_false, if_false]
    by_cases hr : r1 = r2
    · subst hr
      cases d1 <;> cases d2 <;> simp
    · simp only [hr, not_false_eq_true, if_true]
      cases d1 <;> cases d2 <;> simp <;> omega
  · have e : ∀ (k : List UInt8) (t : List UInt8), esc k ++ [0, 1] ++ t = esc k ++ 0 :: 1 :: t := fun k t => by simp
    rw [e, e, bl_esc _ _ _ _ hk]
    simp [hk]

theorem inner_eq (k1 : List UInt8) (r1 : Nat) (d1 : Bool) (k2 : List UInt8) (r2 : Nat) (d2 : Bool) (h1 : U64 r1) (h2 : U64 r2) :
    (innerB k1 r1 d1 == innerB k2 r2 d2) = (k1 == k2 && (r1 == r2 && d1 == d2)) := by
  have l1 := h1.lt
  have l2 := h2.lt
  rw [Bool.eq_iff_iff]
  simp only [beq_iff_eq, Bool.and_eq_true]
  refine ⟨fun h => ?_, fun ⟨a, b, c⟩ => by rw [a, b, c]⟩
  have e : ∀ (k : List UInt8) (t : List UInt8), esc k ++ [0, 1] ++ t = esc k ++ 0 :: 1 :: t := fun k t => by simp
  unfold innerB at h
  rw [e, e] at h
  have hs := congrArg scan h
  rw [scan_esc, scan_esc] at hs
  simp only [Option.some.injEq, Prod.mk.injEq] at hs
  obtain ⟨hk, ht⟩ := hs
  have hv := congrArg (fun l => val l 0) ht
  rw [val_be8 _ (by unfold flip64; omega), val_be8 _ (by unfold flip64; omega)] at hv
  unfold flip64 at hv
  refine ⟨hk, ?_, ?_⟩
  · cases d1 <;> cases d2 <;> simp at hv <;> omega
  · cases d1 <;> cases d2 <;> simp at hv <;> first | rfl | omega

end Go.Proofs.YtcglegipdlaoiaaDoor
