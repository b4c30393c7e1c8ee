/- The walks of sentryref02.Put and codec.Get; what Get tells of what Put wrote. No condition: lemmas. -/
import Derived.Test.YtcglegipdlaoiaaDoorCodecA
import Derived.Laws.BitsAllLaws
namespace Go.Proofs.YtcglegipdlaoiaaDoor
open Go Go.RowKit

/-- P2.1: the number that bytes begin with: number, length, error (i bytes are read, their number is v). -/
def getG : List UInt8 → Nat → Nat → Nat × Nat × Nat
  | [], _, _ => (0, 0, 7)
  | c :: r, i, v => if (i = 9 ∧ 1 < c.toNat) ∨ (c.toNat = 0 ∧ 0 < i) then (0, 0, 9) else if c.toNat < 128 then (v + c.toNat % 128 * 2 ^ (7 * i), i + 1, 0) else getG r (i + 1) (v + c.toNat % 128 * 2 ^ (7 * i))

theorem getG_putB (rest : List UInt8) (k : Nat) : ∀ (q i v : Nat), q < 128 ^ (k + 1) → i + k = 9 → (0 < i → 0 < q) → q * 2 ^ (7 * i) < 2 ^ 64 → getG (putB q ++ rest) i v = (v + q * 2 ^ (7 * i), i + (putB q).length, 0) := by
  induction k with
  | zero =>
    intro q i v h hi hp hb
    have hi9 : i = 9 := by omega
    subst hi9
    have hq : q < 2 := by
      apply Nat.lt_of_not_le
      intro hle
      have := Nat.mul_le_mul_right (2 ^ (7 * 9)) hle
      omega
    rw [putB_small (by omega)]
    have e : (UInt8.ofNat q).toNat = q := by simp; omega
    simp only [List.cons_append, List.nil_append, getG, e, List.length_cons, List.length_nil]
    rw [if_neg (by have := hp (by omega); omega), if_pos (by omega), Nat.mod_eq_of_lt (by omega)]
  | succ k ih =>
    intro q i v h hi hp hb
    by_cases hq : q < 128
    · rw [putB_small hq]
      have e : (UInt8.ofNat q).toNat = q := by simp; omega
      simp only [List.cons_append, List.nil_append, getG, e, List.length_cons, List.length_nil]
      rw [if_neg (by omega), if_pos hq, Nat.mod_eq_of_lt hq]
    · rw [putB_big (by omega)]
      have e : (UInt8.ofNat (q % 128 + 128)).toNat = q % 128 + 128 := by simp; omega
      simp only [List.cons_append, getG, e, List.length_cons]
      have em : (q % 128 + 128) % 128 = q % 128 := by omega
      have hdm := Nat.div_add_mod q 128
      have e2 : q / 128 * 2 ^ (7 * (i + 1)) = 128 * (q / 128) * 2 ^ (7 * i) := by
        rw [show 7 * (i + 1) = 7 * i + 7 from by omega, Nat.pow_add, Nat.mul_comm 128, Nat.mul_assoc, Nat.mul_comm (2 ^ (7 * i))]
      rw [if_neg (by omega), if_neg (by omega), em, ih (q / 128) (i + 1) _ (by rw [Nat.pow_succ] at h; omega) (by omega) (by omega) (by
        rw [e2]
        have := Nat.mul_le_mul_right (2 ^ (7 * i)) (show 128 * (q / 128) ≤ q by omega)
        omega), e2]
      simp only [Prod.mk.injEq, and_true]
      refine ⟨?_, by omega⟩
      have hs : q * 2 ^ (7 * i) = (128 * (q / 128) + q % 128) * 2 ^ (7 * i) := by rw [hdm]
      rw [hs, Nat.add_mul]
      omega

theorem getG_put (q : Nat) (h : U64 q) (rest : List UInt8) : getG (putB q ++ rest) 0 0 = (q, (putB q).length, 0) := by
  have := h.lt
  rw [getG_putB rest 9 q 0 0 (by omega) (by omega) (by omega) (by omega)]
  simp

/-- What the round of Get computes. -/
theorem get_or (v i c : Nat) (hv : v < 2 ^ (7 * i)) (hi : i ≤ 9) (hc : c < 256) (h9 : i = 9 → c ≤ 1) :
    bits BinOp.or IntKind.u64 (v : Int) (IntKind.u64.wrap (IntKind.u64.wrap (bits BinOp.and IntKind.u8 (c : Int) 127) * 2 ^ (7 * i))) = ((v + c % 128 * 2 ^ (7 * i) : Nat) : Int) := by
  have h1 : bits BinOp.and IntKind.u8 (c : Int) 127 = ((c % 128 : Nat) : Int) := by
    rw [show (127 : Int) = ((127 : Nat) : Int) from rfl, u8_and_nat c 127 hc (by decide), nat_mask7]
  have hc128 : c % 128 < 128 := Nat.mod_lt _ (by decide)
  have hpow : 2 ^ (7 * i) ≤ 2 ^ 63 := Nat.pow_le_pow_right (by decide) (by omega)
  have hprod : c % 128 * 2 ^ (7 * i) < 18446744073709551616 ∧ v < 18446744073709551616 := by
    refine ⟨?_, by omega⟩
    by_cases h : i = 9
    · have := h9 h
      subst h
      have := Nat.mul_le_mul_right (2 ^ (7 * 9)) (show c % 128 ≤ 1 by omega)
      omega
    · have h8 : 2 ^ (7 * i) ≤ 2 ^ 56 := Nat.pow_le_pow_right (by decide) (by omega)
      have := Nat.mul_le_mul (show c % 128 ≤ 127 by omega) h8
      omega
  have e1 : IntKind.u64.wrap ((c % 128 : Nat) : Int) = ((c % 128 : Nat) : Int) := by rw [IntKind.wrap_u64]; omega
  have e2 : IntKind.u64.wrap (((c % 128 : Nat) : Int) * 2 ^ (7 * i)) = ((c % 128 * 2 ^ (7 * i) : Nat) : Int) := by
    rw [IntKind.wrap_u64]
    have : (((c % 128 : Nat) : Int) * 2 ^ (7 * i)) = ((c % 128 * 2 ^ (7 * i) : Nat) : Int) := by push_cast; rfl
    rw [this]
    omega
  rw [h1, e1, e2, u64_or_nat _ _ hprod.2 hprod.1, Nat.or_comm, nat_join (7 * i) _ _ (by simp) hv]
  congr 1
  omega

theorem get_bound (v i c : Nat) (hv : v < 2 ^ (7 * i)) : v + c % 128 * 2 ^ (7 * i) < 2 ^ (7 * (i + 1)) := by
  have hc : c % 128 < 128 := Nat.mod_lt _ (by decide)
  have : 2 ^ (7 * (i + 1)) = 128 * 2 ^ (7 * i) := by rw [show 7 * (i + 1) = 7 * i + 7 from by omega, Nat.pow_add]; omega
  have h2 := Nat.mul_le_mul_right (2 ^ (7 * i)) (show c % 128 ≤ 127 by omega)
  omega

/-- Get's answer. -/
def RetGet (r : Nat × Nat × Nat) (w : World) (e : Ending) (w' : World) : Prop := e = .returned (.tuple #[.int .u64 r.1, .int .i64 r.2.1, .int .i64 r.2.2]) ∧ w = w'
theorem RetGet.mk' {a b c : Int} {r : Nat × Nat × Nat} {w : World} (x y z : Nat) (h : r = (x, y, z)) (h1 : a = x) (h2 : b = y) (h3 : c = z) : RetGet r w (.returned (.tuple #[.int .u64 a, .int .i64 b, .int .i64 c])) w := by
  subst h h1 h2 h3
  exact ⟨rfl, rfl⟩

end Go.Proofs.YtcglegipdlaoiaaDoor
