/- The walks of codec.Put and sentryref02.Put. No condition: lemmas. -/
import Derived.Test.YtcglegipdlaoiaaDoorGround
namespace Go.Proofs.YtcglegipdlaoiaaDoor
open Go Go.RowKit

/-- Bytes as cells. -/
def bc (l : List UInt8) : List Value := l.map fun c => .int .u8 c.toNat
theorem bc_append (a b : List UInt8) : bc (a ++ b) = bc a ++ bc b := by simp [bc]
theorem bc_length (a : List UInt8) : (bc a).length = a.length := by simp [bc]
theorem bc_one (a : List UInt8) : ∀ u ∈ bc a, u.oneCell' = true := by
  intro u hu
  obtain ⟨_, _, rfl⟩ := List.mem_map.1 hu
  rfl

theorem bytesT : ElemT Tryd.prog 63 5 1 1 := ElemT.mk' Tryd.underlying63 (show _ = some (some (.int .u8 0), 1, 1) by kernel_rfl) rfl (by decide)

/-- P2.1: a number as bytes. -/
def putB (q : Nat) : List UInt8 := if q < 128 then [UInt8.ofNat q] else UInt8.ofNat (q % 128 + 128) :: putB (q / 128)
termination_by q
decreasing_by omega

theorem putB_small {q : Nat} (h : q < 128) : putB q = [UInt8.ofNat q] := by rw [putB, if_pos h]
theorem putB_big {q : Nat} (h : 128 ≤ q) : putB q = UInt8.ofNat (q % 128 + 128) :: putB (q / 128) := by rw [putB, if_neg (by omega)]

theorem bc_putB_big {q : Nat} (h : 128 ≤ q) : bc (putB q) = .int .u8 ((UInt8.ofNat (q % 128 + 128)).toNat : Int) :: bc (putB (q / 128)) := by rw [putB_big h]; rfl

theorem putB_length (k : Nat) : ∀ q : Nat, q < 128 ^ (k + 1) → (putB q).length ≤ k + 1 := by
  induction k with
  | zero => intro q h; rw [putB_small (by simpa using h)]; simp
  | succ k ih =>
    intro q h
    by_cases h1 : q < 128
    · rw [putB_small h1]; simp
    · rw [putB_big (by omega)]
      have := ih (q / 128) (by rw [Nat.pow_succ] at h; omega)
      simp; omega

theorem putB_pos (q : Nat) : 0 < (putB q).length := by
  by_cases h : q < 128
  · rw [putB_small h]; simp
  · rw [putB_big (by omega)]; simp

/-- Below 2^64. -/
def U64 (q : Nat) : Prop := q < 18446744073709551616
theorem U64.lt {q : Nat} (h : U64 q) : q < 18446744073709551616 := h
theorem U64.len {q : Nat} (h : U64 q) : (putB q).length ≤ 10 := putB_length 9 q (by have := h.lt; omega)

theorem U64.div {q : Nat} (h : U64 q) (k : Nat) : U64 (q / k) := Nat.lt_of_le_of_lt (Nat.div_le_self _ _) h
theorem U64.wrap {q : Nat} (h : U64 q) : IntKind.u64.wrap (q : Int) = (q : Int) := by
  have := h.lt
  simp only [IntKind.wrap, IntKind.bits, IntKind.signed, Bool.false_and, Bool.false_eq_true, if_false]
  omega
theorem U64.wrapDiv {q : Nat} (h : U64 q) (k : Nat) : IntKind.u64.wrap ((q : Int) / (k : Int)) = (q : Int) / (k : Int) := (h.div k).wrap

set_option maxRecDepth 100000 in
theorem or128 (q : Nat) : bits BinOp.or IntKind.u8 ((q : Int) % 256) 128 = ((UInt8.ofNat (q % 128 + 128)).toNat : Int) := by
  have e1 : (q : Int) % 256 = ((q % 256 : Nat) : Int) := by omega
  have e2 : q % 128 = (q % 256) % 128 := by omega
  rw [e1, e2]
  have h : q % 256 < 256 := Nat.mod_lt _ (by decide)
  generalize q % 256 = r at h
  revert r
  decide

theorem ofNat_toNat (q : Nat) (h : q < 256) : (((UInt8.ofNat q).toNat : Nat) : Int) = q := by
  have : (UInt8.ofNat q).toNat = q := by simp; omega
  rw [this]

/-- It returns a slice that may be appended to and reads as xs; nothing that was there has turned. -/
def RetApp (w : World) (e sz : Nat) (xs : List Value) (en : Ending) (w' : World) : Prop := ∃ v, en = .returned v ∧ App w' w.heap.size e sz v xs ∧ Below w.heap.size w w'

end Go.Proofs.YtcglegipdlaoiaaDoor
