/- The walks of codec.Put and sentryref02.Put. No condition: lemmas. -/
import Derived.Test.YtkllfdfipkcddaaBase
namespace Go.Proofs.Ytkllfdfipkcddaa
open Go Go.RowKit

/-- Bytes as cells. -/
def bc (l : List UInt8) : List Value := l.map fun c => .int .u8 c.toNat
theorem bc_append (a b : List UInt8) : bc (a ++ b) = bc a ++ bc b := by simp [bc]
theorem bc_length (a : List UInt8) : (bc a).length = a.length := by simp [bc]
theorem bc_one (a : List UInt8) : ∀ u ∈ bc a, u.oneCell' = true := by
  intro u hu
  obtain ⟨_, _, rfl⟩ := List.mem_map.1 hu
  rfl

theorem bytesT : ElemT Try.prog 40 5 1 1 := ElemT.mk' Try.underlying40 (show _ = some (some (.int .u8 0), 1, 1) by kernel_rfl) rfl (by decide)

/-- P2.1: a number as bytes. -/
def putB (q : Nat) : List UInt8 := if q < 128 then [UInt8.ofNat q] else UInt8.ofNat (q % 128 + 128) :: putB (q / 128)
termination_by q
decreasing_by omega

theorem putB_small {q : Nat} (h : q < 128) : putB q = [UInt8.ofNat q] := by rw [putB, if_pos h]
theorem putB_big {q : Nat} (h : 128 ≤ q) : putB q = UInt8.ofNat (q % 128 + 128) :: putB (q / 128) := by rw [putB, if_neg (by omega)]

theorem bc_putB_big {q : Nat} (h : 128 ≤ q) : bc (putB q) = .int .u8 ((UInt8.ofNat (q % 128 + 128)).toNat : Int) :: bc (putB (q / 128)) := by rw [putB_big h]; rfl

theorem putB_length (k : Nat) : ∀ q : Nat, q < 128 ^ (k + 1) → (putB q).length ≤ k + 1 := by
  induction k with
  | zero => intro q h; rw [putB_small (by simpa using h)]; simp
  | succ k ih =>
    intro q h
    by_cases h1 : q < 128
    · rw [putB_small h1]; simp
    · rw [putB_big (by omega)]
      have := ih (q / 128) (by rw [Nat.pow_succ] at h; omega)
      simp; omega

theorem putB_pos (q : Nat) : 0 < (putB q).length := by
  by_cases h : q < 128
  · rw [putB_small h]; simp
  · rw [putB_big (by omega)]; simp

/-- Below 2^64. -/
def U64 (q : Nat) : Prop := q < 18446744073709551616
theorem U64.lt {q : Nat} (h : U64 q) : q < 18446744073709551616 := h
theorem U64.len {q : Nat} (h : U64 q) : (putB q).length ≤ 10 := putB_length 9 q (by have := h.lt; omega)

theorem U64.div {q : Nat} (h : U64 q) (k : Nat) : U64 (q / k) := Nat.lt_of_le_of_lt (Nat.div_le_self _ _) h
theorem U64.wrap {q : Nat} (h : U64 q) : IntKind.u64.wrap (q : Int) = (q : Int) := by
  have := h.lt
  simp only [IntKind.wrap, IntKind.bits, IntKind.signed, Bool.false_and, Bool.false_eq_true, if_false]
  omega
theorem U64.wrapDiv {q : Nat} (h : U64 q) (k : Nat) : IntKind.u64.wrap ((q : Int) / (k : Int)) = (q : Int) / (k : Int) := (h.div k).wrap

set_option maxRecDepth 100000 in
theorem or128 (q : Nat) : bits BinOp.or IntKind.u8 ((q : Int) % 256) 128 = ((UInt8.ofNat (q % 128 + 128)).toNat : Int) := by
  have e1 : (q : Int) % 256 = ((q % 256 : Nat) : Int) := by omega
  have e2 : q % 128 = (q % 256) % 128 := by omega
  rw [e1, e2]
  have h : q % 256 < 256 := Nat.mod_lt _ (by decide)
  generalize q % 256 = r at h
  revert r
  decide

theorem ofNat_toNat (q : Nat) (h : q < 256) : (((UInt8.ofNat q).toNat : Nat) : Int) = q := by
  have : (UInt8.ofNat q).toNat = q := by simp; omega
  rw [this]

/-- It returns a slice that may be appended to and reads as xs; nothing that was there has turned. -/
def RetApp (w : World) (e sz : Nat) (xs : List Value) (en : Ending) (w' : World) : Prop := ∃ v, en = .returned v ∧ App w' w.heap.size e sz v xs ∧ Below w.heap.size w w'

set_option maxRecDepth 100000 in
set_option maxHeartbeats 400000 in
theorem put_any (b : Value) (xs : List UInt8) (q : Nat) (w : World) (hb : Sl (· < w.heap.size) w 1 b (bc xs)) (hx : xs.length ≤ 100000000) (hq : U64 q) :
    Calls Try.prog 26 #[b, .int .u64 q] w (RetApp w 5 1 (bc (xs ++ putB q))) := by
  have hlen := hq.len
  have HX : Hid (bc (xs ++ putB q) = bc xs ++ bc (putB q)) := bc_append _ _
  have hxl := bc_length xs
  generalize bc xs = cs at *
  obtain ⟨ao, n, c, rfl, hn, hnc, hc, hnone, hcell⟩ := id hb
  have hc' : c ≤ 9223372036854775807 := by unfold maxLen at hc; omega
  have hcn : cs.length ≤ 100000000 := by omega
  have happ0 : App w w.heap.size 5 1 (.slice ao n n) cs := App.full ⟨ao, n, n, rfl, hn, Nat.le_refl _, by omega, fun h => by have := hnone h; omega, hcell⟩
  have HN := Lib.hid hn
  clear hn hcell hb hxl
  go_enter Try.func26, Try.ntmps26
  go_wp2
  go_loopw [0, 1] (fun bb vv wr => ∃ (r : Nat) (ys : List Value), vv = .int .u64 r ∧ ys ++ bc (putB r) = cs ++ bc (putB q) ∧ App wr w.heap.size 5 1 bb ys ∧ Below w.heap.size w wr) (fun _ vv _ => (intOf vv).toNat)
  case atStart => exact ⟨q, cs, rfl, rfl, happ0, Below.refl _ _⟩
  case round =>
    obtain ⟨r, ys, rfl, hys, happ, hbel⟩ := hrel
    have hyl : ys.length ≤ 100000010 := by
      have := congrArg List.length hys
      simp only [List.length_append, bc_length] at this
      omega
    have HY := Lib.hid hys
    have hbs := hbel.size
    clear hys
    by_cases hr : r < 128
    all_goals
      go_wp2_with (first | (at_builtin; refine wpList_app_lit bytesT rfl (.tmp 15) (.tmp 19) rfl rfl happ rfl rfl (by simp [Value.oneCell']) (by simp; omega) (by simp; omega) hbs ?_; intro v1 w1 happ1 hb1 _) | (at_builtin; refine wpList_app_lit bytesT rfl (.tmp 21) (.tmp 24) rfl rfl happ rfl rfl (by simp [Value.oneCell']) (by simp; omega) (by simp; omega) hbs ?_; intro v1 w1 happ1 hb1 _))
    · go_ret
      rw [HX.out, ← HY.out, putB_small hr]
      rw [← ofNat_toNat r (by omega)] at happ1
      exact ⟨_, rfl, by rw [show bc [UInt8.ofNat r] = [Value.int .u8 ((UInt8.ofNat r).toNat : Int)] from rfl]; exact happ1, hbel.trans hb1⟩
    · go_roundw
      case rel =>
        rw [or128] at happ1
        exact ⟨r / 128, _, by go_num, by rw [← HY.out, bc_putB_big (show 128 ≤ r by omega), List.append_assoc]; rfl, happ1, hbel.trans hb1⟩
      case measure => simp [intOf]; omega

end Go.Proofs.Ytkllfdfipkcddaa
