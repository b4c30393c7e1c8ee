/- The walk of the document's Get, of a number's bytes. No condition: lemmas. -/
import Derived.Test.YtkllfdfipkcddaaDecA
namespace Go.Proofs.Ytkllfdfipkcddaa
open Go Go.RowKit

/-- The bytes of a number, one by one. -/
structure Byt (q n : Nat) (P : Nat → Nat) : Prop where
  lt : ∀ j, P j < 256
  rem : ∀ j, j < n → P j % 128 = q / 128 ^ j % 128
  big : ∀ j, j + 1 < n → 128 ≤ P j
  last : P (n - 1) = q / 128 ^ (n - 1) ∧ P (n - 1) < 128 ∧ (1 < n → 0 < P (n - 1))

theorem putB_at : ∀ (n q : Nat), (putB q).length = n + 1 → ∃ P, Byt q (n + 1) P ∧ ∀ j (hj : j < (putB q).length), (putB q)[j].toNat = P j
  | 0, q, h => by
    by_cases hq : q < 128
    · refine ⟨fun _ => q, ⟨fun _ => by omega, fun j hj => ?_, fun j hj => by omega, by simp; omega⟩, fun j hj => ?_⟩
      · obtain rfl : j = 0 := by omega
        simp
      · obtain rfl : j = 0 := by omega
        simp only [putB_small hq, List.getElem_cons_zero]
        simp; omega
    · have h1 := putB_pos (q / 128)
      rw [putB_big (by omega), List.length_cons] at h
      omega
  | n + 1, q, h => by
    have hq : 128 ≤ q := by
      rcases Nat.lt_or_ge q 128 with hq | hq
      · rw [putB_small hq] at h; simp at h
      · exact hq
    have hl : (putB (q / 128)).length = n + 1 := by
      rw [putB_big hq, List.length_cons] at h
      omega
    obtain ⟨P, hP, hb⟩ := putB_at n (q / 128) hl
    have hd : ∀ j, q / 128 / 128 ^ j = q / 128 ^ (j + 1) := fun j => by rw [Nat.div_div_eq_div_mul, Nat.pow_succ']
    refine ⟨fun j => match j with | 0 => q % 128 + 128 | j + 1 => P j, ⟨fun j => ?_, fun j hj => ?_, fun j hj => ?_, ?_⟩, fun j hj => ?_⟩
    · cases j with
      | zero => simp only; omega
      | succ j => exact hP.lt j
    · cases j with
      | zero => simp
      | succ j =>
        have := hP.rem j (by omega)
        rw [hd] at this
        exact this
    · cases j with
      | zero => simp
      | succ j => exact hP.big j (by omega)
    · obtain ⟨h1, h2, h3⟩ := hP.last
      rw [hd] at h1
      refine ⟨h1, h2, fun _ => ?_⟩
      rcases Nat.eq_zero_or_pos n with h0 | h0
      · subst h0
        show 0 < P 0
        have h1 : P 0 = q / 128 ^ (0 + 1) := h1
        rw [h1]
        simp
        omega
      · exact h3 (by omega)
    · cases j with
      | zero => simp only [putB_big hq, List.getElem_cons_zero]; simp; omega
      | succ j =>
        have := hb j (by rw [putB_big hq, List.length_cons] at hj; omega)
        simp only [putB_big hq, List.getElem_cons_succ]
        exact this

theorem Byt.step {q n : Nat} {P : Nat → Nat} (h : Byt q n P) (k : Nat) (hk : k < n) : ∃ a m, q / 128 ^ (k + 1) = a ∧ q / 128 ^ k = a * 128 + m ∧ m < 128 ∧ P k % 128 = m := by
  refine ⟨_, q / 128 ^ k % 128, rfl, ?_, Nat.mod_lt _ (by decide), h.rem k hk⟩
  rw [Nat.pow_succ, ← Nat.div_div_eq_div_mul]
  omega

set_option maxRecDepth 100000 in
set_option maxHeartbeats 800000 in
theorem refGet_any (x : Value) (q : Nat) (rest : List UInt8) (w : World) (S : Nat → Prop) (hb : Sl S w 1 x (bc (putB q ++ rest))) (hq : U64 q) (hx : (putB q ++ rest).length ≤ 1000000000) :
    Calls Try.prog 52 #[x] w (RetGet (q, (putB q).length, 0) w) := by
  obtain ⟨ao, m, cc, rfl, hn, hnc, hc, hnone, hcell⟩ := hb
  rw [bc_length] at hn
  obtain rfl : m = (putB q ++ rest).length := by omega
  have hc' : cc ≤ 9223372036854775807 := by unfold maxLen at hc; omega
  obtain ⟨n, hn1⟩ : ∃ n, (putB q).length = n + 1 := ⟨(putB q).length - 1, by have := putB_pos q; omega⟩
  have hn9 : n ≤ 9 := by have := hq.len; omega
  obtain ⟨P, hP, hPb⟩ := putB_at n q hn1
  obtain ⟨b, off, rfl, -, hcc⟩ := hcell (fun e => by have := congrArg List.length e; rw [bc_length, List.length_append, List.length_nil] at this; omega)
  have hce : ∀ j, j ≤ n → w.cell? ⟨b, off + j, none⟩ = some (.int .u8 (P j)) := by
    intro j hj
    have hjl : j < (putB q).length := by omega
    refine hcc j _ ?_
    have : (putB q ++ rest)[j]? = some ((putB q)[j]) := by rw [List.getElem?_append_left hjl, List.getElem?_eq_getElem hjl]
    simp only [bc, List.getElem?_map, this, Option.map_some, hPb j hjl]
  have HC := Lib.hid hce
  have HP := Lib.hid hP
  have hlen : n + 1 ≤ (putB q ++ rest).length := by rw [List.length_append]; omega
  generalize hL : (putB q ++ rest).length = L at *
  have HQ := Lib.hid hq
  have HN1 := Lib.hid hn1
  clear hcc hcell hce hP hPb hn1 hL hq hnone hc hn
  go_enter Try.func52, Try.ntmps52
  go_wp2
  go_loop [5] (fun ii => ∃ i : Nat, ii = .int .i64 i ∧ i ≤ n) (fun ii => n - (intOf ii).toNat)
  case atStart => exact ⟨0, rfl, by omega⟩
  case round =>
    obtain ⟨i, rfl, hi⟩ := hrel
    have hci := HC.out i hi
    have hlt := HP.out.lt i
    by_cases hin : i < n
    · have hbig := HP.out.big i (by omega)
      have h10 : ¬ (i : Int) + 1 = 10 := by omega
      generalize P i = c at *
      go_wp2
      go_round
      case rel => exact ⟨i + 1, by go_num, by omega⟩
      case measure => simp [intOf]; omega
    · obtain rfl : i = n := by omega
      obtain ⟨hl1, hl2, hl3⟩ := HP.out.last
      rw [Nat.add_sub_cancel] at hl1 hl2 hl3
      have h9 : i = 9 → P i ≤ 1 := fun h9 => by
        subst h9
        rw [hl1]
        have := HQ.out.lt
        rw [show (128 : Nat) ^ 9 = 9223372036854775808 from rfl]
        omega
      have hz : q / 128 ^ (i + 1) = 0 := by
        rw [Nat.pow_succ, ← Nat.div_div_eq_div_mul, ← hl1]
        omega
      have HZ := Lib.hid hz
      clear hz hl1
      have HL2 := Lib.hid hl2
      have H9 := Lib.hid h9
      have H3 := Lib.hid hl3
      clear h9 hl3 hi hin
      have hfour : (i = 0) ∨ (0 < i ∧ i < 9 ∧ 0 < P i) ∨ (i = 9 ∧ P i = 1) := by
        have := H9.out
        have := H3.out
        omega
      rcases hfour with rfl | ⟨h0, h1, h2⟩ | ⟨rfl, h2⟩
      · rw [Nat.add_zero] at hci
        have hl2 := HL2.out
        generalize P 0 = c at hci hlt hl2
        go_wp2
        all_goals
          go_loop [6, 7] (fun uu jj => ∃ j : Nat, j ≤ 0 + 1 ∧ jj = .int .i64 ((j : Int) - 1) ∧ uu = .int .u64 ((q / 128 ^ j : Nat) : Int)) (fun _ jj => (intOf jj + 1).toNat)
          case atStart => exact ⟨0 + 1, by omega, by go_num, by rw [HZ.out]; rfl⟩
          case round =>
            obtain ⟨j, hj, rfl, rfl⟩ := hrel
            cases j with
            | zero =>
              rw [show ((0 : Nat) : Int) - 1 = -1 from rfl, Nat.pow_zero, Nat.div_one]
              go_wp2
              go_ret3
              exact RetGet.mk' q (0 + 1) 0 (by rw [HN1.out]) rfl (by omega) rfl
            | succ k =>
              obtain ⟨a, m, e1, e2, hm, hrem⟩ := Byt.step HP.out k (by omega)
              have hq64 : a * 128 + m < 18446744073709551616 := by rw [← e2]; have := HQ.out.lt; exact Nat.lt_of_le_of_lt (Nat.div_le_self _ _) (by omega)
              have hck := HC.out k (by omega)
              have hlk := HP.out.lt k
              rw [show ((k + 1 : Nat) : Int) - 1 = k from by omega, e1]
              have hw3 : IntKind.u64.wrap ((P k : Int) % 128) = (m : Int) := by
                have := U64.wrap (q := m) (by unfold U64; omega)
                rwa [show ((P k : Int) % 128) = (m : Int) from by omega]
              have hw1 : IntKind.u64.wrap ((a : Int) * 128) = (a : Int) * 128 := by
                have := U64.wrap (q := a * 128) (by unfold U64; omega)
                rwa [show ((a * 128 : Nat) : Int) = (a : Int) * 128 from by omega] at this
              have hw2 : IntKind.u64.wrap ((a : Int) * 128 + (m : Int)) = ((a * 128 + m : Nat) : Int) := by
                have := U64.wrap (q := a * 128 + m) (by unfold U64; omega)
                rwa [show ((a * 128 + m : Nat) : Int) = (a : Int) * 128 + m from by omega] at this ⊢
              have hkL : (k : Int) < L := by omega
              have E2 := Lib.hid e2
              clear e1 e2 hrem
              generalize P k = d at hck hlk hw3
              go_wp2
              go_round
              case rel => exact ⟨k, by omega, by go_num, by rw [E2.out]; exact congrArg (Value.int .u64) (by omega)⟩
              case measure => simp [intOf]
      · have hc2 := HL2.out
        generalize P i = c at hci hlt h2 hc2
        have hi9 : ¬ (i : Int) = 9 := by omega
        have hc0 : ¬ (c : Int) = 0 := by omega
        go_wp2
        all_goals
          go_loop [6, 7] (fun uu jj => ∃ j : Nat, j ≤ i + 1 ∧ jj = .int .i64 ((j : Int) - 1) ∧ uu = .int .u64 ((q / 128 ^ j : Nat) : Int)) (fun _ jj => (intOf jj + 1).toNat)
          case atStart => exact ⟨i + 1, by omega, by go_num, by rw [HZ.out]; rfl⟩
          case round =>
            obtain ⟨j, hj, rfl, rfl⟩ := hrel
            cases j with
            | zero =>
              rw [show ((0 : Nat) : Int) - 1 = -1 from rfl, Nat.pow_zero, Nat.div_one]
              go_wp2
              go_ret3
              exact RetGet.mk' q (i + 1) 0 (by rw [HN1.out]) rfl (by omega) rfl
            | succ k =>
              obtain ⟨a, m, e1, e2, hm, hrem⟩ := Byt.step HP.out k (by omega)
              have hq64 : a * 128 + m < 18446744073709551616 := by rw [← e2]; have := HQ.out.lt; exact Nat.lt_of_le_of_lt (Nat.div_le_self _ _) (by omega)
              have hck := HC.out k (by omega)
              have hlk := HP.out.lt k
              rw [show ((k + 1 : Nat) : Int) - 1 = k from by omega, e1]
              have hw3 : IntKind.u64.wrap ((P k : Int) % 128) = (m : Int) := by
                have := U64.wrap (q := m) (by unfold U64; omega)
                rwa [show ((P k : Int) % 128) = (m : Int) from by omega]
              have hw1 : IntKind.u64.wrap ((a : Int) * 128) = (a : Int) * 128 := by
                have := U64.wrap (q := a * 128) (by unfold U64; omega)
                rwa [show ((a * 128 : Nat) : Int) = (a : Int) * 128 from by omega] at this
              have hw2 : IntKind.u64.wrap ((a : Int) * 128 + (m : Int)) = ((a * 128 + m : Nat) : Int) := by
                have := U64.wrap (q := a * 128 + m) (by unfold U64; omega)
                rwa [show ((a * 128 + m : Nat) : Int) = (a : Int) * 128 + m from by omega] at this ⊢
              have hkL : (k : Int) < L := by omega
              have E2 := Lib.hid e2
              clear e1 e2 hrem
              generalize P k = d at hck hlk hw3
              go_wp2
              go_round
              case rel => exact ⟨k, by omega, by go_num, by rw [E2.out]; exact congrArg (Value.int .u64) (by omega)⟩
              case measure => simp [intOf]
      · rw [h2] at hci
        go_wp2
        all_goals
          go_loop [6, 7] (fun uu jj => ∃ j : Nat, j ≤ 9 + 1 ∧ jj = .int .i64 ((j : Int) - 1) ∧ uu = .int .u64 ((q / 128 ^ j : Nat) : Int)) (fun _ jj => (intOf jj + 1).toNat)
          case atStart => exact ⟨9 + 1, by omega, by go_num, by rw [HZ.out]; rfl⟩
          case round =>
            obtain ⟨j, hj, rfl, rfl⟩ := hrel
            cases j with
            | zero =>
              rw [show ((0 : Nat) : Int) - 1 = -1 from rfl, Nat.pow_zero, Nat.div_one]
              go_wp2
              go_ret3
              exact RetGet.mk' q (9 + 1) 0 (by rw [HN1.out]) rfl (by omega) rfl
            | succ k =>
              obtain ⟨a, m, e1, e2, hm, hrem⟩ := Byt.step HP.out k (by omega)
              have hq64 : a * 128 + m < 18446744073709551616 := by rw [← e2]; have := HQ.out.lt; exact Nat.lt_of_le_of_lt (Nat.div_le_self _ _) (by omega)
              have hck := HC.out k (by omega)
              have hlk := HP.out.lt k
              rw [show ((k + 1 : Nat) : Int) - 1 = k from by omega, e1]
              have hw3 : IntKind.u64.wrap ((P k : Int) % 128) = (m : Int) := by
                have := U64.wrap (q := m) (by unfold U64; omega)
                rwa [show ((P k : Int) % 128) = (m : Int) from by omega]
              have hw1 : IntKind.u64.wrap ((a : Int) * 128) = (a : Int) * 128 := by
                have := U64.wrap (q := a * 128) (by unfold U64; omega)
                rwa [show ((a * 128 : Nat) : Int) = (a : Int) * 128 from by omega] at this
              have hw2 : IntKind.u64.wrap ((a : Int) * 128 + (m : Int)) = ((a * 128 + m : Nat) : Int) := by
                have := U64.wrap (q := a * 128 + m) (by unfold U64; omega)
                rwa [show ((a * 128 + m : Nat) : Int) = (a : Int) * 128 + m from by omega] at this ⊢
              have hkL : (k : Int) < L := by omega
              have E2 := Lib.hid e2
              clear e1 e2 hrem
              generalize P k = d at hck hlk hw3
              go_wp2
              go_round
              case rel => exact ⟨k, by omega, by go_num, by rw [E2.out]; exact congrArg (Value.int .u64) (by omega)⟩
              case measure => simp [intOf]

end Go.Proofs.Ytkllfdfipkcddaa
