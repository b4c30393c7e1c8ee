/- Tables of the layer edit as values; the order of tables, and which numbers are odd. No condition: lemmas. -/
import Derived.Test.YtkllfdfipkcddaaRowk
import Derived.Test.YtkllfdfipkcddaaRegion
import Derived.Deep.QuietTactic
import Derived.BigQuiet
namespace Go.Proofs.Ytkllfdfipkcddaa
open Go Go.RowKit

/-- A table. -/
structure Tab where
  num : Int
  lvl : Int
  size : Int
  first : ByteArray
  last : ByteArray
deriving DecidableEq
def tC (t : Tab) : List Value := [.int .i64 t.num, .int .i64 t.lvl, .int .i64 t.size, .string t.first, .string t.last]
abbrev tV (t : Tab) : Value := .agg #[.int .i64 t.num, .int .i64 t.lvl, .int .i64 t.size, .string t.first, .string t.last]
theorem tC_length (t : Tab) : (tC t).length = 5 := rfl
/-- Tables as cells. -/
def tcs (l : List Tab) : List Value := l.flatMap tC
theorem tcs_length (l : List Tab) : (tcs l).length = l.length * 5 := flat_length tC_length l
theorem tcs_append (a b : List Tab) : tcs (a ++ b) = tcs a ++ tcs b := by simp [tcs]
theorem tcs_take (l : List Tab) (k : Nat) : (tcs l).take (k * 5) = tcs (l.take k) := by
  induction l generalizing k with
  | nil => simp [tcs]
  | cons a l ih =>
    cases k with
    | zero => simp [tcs]
    | succ k =>
      have e : tcs (a :: l) = tC a ++ tcs l := rfl
      rw [e, Nat.add_mul, Nat.one_mul, Nat.add_comm, List.take_length_add_append' tC_length, ih]
      rfl
where
  List.take_length_add_append' {t : Tab} {l : List Value} {n : Nat} (_ : ∀ t, (tC t).length = 5) : (tC t ++ l).take (5 + n) = tC t ++ l.take n := by
    rw [List.take_append, List.take_of_length_le (by rw [tC_length]; omega)]
    simp [tC_length]
theorem tcs_one (l : List Tab) : ∀ u ∈ tcs l, u.oneCell' = true := by
  intro u hu
  obtain ⟨t, _, ht⟩ := List.mem_flatMap.1 hu
  simp only [tC, List.mem_cons, List.not_mem_nil, or_false] at ht
  rcases ht with rfl | rfl | rfl | rfl | rfl <;> rfl
theorem tabsT : ElemT Try.prog 22 38 5 56 := ElemT.mk' Try.underlying22 (show _ = some (some (.agg #[.int .i64 0, .int .i64 0, .int .i64 0, .string ByteArray.empty, .string ByteArray.empty]), 5, 56) by kernel_rfl) rfl (by decide)
theorem intsT : ElemT Try.prog 26 3 1 8 := ElemT.mk' Try.underlying26 (show _ = some (some (.int .i64 0), 1, 8) by kernel_rfl) rfl (by decide)

theorem Sl.tabs {S : Nat → Prop} {w : World} {v : Value} {l : List Tab} (h : Sl S w 5 v (tcs l)) : ∃ ao c, v = .slice ao l.length c ∧ l.length ≤ c ∧ c ≤ 9223372036854775807 ∧
    (0 < l.length → ∃ b off, ao = some ⟨b, off, none⟩ ∧ S b ∧ ∀ i (hi : i < l.length), w.cell? ⟨b, off + i * 5, none⟩ = some (.int .i64 l[i].num) ∧ w.cell? ⟨b, off + i * 5 + 1, none⟩ = some (.int .i64 l[i].lvl) ∧
      w.cell? ⟨b, off + i * 5 + 2, none⟩ = some (.int .i64 l[i].size) ∧ w.cell? ⟨b, off + i * 5 + 3, none⟩ = some (.string l[i].first) ∧ w.cell? ⟨b, off + i * 5 + 4, none⟩ = some (.string l[i].last)) := by
  obtain ⟨ao, c, rfl, h1, h2, h3⟩ := Sl.rows tC_length (by decide) h
  refine ⟨ao, c, rfl, h1, h2, fun hl => ?_⟩
  obtain ⟨b, off, rfl, hb, hc⟩ := h3 hl
  exact ⟨b, off, rfl, hb, fun i hi => ⟨hc i hi 0 _ rfl, hc i hi 1 _ rfl, hc i hi 2 _ rfl, hc i hi 3 _ rfl, hc i hi 4 _ rfl⟩⟩

/-- Is a number odd: below 0, or not below 2^62? -/
def oddB (n : Int) : Bool := decide (n < 0) || decide (4611686018427387904 ≤ n)

set_option maxHeartbeats 400000 in
theorem odd_any (n : Int) (w : World) (h : n ≤ 9223372036854775807) : Calls Try.prog 41 #[.int .i64 n] w fun e w' => e = .returned (.bool (oddB n)) ∧ w = w' := by
  by_cases h0 : n < 0
  · have HO := Lib.hid (show oddB n = true from by simp [oddB, h0])
    go_enter Try.func41, Try.ntmps41
    go_wp2
    go_ret
    exact ⟨by rw [HO.out]; rfl, rfl⟩
  · have hn : 0 ≤ n := by omega
    have hneg : decide (n < 0) = false := by simpa using hn
    by_cases h1 : n < 4611686018427387904
    · have HO := Lib.hid (show oddB n = false from by simp [oddB]; omega)
      have hd : n / 4611686018427387904 = 0 := by omega
      clear h0
      go_enter Try.func41, Try.ntmps41
      go_wp2
      go_ret
      exact ⟨by rw [HO.out]; rfl, rfl⟩
    · have HO := Lib.hid (show oddB n = true from by simp [oddB]; omega)
      have hd : n / 4611686018427387904 = 1 := by omega
      clear h0 h1
      go_enter Try.func41, Try.ntmps41
      go_wp2
      go_ret
      exact ⟨by rw [HO.out]; rfl, rfl⟩

end Go.Proofs.Ytkllfdfipkcddaa
