/- The walks of sentryref16.Less, edit.right, sentryref16.Right: order of tables, numbers that may be written. No condition: lemmas. -/
import Derived.Test.YtkllfdfipkcddaaEditB
namespace Go.Proofs.Ytkllfdfipkcddaa
open Go Go.RowKit

/-- Does a table stand ahead of another one? -/
def lessT (a b : Tab) : Bool := if a.lvl ≠ b.lvl then decide (a.lvl < b.lvl) else if a.lvl = 0 ∨ a.first = b.first then decide (a.num < b.num) else ltS a.first b.first

set_option maxRecDepth 100000 in
set_option maxHeartbeats 800000 in
theorem less_any (a b : Tab) (w : World) : Calls Try.prog 23 #[tV a, tV b] w (Ret (.bool (lessT a b)) w) := by
  obtain ⟨an, al, asz, af, ala⟩ := a
  obtain ⟨bn, bl, bsz, bf, bla⟩ := b
  unfold tV
  dsimp only
  have hb0 : Below w.heap.size w ((w.alloc (.cells #[Value.int .i64 an, .int .i64 al, .int .i64 asz, .string af, .string ala] 38)).alloc (.cells #[Value.int .i64 bn, .int .i64 bl, .int .i64 bsz, .string bf, .string bla] 38)) :=
    ((Below.refl _ _).alloc (Nat.le_refl _) _).alloc (by simp) _
  by_cases hl : al = bl
  · subst hl
    by_cases h0 : al = 0
    · subst h0
      have HO := Lib.hid (show lessT ⟨an, 0, asz, af, ala⟩ ⟨bn, 0, bsz, bf, bla⟩ = decide (an < bn) from by simp [lessT])
      go_enter Try.func23, Try.ntmps23
      go_wp2
      go_ret
      exact ⟨by rw [HO.out]; rfl, hb0⟩
    · have h02 : (al == 0) = false := by simpa using h0
      by_cases hf : af = bf
      · subst hf
        have HO := Lib.hid (show lessT ⟨an, al, asz, af, ala⟩ ⟨bn, al, bsz, af, bla⟩ = decide (an < bn) from by simp [lessT])
        clear h0
        go_enter Try.func23, Try.ntmps23
        go_wp2
        go_ret
        exact ⟨by rw [HO.out]; rfl, hb0⟩
      · have HO := Lib.hid (show lessT ⟨an, al, asz, af, ala⟩ ⟨bn, al, bsz, bf, bla⟩ = Op.bytesLess af.toList bf.toList from by simp [lessT, h0, hf, ltS])
        have h2 := ba_beq' hf
        rw [← ByteArray.toList_eq, ← ByteArray.toList_eq] at h2
        clear h0 hf
        go_enter Try.func23, Try.ntmps23
        go_wp2
        go_ret
        exact ⟨by rw [HO.out]; rfl, hb0⟩
  · have HO := Lib.hid (show lessT ⟨an, al, asz, af, ala⟩ ⟨bn, bl, bsz, bf, bla⟩ = decide (al < bl) from by simp [lessT, hl])
    have hl2 : (al != bl) = true := by simpa using hl
    clear hl
    go_enter Try.func23, Try.ntmps23
    go_wp2
    go_ret
    exact ⟨by rw [HO.out]; rfl, hb0⟩

/-- A number that an int holds. -/
def I64 (n : Int) : Prop := -9223372036854775808 ≤ n ∧ n ≤ 9223372036854775807
theorem I64.hi {n : Int} (h : I64 n) : n ≤ 9223372036854775807 := h.2
structure TabOk (t : Tab) : Prop where
  num : I64 t.num
  lvl : I64 t.lvl
  size : I64 t.size
  first : t.first.size ≤ 140737488355328
  last : t.last.size ≤ 140737488355328
def oddT (t : Tab) : Bool := oddB t.num || oddB t.lvl || oddB t.size

theorem odd_is {b : Bool} (n : Int) (w : World) (h : I64 n) (hb : oddB n = b) : Calls Try.prog 41 #[.int .i64 n] w fun e w' => e = .returned (.bool b) ∧ w = w' := hb ▸ odd_any n w h.2

set_option maxRecDepth 100000 in
set_option maxHeartbeats 400000 in
theorem right1_any (t : Tab) (w : World) (ht : TabOk t) : Calls Try.prog 44 #[tV t] w (Ret (.bool (oddT t)) w) := by
  obtain ⟨n, l, s, f, la⟩ := t
  obtain ⟨h1, h2, h3, -, -⟩ := ht
  unfold tV
  dsimp only at *
  have hb0 : Below w.heap.size w (w.alloc (.cells #[Value.int .i64 n, .int .i64 l, .int .i64 s, .string f, .string la] 38)) := (Below.refl _ _).alloc (Nat.le_refl _) _
  cases b1 : oddB n with
  | true =>
    have HO := Lib.hid (show oddT ⟨n, l, s, f, la⟩ = true from by simp [oddT, b1])
    have HB := Lib.hid b1
    clear b1
    go_enter Try.func44, Try.ntmps44
    go_wp2_with fail
    refine (odd_is n _ h1 HB.out).mono ?_
    rintro e w' ⟨rfl, rfl⟩
    go_wp2
    go_ret
    exact ⟨by rw [HO.out]; rfl, hb0⟩
  | false =>
    have HB := Lib.hid b1
    cases b2 : oddB l with
    | true =>
      have HO := Lib.hid (show oddT ⟨n, l, s, f, la⟩ = true from by simp [oddT, b2])
      have HC := Lib.hid b2
      clear b1 b2
      go_enter Try.func44, Try.ntmps44
      go_wp2_with fail
      refine (odd_is n _ h1 HB.out).mono ?_
      rintro e w' ⟨rfl, rfl⟩
      go_wp2_with fail
      refine (odd_is l _ h2 HC.out).mono ?_
      rintro e w' ⟨rfl, rfl⟩
      go_wp2
      go_ret
      exact ⟨by rw [HO.out]; rfl, hb0⟩
    | false =>
      have HO := Lib.hid (show oddT ⟨n, l, s, f, la⟩ = oddB s from by simp [oddT, b1, b2])
      have HC := Lib.hid b2
      clear b1 b2
      go_enter Try.func44, Try.ntmps44
      go_wp2_with fail
      refine (odd_is n _ h1 HB.out).mono ?_
      rintro e w' ⟨rfl, rfl⟩
      go_wp2_with fail
      refine (odd_is l _ h2 HC.out).mono ?_
      rintro e w' ⟨rfl, rfl⟩
      go_wp2_with fail
      refine (odd_is s _ h3 rfl).mono ?_
      rintro e w' ⟨rfl, rfl⟩
      go_wp2
      go_ret
      exact ⟨by rw [HO.out]; rfl, hb0⟩

/-- Numbers as cells. -/
def ic (l : List Int) : List Value := l.map fun n => .int .i64 n
theorem ic_length (l : List Int) : (ic l).length = l.length := by simp [ic]
theorem ic_append (a b : List Int) : ic (a ++ b) = ic a ++ ic b := by simp [ic]
theorem ic_one (l : List Int) : ∀ u ∈ ic l, u.oneCell' = true := by
  intro u hu
  obtain ⟨n, _, rfl⟩ := List.mem_map.1 hu
  rfl
theorem Sl.ints {S : Nat → Prop} {w : World} {v : Value} {l : List Int} (h : Sl S w 1 v (ic l)) : ∃ ao c, v = .slice ao l.length c ∧ l.length ≤ c ∧ c ≤ 9223372036854775807 ∧
    (0 < l.length → ∃ b off, ao = some ⟨b, off, none⟩ ∧ S b ∧ ∀ i (hi : i < l.length), w.cell? ⟨b, off + i, none⟩ = some (.int .i64 l[i])) := by
  obtain ⟨ao, n, c, rfl, h1, h2, h3, h4, h5⟩ := h
  obtain rfl : n = l.length := by rw [ic_length] at h1; omega
  refine ⟨ao, c, rfl, h2, by unfold maxLen at h3; omega, fun hl => ?_⟩
  obtain ⟨b, off, rfl, hb, hc⟩ := h5 (fun e => by have := congrArg List.length e; rw [ic_length, List.length_nil] at this; omega)
  exact ⟨b, off, rfl, hb, fun j hj => hc j _ (by simp [ic, hj])⟩

def RetIdx (b : Bool) (w : World) (e : Ending) (w' : World) : Prop := ∃ r : Int, e = .returned (.int .i64 r) ∧ decide (0 ≤ r) = b ∧ Below w.heap.size w w'
theorem any_hit {α : Type} {p : α → Bool} {l : List α} {i : Nat} (hi : i < l.length) (h : p l[i] = true) : l.any p = true := List.any_eq_true.2 ⟨_, List.getElem_mem hi, h⟩
theorem any_miss {α : Type} {p : α → Bool} {l : List α} (h : ∀ i (hi : i < l.length), p l[i] = false) : l.any p = false := by
  rw [List.any_eq_false]
  intro x hx
  obtain ⟨i, hi, rfl⟩ := List.getElem_of_mem hx
  simp [h i hi]

set_option maxRecDepth 100000 in
set_option maxHeartbeats 800000 in
theorem idxI_any (v : Value) (l : List Int) (w : World) (hv : Sl (· < w.heap.size) w 1 v (ic l)) (hI : ∀ n ∈ l, I64 n) :
    Calls Try.prog 54 #[v, .func (.func 41) #[] #[]] w (RetIdx (l.any oddB) w) := by
  obtain ⟨ao, c, rfl, hac, hcm, hacell⟩ := hv.ints
  have HAC := Lib.hid hacell
  clear hacell hv
  go_enter Try.func54, Try.ntmps54
  go_wp2
  go_loopw [8] (fun ii wr => ∃ i : Nat, i ≤ l.length ∧ ii = .int .i64 i ∧ (∀ j (hj : j < l.length), j < i → oddB l[j] = false) ∧ Below w.heap.size w wr) (fun ii _ => l.length - (intOf ii).toNat)
  case atStart => exact ⟨0, by omega, rfl, fun _ _ h => absurd h (by omega), Below.refl _ _⟩
  case round =>
    obtain ⟨i, hi, rfl, hall, hbel⟩ := hrel
    have HALL := Lib.hid hall
    clear hall
    by_cases hlt : i < l.length
    · obtain ⟨b, off, rfl, hb, hc⟩ := HAC.out (by omega)
      have c0 := (hbel.cell (p := ⟨b, off + i, none⟩) hb).trans (hc i hlt)
      have hIi := hI _ (List.getElem_mem hlt)
      have HN := fun (h : oddB l[i] = false) => Lib.hid (upto_succ (p := fun j hj => oddB l[j] = false) HALL.out hlt h)
      have HT := fun h => Lib.hid (any_hit (p := oddB) hlt h)
      clear hc
      generalize l[i] = n at *
      cases hb : oddB n with
      | true =>
        have HB := Lib.hid hb
        have HT := HT hb
        clear hb HN
        go_wp2_with fail
        refine (odd_is n _ hIi HB.out).mono ?_
        rintro e w' ⟨rfl, rfl⟩
        go_wp2
        go_ret
        exact ⟨i, rfl, by rw [HT.out]; simp, hbel⟩
      | false =>
        have HB := Lib.hid hb
        have HN := HN hb
        clear hb HT
        go_wp2_with fail
        refine (odd_is n _ hIi HB.out).mono ?_
        rintro e w' ⟨rfl, rfl⟩
        go_wp2
        go_roundw
        case rel => exact ⟨i + 1, by omega, by go_num, HN.out, hbel⟩
        case measure => simp [intOf]; omega
    · obtain rfl : i = l.length := by omega
      have HR := Lib.hid (any_miss (p := oddB) fun j hj => HALL.out j hj hj)
      go_wp2
      go_ret
      exact ⟨-1, rfl, by rw [HR.out]; rfl, hbel⟩

set_option maxRecDepth 100000 in
set_option maxHeartbeats 800000 in
theorem idxT_any (v : Value) (l : List Tab) (w : World) (hv : Sl (· < w.heap.size) w 5 v (tcs l)) (hI : ∀ t ∈ l, TabOk t) :
    Calls Try.prog 55 #[v, .func (.func 44) #[] #[]] w (RetIdx (l.any oddT) w) := by
  obtain ⟨ao, c, rfl, hac, hcm, hacell⟩ := hv.tabs
  have HAC := Lib.hid hacell
  clear hacell hv
  go_enter Try.func55, Try.ntmps55
  go_wp2
  go_loopw [8] (fun ii wr => ∃ i : Nat, i ≤ l.length ∧ ii = .int .i64 i ∧ (∀ j (hj : j < l.length), j < i → oddT l[j] = false) ∧ Below w.heap.size w wr) (fun ii _ => l.length - (intOf ii).toNat)
  case atStart => exact ⟨0, by omega, rfl, fun _ _ h => absurd h (by omega), Below.refl _ _⟩
  case round =>
    obtain ⟨i, hi, rfl, hall, hbel⟩ := hrel
    have HALL := Lib.hid hall
    clear hall
    by_cases hlt : i < l.length
    · obtain ⟨b, off, rfl, hb, hc⟩ := HAC.out (by omega)
      obtain ⟨c0, c1, c2, c3, c4⟩ := hc i hlt
      have c0 := (hbel.cell (p := ⟨b, off + i * 5, none⟩) hb).trans c0
      have c1 := (hbel.cell (p := ⟨b, off + i * 5 + 1, none⟩) hb).trans c1
      have c2 := (hbel.cell (p := ⟨b, off + i * 5 + 2, none⟩) hb).trans c2
      have c3 := (hbel.cell (p := ⟨b, off + i * 5 + 3, none⟩) hb).trans c3
      have c4 := (hbel.cell (p := ⟨b, off + i * 5 + 4, none⟩) hb).trans c4
      have hIi := hI _ (List.getElem_mem hlt)
      have HN := fun (h : oddT l[i] = false) => Lib.hid (upto_succ (p := fun j hj => oddT l[j] = false) HALL.out hlt h)
      have HT := fun h => Lib.hid (any_hit (p := oddT) hlt h)
      clear hc
      generalize l[i] = t at *
      have hcall := right1_any t wr hIi
      cases hb : oddT t with
      | true =>
        rw [hb] at hcall
        have HT := HT hb
        clear hb HN
        go_wp2_with fail
        refine hcall.mono ?_
        rintro e w2 ⟨rfl, hb2⟩
        go_wp2
        go_ret
        exact ⟨i, rfl, by rw [HT.out]; simp, hbel.trans (hb2.mono hbel.size)⟩
      | false =>
        rw [hb] at hcall
        have HN := HN hb
        clear hb HT
        go_wp2_with fail
        refine hcall.mono ?_
        rintro e w2 ⟨rfl, hb2⟩
        have hb02 := hbel.trans (hb2.mono hbel.size)
        go_wp2
        go_roundw
        case rel => exact ⟨i + 1, by omega, by go_num, HN.out, hb02⟩
        case measure => simp [intOf]; omega
    · obtain rfl : i = l.length := by omega
      have HR := Lib.hid (any_miss (p := oddT) fun j hj => HALL.out j hj hj)
      go_wp2
      go_ret
      exact ⟨-1, rfl, by rw [HR.out]; rfl, hbel⟩

theorem contI_any (v : Value) (l : List Int) (w : World) (hv : Sl (· < w.heap.size) w 1 v (ic l)) (hI : ∀ n ∈ l, I64 n) :
    Calls Try.prog 42 #[v, .func (.func 41) #[] #[]] w (Ret (.bool (l.any oddB)) w) := by
  have hcall := idxI_any v l w hv hI
  generalize l.any oddB = q at *
  go_enter Try.func42, Try.ntmps42
  go_wp2_with fail
  refine hcall.mono ?_
  rintro e w2 ⟨r, rfl, HR, hb2⟩
  have HR := Lib.hid HR
  go_wp2
  go_ret
  exact ⟨by rw [← HR.out]; rfl, hb2⟩
theorem contT_any (v : Value) (l : List Tab) (w : World) (hv : Sl (· < w.heap.size) w 5 v (tcs l)) (hI : ∀ t ∈ l, TabOk t) :
    Calls Try.prog 43 #[v, .func (.func 44) #[] #[]] w (Ret (.bool (l.any oddT)) w) := by
  have hcall := idxT_any v l w hv hI
  generalize l.any oddT = q at *
  go_enter Try.func43, Try.ntmps43
  go_wp2_with fail
  refine hcall.mono ?_
  rintro e w2 ⟨r, rfl, HR, hb2⟩
  have HR := Lib.hid HR
  go_wp2
  go_ret
  exact ⟨by rw [← HR.out]; rfl, hb2⟩

end Go.Proofs.Ytkllfdfipkcddaa
