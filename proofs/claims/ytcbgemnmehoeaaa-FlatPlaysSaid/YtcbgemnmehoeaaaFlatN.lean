/- The walks of the names' checks. No condition: lemmas. -/
import Derived.Test.YtcbgemnmehoeaaaFlatM
namespace Go.Proofs.Ytcbgemnmehoeaaa
open Go Go.RowKit

def okc (c : UInt8) : Bool := decide ((97 ≤ (c.toNat : Int) ∧ (c.toNat : Int) ≤ 122) ∨ (48 ≤ (c.toNat : Int) ∧ (c.toNat : Int) ≤ 57) ∨ (c.toNat : Int) = 95 ∨ (c.toNat : Int) = 45)
def isNm (s : ByteArray) : Bool := s.data.toList.all okc && (decide (1 ≤ s.size) && decide (s.size ≤ 32))

theorem isNm_bad {s : ByteArray} {i : Nat} (hi : i < s.size) (h : okc s[i] = false) : isNm s = false := by
  unfold isNm
  rw [Bool.and_eq_false_iff]
  left
  rw [List.all_eq_false]
  exact ⟨s[i], by rw [show s[i] = s.data.toList[i]'(by simpa using hi) from rfl]; exact List.getElem_mem _, by simpa using h⟩
theorem isNm_end {s : ByteArray} (h : ∀ j (hj : j < s.size), j < s.size → okc s[j] = true) : isNm s = (decide (1 ≤ s.size) && decide (s.size ≤ 32)) := by
  unfold isNm
  rw [show s.data.toList.all okc = true from ?_, Bool.true_and]
  rw [List.all_eq_true]
  intro x hx
  obtain ⟨j, hj, rfl⟩ := List.getElem_of_mem hx
  have hj' : j < s.size := by simpa using hj
  exact h j hj' hj'

set_option maxRecDepth 100000 in
set_option maxHeartbeats 1600000 in
theorem isName_any (s : ByteArray) (hs : s.size ≤ maxLen) (w : World) : Calls Try.prog 35 #[.string s] w fun e w' => e = .returned (.bool (isNm s)) ∧ w' = w := by
  have hsz : s.size ≤ 9223372036854775807 := by unfold maxLen at hs; omega
  clear hs
  go_enter Try.func35, Try.ntmps35
  go_wp2_with fail
  go_loopw [7] (fun ii wr => ∃ i : Nat, i ≤ s.size ∧ ii = .int .i64 i ∧ (∀ j (hj : j < s.size), j < i → okc s[j] = true) ∧ wr = w) (fun ii _ => s.size - (intOf ii).toNat)
  case atStart => exact ⟨0, by omega, rfl, fun _ _ h => absurd h (by omega), rfl⟩
  case round =>
    obtain ⟨i, hi, rfl, hall, rfl⟩ := hrel
    have HALL := Lib.hid hall
    clear hall
    by_cases hlt : i < s.size
    · go_wp2_with fail
      all_goals first
        | (refine ⟨⟨i + 1, by omega, by go_num, upto_succ (p := fun j hj => okc s[j] = true) HALL.out hlt ?_, trivial⟩, by simp [intOf]; omega⟩
           unfold okc
           rw [decide_eq_true_iff]
           try simp only [beq_iff_eq, beq_eq_false_iff_ne, ne_eq] at *
           omega)
        | (go_ret
           refine ⟨?_, rfl⟩
           rw [isNm_bad hlt (by
             unfold okc
             rw [decide_eq_false_iff_not]
             try simp only [beq_eq_false_iff_ne, ne_eq] at *
             omega)]
           rfl)
    · obtain rfl : i = s.size := by omega
      have HE := Lib.hid (isNm_end HALL.out)
      by_cases h0 : s.size = 0
      · obtain rfl := ba_size_eq h0
        clear h0
        go_wp2_with fail
        go_ret
        exact ⟨by rw [HE.out]; rfl, rfl⟩
      · have hne := ba_size_ne h0
        have h1 : 1 ≤ s.size := by omega
        have HE2 := Lib.hid (show isNm s = decide ((s.size : Int) ≤ 32) from by
          rw [HE.out, decide_eq_true h1, Bool.true_and]
          by_cases h : s.size ≤ 32
          · rw [decide_eq_true h, decide_eq_true (by omega)]
          · rw [decide_eq_false h, decide_eq_false (by omega)])
        clear HE h0 h1
        go_wp2_with fail
        go_ret
        exact ⟨by rw [HE2.out]; rfl, rfl⟩

set_option maxRecDepth 100000 in
set_option maxHeartbeats 1600000 in
theorem refName_any (s : ByteArray) (hs : s.size ≤ maxLen) (w : World) : Calls Try.prog 26 #[.string s] w fun e w' => e = .returned (.bool (isNm s)) ∧ w' = w := by
  have hsz : s.size ≤ 9223372036854775807 := by unfold maxLen at hs; omega
  clear hs
  go_enter Try.func26, Try.ntmps26
  go_wp2_with fail
  go_loopw [3] (fun ii wr => ∃ i : Nat, i ≤ s.size ∧ ii = .int .i64 i ∧ (∀ j (hj : j < s.size), j < i → okc s[j] = true) ∧ wr = w) (fun ii _ => s.size - (intOf ii).toNat)
  case atStart => exact ⟨0, by omega, rfl, fun _ _ h => absurd h (by omega), rfl⟩
  case round =>
    obtain ⟨i, hi, rfl, hall, rfl⟩ := hrel
    have HALL := Lib.hid hall
    clear hall
    by_cases hlt : i < s.size
    · go_wp2_with fail
      all_goals first
        | (refine ⟨⟨i + 1, by omega, by go_num, upto_succ (p := fun j hj => okc s[j] = true) HALL.out hlt ?_, trivial⟩, by simp [intOf]; omega⟩
           unfold okc
           rw [decide_eq_true_iff]
           (try simp at *) <;> omega)
        | (go_ret
           refine ⟨?_, rfl⟩
           rw [isNm_bad hlt (by
             unfold okc
             rw [decide_eq_false_iff_not]
             (try simp at *) <;> omega)]
           rfl)
    · obtain rfl : i = s.size := by omega
      have HE := Lib.hid (isNm_end HALL.out)
      by_cases h0 : s.size = 0
      · obtain rfl := ba_size_eq h0
        clear h0
        go_wp2_with fail
        go_ret
        exact ⟨by rw [HE.out]; rfl, rfl⟩
      · have h1 : 1 ≤ s.size := by omega
        have h2 : (1 : Int) ≤ (s.size : Int) := by omega
        have HE2 := Lib.hid (show isNm s = decide ((s.size : Int) ≤ 32) from by
          rw [HE.out, decide_eq_true h1, Bool.true_and]
          by_cases h : s.size ≤ 32
          · rw [decide_eq_true h, decide_eq_true (by omega)]
          · rw [decide_eq_false h, decide_eq_false (by omega)])
        clear HE h0 h1
        go_wp2_with fail
        go_ret
        exact ⟨by rw [HE2.out]; rfl, rfl⟩

/-- May a tuple be? -/
def chkT (t : Tup) : Bool := isNm t.o.t && isNm t.o.i && isNm t.o.r && isNm t.s.t && isNm t.s.i && (isNm t.s.r || decide (t.s.r.size = 0))
/-- What Check answers. -/
def chkN (t : Tup) : Int := if chkT t then 0 else 2

set_option maxRecDepth 100000 in
set_option maxHeartbeats 1600000 in
theorem of_any (t : Tup) (w : World) : Calls Try.prog 34 #[tV t] w fun e w' => e = .returned (tV t) ∧ Below w.heap.size w w' := by
  obtain ⟨⟨ot, oi, or_⟩, ⟨st, si, sr⟩⟩ := t
  have hb := (Blk.made w #[.string ot, .string oi, .string or_, .string st, .string si, .string sr] 32)
  have h1 : Below w.heap.size w (w.alloc (.cells #[.string ot, .string oi, .string or_, .string st, .string si, .string sr] 32)) := (Below.refl _ _).alloc (Nat.le_refl _) _
  unfold tV
  dsimp only
  go_enter Try.func34, Try.ntmps34
  go_wp2_with fail
  refine bodyPost_ret (results_cell_row rfl _ _ (w.heap.size + 1) 74 #[.string ot, .string oi, .string or_, .string st, .string si, .string sr] (0, 0) _ rfl ?_ Try.underlying74 rfl (by kernel_rfl)) rfl ⟨rfl, h1.alloc h1.size _⟩
  have := heap_alloc_new (w.alloc (.cells #[.string ot, .string oi, .string or_, .string st, .string si, .string sr] 32)) (.cells #[.string ot, .string oi, .string or_, .string st, .string si, .string sr] 74)
  rwa [World.size_alloc] at this

/-- The parts of a tuple, by number. -/
theorem parts_at (a b c d e f : ByteArray) (W : World) :
    (Instr.index 74 (.agg #[.string a, .string b, .string c, .string d, .string e, .string f]) (.int .i64 0)).run Try.prog W = .ok (.string a) W ∧
    (Instr.index 74 (.agg #[.string a, .string b, .string c, .string d, .string e, .string f]) (.int .i64 1)).run Try.prog W = .ok (.string b) W ∧
    (Instr.index 74 (.agg #[.string a, .string b, .string c, .string d, .string e, .string f]) (.int .i64 2)).run Try.prog W = .ok (.string c) W ∧
    (Instr.index 74 (.agg #[.string a, .string b, .string c, .string d, .string e, .string f]) (.int .i64 3)).run Try.prog W = .ok (.string d) W ∧
    (Instr.index 74 (.agg #[.string a, .string b, .string c, .string d, .string e, .string f]) (.int .i64 4)).run Try.prog W = .ok (.string e) W ∧
    (Instr.index 74 (.agg #[.string a, .string b, .string c, .string d, .string e, .string f]) (.int .i64 5)).run Try.prog W = .ok (.string f) W :=
  ⟨by kernel_rfl, by kernel_rfl, by kernel_rfl, by kernel_rfl, by kernel_rfl, by kernel_rfl⟩

set_option maxRecDepth 100000 in
set_option maxHeartbeats 3200000 in
theorem check_any (t : Tup) (ht : t.Ok) (w : World) : Calls Try.prog 24 #[tV t] w fun e w' => e = .returned (.int .i64 (chkN t)) ∧ Below w.heap.size w w' := by
  obtain ⟨⟨ot, oi, or_⟩, ⟨st, si, sr⟩⟩ := t
  have HOK := Lib.hid ht
  clear ht
  have hb1 := (Blk.made w #[.string ot, .string oi, .string or_, .string st, .string si, .string sr] 32).cells
  have HE := Lib.hid (show Below w.heap.size w (w.alloc (.cells #[.string ot, .string oi, .string or_, .string st, .string si, .string sr] 32)) from (Below.refl _ _).alloc (Nat.le_refl _) _)
  have HOF := Lib.hid (of_any ⟨⟨ot, oi, or_⟩, ⟨st, si, sr⟩⟩ (w.alloc (.cells #[.string ot, .string oi, .string or_, .string st, .string si, .string sr] 32)))
  unfold tV at HOF ⊢
  dsimp only at HOF ⊢
  unfold Tup.Ok P3.Ok at HOK
  dsimp only at HOK
  go_enter Try.func24, Try.ntmps24
  go_wp2_with fail
  refine HOF.out.mono ?_
  rintro e w2 ⟨rfl, hb2⟩
  have HBW := Lib.hid (HE.out.trans (hb2.mono HE.out.size))
  clear HE HOF hb2 hb1
  obtain ⟨p0, p1, p2, p3, p4, p5⟩ := parts_at ot oi or_ st si sr w2
  go_wp2_with fail
  refine wp_loop_rounds 7 ?_
  rw [rounds_succ]
  go_wp2_with fail
  refine (isName_any ot HOK.out.1.1 _).mono ?_
  rintro e w' ⟨rfl, rfl⟩
  rcases hb0 : isNm ot with _ | _
  · have HB := Lib.hid hb0
    clear hb0
    go_wp2_with fail
    go_ret
    exact ⟨congrArg (fun n => Ending.returned (.int .i64 n)) (show (2 : Int) = chkN ⟨⟨ot, oi, or_⟩, ⟨st, si, sr⟩⟩ from by simp [chkN, chkT, HB.out]), HBW.out⟩
  have HB0 := Lib.hid hb0
  clear hb0
  go_wp2_with fail
  rw [rounds_succ]
  go_wp2_with fail
  refine (isName_any oi HOK.out.1.2.1 _).mono ?_
  rintro e w' ⟨rfl, rfl⟩
  rcases hb1 : isNm oi with _ | _
  · have HB := Lib.hid hb1
    clear hb1
    go_wp2_with fail
    go_ret
    exact ⟨congrArg (fun n => Ending.returned (.int .i64 n)) (show (2 : Int) = chkN ⟨⟨ot, oi, or_⟩, ⟨st, si, sr⟩⟩ from by simp [chkN, chkT, HB.out]), HBW.out⟩
  have HB1 := Lib.hid hb1
  clear hb1
  go_wp2_with fail
  rw [rounds_succ]
  go_wp2_with fail
  refine (isName_any or_ HOK.out.1.2.2 _).mono ?_
  rintro e w' ⟨rfl, rfl⟩
  rcases hb2 : isNm or_ with _ | _
  · have HB := Lib.hid hb2
    clear hb2
    go_wp2_with fail
    go_ret
    exact ⟨congrArg (fun n => Ending.returned (.int .i64 n)) (show (2 : Int) = chkN ⟨⟨ot, oi, or_⟩, ⟨st, si, sr⟩⟩ from by simp [chkN, chkT, HB.out]), HBW.out⟩
  have HB2 := Lib.hid hb2
  clear hb2
  go_wp2_with fail
  rw [rounds_succ]
  go_wp2_with fail
  refine (isName_any st HOK.out.2.1 _).mono ?_
  rintro e w' ⟨rfl, rfl⟩
  rcases hb3 : isNm st with _ | _
  · have HB := Lib.hid hb3
    clear hb3
    go_wp2_with fail
    go_ret
    exact ⟨congrArg (fun n => Ending.returned (.int .i64 n)) (show (2 : Int) = chkN ⟨⟨ot, oi, or_⟩, ⟨st, si, sr⟩⟩ from by simp [chkN, chkT, HB.out]), HBW.out⟩
  have HB3 := Lib.hid hb3
  clear hb3
  go_wp2_with fail
  rw [rounds_succ]
  go_wp2_with fail
  refine (isName_any si HOK.out.2.2.1 _).mono ?_
  rintro e w' ⟨rfl, rfl⟩
  rcases hb4 : isNm si with _ | _
  · have HB := Lib.hid hb4
    clear hb4
    go_wp2_with fail
    go_ret
    exact ⟨congrArg (fun n => Ending.returned (.int .i64 n)) (show (2 : Int) = chkN ⟨⟨ot, oi, or_⟩, ⟨st, si, sr⟩⟩ from by simp [chkN, chkT, HB.out]), HBW.out⟩
  have HB4 := Lib.hid hb4
  clear hb4
  go_wp2_with fail
  rw [rounds_succ]
  go_wp2_with fail
  refine (isName_any sr HOK.out.2.2.2 _).mono ?_
  rintro e w' ⟨rfl, rfl⟩
  rcases hb5 : isNm sr with _ | _
  · have HB5 := Lib.hid hb5
    clear hb5
    by_cases h0 : sr.size = 0
    · obtain rfl := ba_size_eq h0
      clear h0
      go_wp2_with fail
      rw [rounds_succ]
      go_wp2_with fail
      go_ret
      exact ⟨congrArg (fun n => Ending.returned (.int .i64 n)) (show (0 : Int) = chkN ⟨⟨ot, oi, or_⟩, ⟨st, si, ⟨#[]⟩⟩⟩ from by simp [chkN, chkT, HB0.out, HB1.out, HB2.out, HB3.out, HB4.out, show (ByteArray.mk #[]).size = 0 from rfl]), HBW.out⟩
    · have hne := ba_size_ne h0
      have H0 := Lib.hid h0
      clear h0
      go_wp2_with fail
      go_ret
      exact ⟨congrArg (fun n => Ending.returned (.int .i64 n)) (show (2 : Int) = chkN ⟨⟨ot, oi, or_⟩, ⟨st, si, sr⟩⟩ from by simp [chkN, chkT, HB5.out, H0.out]), HBW.out⟩
  · have HB5 := Lib.hid hb5
    clear hb5
    go_wp2_with fail
    rw [rounds_succ]
    go_wp2_with fail
    go_ret
    exact ⟨congrArg (fun n => Ending.returned (.int .i64 n)) (show (0 : Int) = chkN ⟨⟨ot, oi, or_⟩, ⟨st, si, sr⟩⟩ from by simp [chkN, chkT, HB0.out, HB1.out, HB2.out, HB3.out, HB4.out, HB5.out]), HBW.out⟩

set_option maxRecDepth 100000 in
set_option maxHeartbeats 1600000 in
theorem parts_any (t : Tup) (w : World) : Calls Try.prog 23 #[tV t] w fun e w' => e = .returned (.slice (some ⟨w.heap.size + 1, 0, none⟩) 6 6) ∧
    Blk w' (w.heap.size + 1) #[.string t.o.t, .string t.o.i, .string t.o.r, .string t.s.t, .string t.s.i, .string t.s.r] 9 ∧ Below w.heap.size w w' := by
  obtain ⟨⟨ot, oi, or_⟩, ⟨st, si, sr⟩⟩ := t
  have hb := (Blk.made w #[.string ot, .string oi, .string or_, .string st, .string si, .string sr] 32)
  have h1 : Below w.heap.size w (w.alloc (.cells #[.string ot, .string oi, .string or_, .string st, .string si, .string sr] 32)) := (Below.refl _ _).alloc (Nat.le_refl _) _
  unfold tV
  dsimp only
  go_enter Try.func23, Try.ntmps23
  go_wp2_with fail
  go_ret
  refine ⟨rfl, ?_, h1.alloc h1.size _⟩
  have := heap_alloc_new (w.alloc (.cells #[.string ot, .string oi, .string or_, .string st, .string si, .string sr] 32)) (.cells #[.string ot, .string oi, .string or_, .string st, .string si, .string sr] 9)
  rwa [World.size_alloc] at this

set_option maxRecDepth 100000 in
set_option maxHeartbeats 3200000 in
theorem refCheck_any (t : Tup) (ht : t.Ok) (w : World) : Calls Try.prog 11 #[tV t] w fun e w' => e = .returned (.int .i64 (chkN t)) ∧ Below w.heap.size w w' := by
  obtain ⟨⟨ot, oi, or_⟩, ⟨st, si, sr⟩⟩ := t
  have HOK := Lib.hid ht
  clear ht
  have hb1 := (Blk.made w #[.string ot, .string oi, .string or_, .string st, .string si, .string sr] 32).cells
  have HE := Lib.hid (show Below w.heap.size w (w.alloc (.cells #[.string ot, .string oi, .string or_, .string st, .string si, .string sr] 32)) from (Below.refl _ _).alloc (Nat.le_refl _) _)
  have HOF := Lib.hid (parts_any ⟨⟨ot, oi, or_⟩, ⟨st, si, sr⟩⟩ (w.alloc (.cells #[.string ot, .string oi, .string or_, .string st, .string si, .string sr] 32)))
  unfold tV at HOF ⊢
  dsimp only at HOF ⊢
  unfold Tup.Ok P3.Ok at HOK
  dsimp only at HOK
  go_enter Try.func11, Try.ntmps11
  go_wp2_with fail
  refine HOF.out.mono ?_
  rintro e w2 ⟨rfl, hP, hb2⟩
  have HBW := Lib.hid (HE.out.trans (hb2.mono HE.out.size))
  clear HE HOF hb2 hb1
  have cP := hP.cells
  simp only [World.size_alloc] at cP ⊢
  go_wp2_with fail
  refine wp_loop_rounds 7 ?_
  rw [rounds_succ]
  go_wp2_with fail
  refine (refName_any ot HOK.out.1.1 _).mono ?_
  rintro e w' ⟨rfl, rfl⟩
  rcases hb0 : isNm ot with _ | _
  · have HB := Lib.hid hb0
    clear hb0
    go_wp2_with fail
    go_ret
    exact ⟨congrArg (fun n => Ending.returned (.int .i64 n)) (show (2 : Int) = chkN ⟨⟨ot, oi, or_⟩, ⟨st, si, sr⟩⟩ from by simp [chkN, chkT, HB.out]), HBW.out⟩
  have HB0 := Lib.hid hb0
  clear hb0
  go_wp2_with fail
  rw [rounds_succ]
  go_wp2_with fail
  refine (refName_any oi HOK.out.1.2.1 _).mono ?_
  rintro e w' ⟨rfl, rfl⟩
  rcases hb1 : isNm oi with _ | _
  · have HB := Lib.hid hb1
    clear hb1
    go_wp2_with fail
    go_ret
    exact ⟨congrArg (fun n => Ending.returned (.int .i64 n)) (show (2 : Int) = chkN ⟨⟨ot, oi, or_⟩, ⟨st, si, sr⟩⟩ from by simp [chkN, chkT, HB.out]), HBW.out⟩
  have HB1 := Lib.hid hb1
  clear hb1
  go_wp2_with fail
  rw [rounds_succ]
  go_wp2_with fail
  refine (refName_any or_ HOK.out.1.2.2 _).mono ?_
  rintro e w' ⟨rfl, rfl⟩
  rcases hb2 : isNm or_ with _ | _
  · have HB := Lib.hid hb2
    clear hb2
    go_wp2_with fail
    go_ret
    exact ⟨congrArg (fun n => Ending.returned (.int .i64 n)) (show (2 : Int) = chkN ⟨⟨ot, oi, or_⟩, ⟨st, si, sr⟩⟩ from by simp [chkN, chkT, HB.out]), HBW.out⟩
  have HB2 := Lib.hid hb2
  clear hb2
  go_wp2_with fail
  rw [rounds_succ]
  go_wp2_with fail
  refine (refName_any st HOK.out.2.1 _).mono ?_
  rintro e w' ⟨rfl, rfl⟩
  rcases hb3 : isNm st with _ | _
  · have HB := Lib.hid hb3
    clear hb3
    go_wp2_with fail
    go_ret
    exact ⟨congrArg (fun n => Ending.returned (.int .i64 n)) (show (2 : Int) = chkN ⟨⟨ot, oi, or_⟩, ⟨st, si, sr⟩⟩ from by simp [chkN, chkT, HB.out]), HBW.out⟩
  have HB3 := Lib.hid hb3
  clear hb3
  go_wp2_with fail
  rw [rounds_succ]
  go_wp2_with fail
  refine (refName_any si HOK.out.2.2.1 _).mono ?_
  rintro e w' ⟨rfl, rfl⟩
  rcases hb4 : isNm si with _ | _
  · have HB := Lib.hid hb4
    clear hb4
    go_wp2_with fail
    go_ret
    exact ⟨congrArg (fun n => Ending.returned (.int .i64 n)) (show (2 : Int) = chkN ⟨⟨ot, oi, or_⟩, ⟨st, si, sr⟩⟩ from by simp [chkN, chkT, HB.out]), HBW.out⟩
  have HB4 := Lib.hid hb4
  clear hb4
  go_wp2_with fail
  rw [rounds_succ]
  go_wp2_with fail
  refine (refName_any sr HOK.out.2.2.2 _).mono ?_
  rintro e w' ⟨rfl, rfl⟩
  rcases hb5 : isNm sr with _ | _
  · have HB5 := Lib.hid hb5
    clear hb5
    by_cases h0 : sr.size = 0
    · obtain rfl := ba_size_eq h0
      clear h0
      go_wp2_with fail
      rw [rounds_succ]
      go_wp2_with fail
      go_ret
      exact ⟨congrArg (fun n => Ending.returned (.int .i64 n)) (show (0 : Int) = chkN ⟨⟨ot, oi, or_⟩, ⟨st, si, ⟨#[]⟩⟩⟩ from by simp [chkN, chkT, HB0.out, HB1.out, HB2.out, HB3.out, HB4.out, show (ByteArray.mk #[]).size = 0 from rfl]), HBW.out⟩
    · have hne := ba_size_ne h0
      have H0 := Lib.hid h0
      clear h0
      go_wp2_with fail
      go_ret
      exact ⟨congrArg (fun n => Ending.returned (.int .i64 n)) (show (2 : Int) = chkN ⟨⟨ot, oi, or_⟩, ⟨st, si, sr⟩⟩ from by simp [chkN, chkT, HB5.out, H0.out]), HBW.out⟩
  · have HB5 := Lib.hid hb5
    clear hb5
    go_wp2_with fail
    rw [rounds_succ]
    go_wp2_with fail
    go_ret
    exact ⟨congrArg (fun n => Ending.returned (.int .i64 n)) (show (0 : Int) = chkN ⟨⟨ot, oi, or_⟩, ⟨st, si, sr⟩⟩ from by simp [chkN, chkT, HB0.out, HB1.out, HB2.out, HB3.out, HB4.out, HB5.out]), HBW.out⟩

end Go.Proofs.Ytcbgemnmehoeaaa
