/- Rows of acts; the walk of sentrylaw31's few. No condition: lemmas. -/
import Derived.Test.YtcbgemnmehoeaaaFlatS
import Derived.Test.YtcbgemnmehoeaaaOpenF
namespace Go.Proofs.Ytcbgemnmehoeaaa
open Go Go.RowKit Go.Maps

abbrev Act31 := Bool × Tup
theorem aC_length (a : Act31) : (aC a).length = 7 := rfl
theorem acts_rows {S : Nat → Prop} {w : World} {v : Value} {l : List Act31} (h : Sl S w 7 v (l.flatMap aC)) :
    ∃ ao c, v = .slice ao l.length c ∧ l.length ≤ c ∧ c ≤ 9223372036854775807 ∧ ∀ i (hi : i < l.length), ∃ b off, ao = some ⟨b, off, none⟩ ∧ S b ∧
      w.cell? ⟨b, off + i * 7, none⟩ = some (.bool l[i].1) ∧ w.cell? ⟨b, off + i * 7 + 1, none⟩ = some (.string l[i].2.o.t) ∧ w.cell? ⟨b, off + i * 7 + 2, none⟩ = some (.string l[i].2.o.i) ∧ w.cell? ⟨b, off + i * 7 + 3, none⟩ = some (.string l[i].2.o.r) ∧
      w.cell? ⟨b, off + i * 7 + 4, none⟩ = some (.string l[i].2.s.t) ∧ w.cell? ⟨b, off + i * 7 + 5, none⟩ = some (.string l[i].2.s.i) ∧ w.cell? ⟨b, off + i * 7 + 6, none⟩ = some (.string l[i].2.s.r) := by
  obtain ⟨ao, c, rfl, h1, h2, hc⟩ := Sl.rows aC_length (by decide) h
  refine ⟨ao, c, rfl, h1, h2, fun i hi => ?_⟩
  obtain ⟨b, off, rfl, hb, hc⟩ := hc (by omega)
  exact ⟨b, off, rfl, hb, hc i hi 0 _ rfl, hc i hi 1 _ rfl, hc i hi 2 _ rfl, hc i hi 3 _ rfl, hc i hi 4 _ rfl, hc i hi 5 _ rfl, hc i hi 6 _ rfl⟩

/-- Are a tuple's parts short? -/
def shortT (t : Tup) : Bool := decide (t.o.t.size ≤ 100) && decide (t.o.i.size ≤ 100) && decide (t.o.r.size ≤ 100) && decide (t.s.t.size ≤ 100) && decide (t.s.i.size ≤ 100) && decide (t.s.r.size ≤ 100)
def fewA (l : List Act31) : Bool := l.all (fun a => shortT a.2) && decide (l.length ≤ 40)
theorem fewA_bad {l : List Act31} {i : Nat} (hi : i < l.length) (h : shortT l[i].2 = false) : fewA l = false := by
  unfold fewA
  rw [Bool.and_eq_false_iff]
  left
  rw [List.all_eq_false]
  exact ⟨l[i], List.getElem_mem hi, by simp [h]⟩
theorem fewA_end {l : List Act31} (h : ∀ j (hj : j < l.length), j < l.length → shortT l[j].2 = true) : fewA l = decide ((l.length : Int) ≤ 40) := by
  unfold fewA
  rw [show l.all (fun a => shortT a.2) = true from ?_, Bool.true_and]
  · by_cases h : l.length ≤ 40
    · rw [decide_eq_true h, decide_eq_true (by omega)]
    · rw [decide_eq_false h, decide_eq_false (by omega)]
  · rw [List.all_eq_true]
    intro x hx
    obtain ⟨j, hj, rfl⟩ := List.getElem_of_mem hx
    exact h j hj hj
theorem fewA_len {l : List Act31} (h : fewA l = true) : l.length ≤ 40 := by
  unfold fewA at h
  simp only [Bool.and_eq_true, decide_eq_true_eq] at h
  exact h.2

set_option maxRecDepth 100000 in
set_option maxHeartbeats 4000000 in
theorem few_any (v : Value) (l : List Act31) (w : World) (h : Sl (· < w.heap.size) w 7 v (l.flatMap aC)) : Calls Try.prog 8 #[v] w fun e w' => e = .returned (.bool (fewA l)) ∧ Below w.heap.size w w' := by
  obtain ⟨ao, c, rfl, hlc, hcm, hcell⟩ := acts_rows h
  have HC := Lib.hid hcell
  clear hcell h
  go_enter Try.func8, Try.ntmps8
  go_wp2_with fail
  go_loopw [9] (fun ii wr => ∃ i : Nat, i ≤ l.length ∧ ii = .int .i64 i ∧ (∀ j (hj : j < l.length), j < i → shortT l[j].2 = true) ∧ Below w.heap.size w wr) (fun ii _ => l.length - (intOf ii).toNat)
  case atStart => exact ⟨0, by omega, rfl, fun _ _ h => absurd h (by omega), Below.refl _ _⟩
  case round =>
    obtain ⟨i, hi, rfl, hall, hbel⟩ := hrel
    have HALL := Lib.hid hall
    clear hall
    by_cases hlt : i < l.length
    · obtain ⟨b, off, rfl, hb, c0, c1, c2, c3, c4, c5, c6⟩ := HC.out i hlt
      have d0 := (hbel.cell (p := ⟨b, off + i * 7, none⟩) hb).trans c0
      have d1 := (hbel.cell (p := ⟨b, off + i * 7 + 1, none⟩) hb).trans c1
      have d2 := (hbel.cell (p := ⟨b, off + i * 7 + 2, none⟩) hb).trans c2
      have d3 := (hbel.cell (p := ⟨b, off + i * 7 + 3, none⟩) hb).trans c3
      have d4 := (hbel.cell (p := ⟨b, off + i * 7 + 4, none⟩) hb).trans c4
      have d5 := (hbel.cell (p := ⟨b, off + i * 7 + 5, none⟩) hb).trans c5
      have d6 := (hbel.cell (p := ⟨b, off + i * 7 + 6, none⟩) hb).trans c6
      have HF := Lib.hid (fun h => fewA_bad hlt h)
      have HN := Lib.hid (fun h => upto_succ (p := fun j hj => shortT l[j].2 = true) HALL.out hlt h)
      clear c0 c1 c2 c3 c4 c5 c6 hb
      generalize l[i] = a at *
      obtain ⟨ad, ⟨⟨ot, oi, or_⟩, ⟨st, si, sr⟩⟩⟩ := a
      dsimp only at *
      have hb1 := hbel.alloc hbel.size (.cells #[.bool ad, .string ot, .string oi, .string or_, .string st, .string si, .string sr] 34)
      have hbk := (Blk.made wr #[.bool ad, .string ot, .string oi, .string or_, .string st, .string si, .string sr] 34).cells
      have HP := Lib.hid (parts_any ⟨⟨ot, oi, or_⟩, ⟨st, si, sr⟩⟩ (wr.alloc (.cells #[.bool ad, .string ot, .string oi, .string or_, .string st, .string si, .string sr] 34)))
      unfold tV at HP
      dsimp only at HP
      have HB1 := Lib.hid hb1
      clear hb1
      go_wp2_with fail
      refine HP.out.mono ?_
      rintro e w2 ⟨rfl, hP2, hb2⟩
      have cP := hP2.cells
      simp only [World.size_alloc] at cP ⊢
      have HBB := Lib.hid (HB1.out.trans (hb2.mono HB1.out.size))
      clear HP hP2 hb2 HB1 hbk d0 d1 d2 d3 d4 d5 d6
      go_wp2_with fail
      refine wp_loop_rounds 7 ?_
      rw [rounds_succ]
      by_cases hs0 : ot.size ≤ 100
      rotate_left
      · have hg : (100 : Int) < (ot.size : Int) := by omega
        have HS := Lib.hid hs0
        clear hs0
        go_wp2_with fail
        go_ret
        exact ⟨congrArg (fun b => Ending.returned (.bool b)) (HF.out (by simp [shortT, HS.out])).symm, HBB.out⟩
      have hg0 : (ot.size : Int) ≤ 100 := by omega
      have HS0 := Lib.hid hs0
      clear hs0
      go_wp2_with fail
      rw [rounds_succ]
      by_cases hs1 : oi.size ≤ 100
      rotate_left
      · have hg : (100 : Int) < (oi.size : Int) := by omega
        have HS := Lib.hid hs1
        clear hs1
        go_wp2_with fail
        go_ret
        exact ⟨congrArg (fun b => Ending.returned (.bool b)) (HF.out (by simp [shortT, HS.out])).symm, HBB.out⟩
      have hg1 : (oi.size : Int) ≤ 100 := by omega
      have HS1 := Lib.hid hs1
      clear hs1
      go_wp2_with fail
      rw [rounds_succ]
      by_cases hs2 : or_.size ≤ 100
      rotate_left
      · have hg : (100 : Int) < (or_.size : Int) := by omega
        have HS := Lib.hid hs2
        clear hs2
        go_wp2_with fail
        go_ret
        exact ⟨congrArg (fun b => Ending.returned (.bool b)) (HF.out (by simp [shortT, HS.out])).symm, HBB.out⟩
      have hg2 : (or_.size : Int) ≤ 100 := by omega
      have HS2 := Lib.hid hs2
      clear hs2
      go_wp2_with fail
      rw [rounds_succ]
      by_cases hs3 : st.size ≤ 100
      rotate_left
      · have hg : (100 : Int) < (st.size : Int) := by omega
        have HS := Lib.hid hs3
        clear hs3
        go_wp2_with fail
        go_ret
        exact ⟨congrArg (fun b => Ending.returned (.bool b)) (HF.out (by simp [shortT, HS.out])).symm, HBB.out⟩
      have hg3 : (st.size : Int) ≤ 100 := by omega
      have HS3 := Lib.hid hs3
      clear hs3
      go_wp2_with fail
      rw [rounds_succ]
      by_cases hs4 : si.size ≤ 100
      rotate_left
      · have hg : (100 : Int) < (si.size : Int) := by omega
        have HS := Lib.hid hs4
        clear hs4
        go_wp2_with fail
        go_ret
        exact ⟨congrArg (fun b => Ending.returned (.bool b)) (HF.out (by simp [shortT, HS.out])).symm, HBB.out⟩
      have hg4 : (si.size : Int) ≤ 100 := by omega
      have HS4 := Lib.hid hs4
      clear hs4
      go_wp2_with fail
      rw [rounds_succ]
      by_cases hs5 : sr.size ≤ 100
      rotate_left
      · have hg : (100 : Int) < (sr.size : Int) := by omega
        have HS := Lib.hid hs5
        clear hs5
        go_wp2_with fail
        go_ret
        exact ⟨congrArg (fun b => Ending.returned (.bool b)) (HF.out (by simp [shortT, HS.out])).symm, HBB.out⟩
      have hg5 : (sr.size : Int) ≤ 100 := by omega
      have HS5 := Lib.hid hs5
      clear hs5
      go_wp2_with fail
      rw [rounds_succ]
      have HH := Lib.hid (HN.out (by simp [shortT, HS0.out, HS1.out, HS2.out, HS3.out, HS4.out, HS5.out]))
      clear HN HF
      go_wp2_with fail
      go_roundw
      case rel => exact ⟨i + 1, by omega, by go_num, HH.out, HBB.out⟩
      case measure => simp [intOf]; omega
    · obtain rfl : i = l.length := by omega
      have HE := Lib.hid (fewA_end HALL.out)
      go_wp2_with fail
      go_ret
      exact ⟨congrArg (fun b => Ending.returned (.bool b)) HE.out.symm, hbel⟩

end Go.Proofs.Ytcbgemnmehoeaaa
