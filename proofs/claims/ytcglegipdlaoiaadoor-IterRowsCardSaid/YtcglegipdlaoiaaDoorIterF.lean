/- The walks of sentrylaw19's few, rows and sources, and of sentryref17.All. No condition: lemmas. -/
import Derived.Test.YtcglegipdlaoiaaDoorIterE
namespace Go.Proofs.YtcglegipdlaoiaaDoor
open Go Go.RowKit

/-- How many entries in all. -/
def sumE : List (List Ent) → Nat
  | [] => 0
  | l :: r => l.length + sumE r
theorem sumE_append : ∀ a b : List (List Ent), sumE (a ++ b) = sumE a + sumE b
  | [], b => by simp [sumE]
  | l :: a, b => by simp [sumE, sumE_append a b]; omega
theorem sumE_take (ls : List (List Ent)) {i : Nat} (hi : i < ls.length) : sumE (ls.take (i + 1)) = sumE (ls.take i) + ls[i].length := by
  rw [List.take_succ_eq_append_getElem hi, sumE_append]; simp [sumE]
theorem sumE_le (ls : List (List Ent)) (i : Nat) : sumE (ls.take i) ≤ sumE ls := by
  have := sumE_append (ls.take i) (ls.drop i)
  rw [List.take_append_drop] at this
  omega
def few19B (ls : List (List Ent)) : Bool := decide (sumE ls ≤ 150) && (ls.all fun l => l.all fun x => decide (x.1.size ≤ 100)) && decide (ls.length ≤ 12)

structure Few19 (ls : List (List Ent)) : Prop where
  sum : sumE ls ≤ 150
  key : ∀ l ∈ ls, ∀ x ∈ l, x.1.size ≤ 100
  len : ls.length ≤ 12
theorem few19_of {ls : List (List Ent)} (h : few19B ls = true) : Few19 ls := by
  unfold few19B at h
  simp only [Bool.and_eq_true, decide_eq_true_eq, List.all_eq_true] at h
  exact ⟨h.1.1, h.1.2, h.2⟩
theorem few19_sum {ls : List (List Ent)} {i : Nat} (h : 150 < sumE (ls.take i)) : few19B ls = false := by
  have := sumE_le ls i
  unfold few19B
  rw [decide_eq_false (by omega)]
  rfl
theorem few19_key {ls : List (List Ent)} {i j : Nat} (hi : i < ls.length) (hj : j < ls[i].length) (h : 100 < ls[i][j].1.size) : few19B ls = false := by
  rw [Bool.eq_false_iff]
  intro hf
  have := (few19_of hf).key _ (List.getElem_mem hi) _ (List.getElem_mem hj)
  omega
theorem few19_end {ls : List (List Ent)} (h1 : sumE ls ≤ 150) (h2 : ∀ i (hi : i < ls.length) j (hj : j < ls[i].length), ls[i][j].1.size ≤ 100) : few19B ls = decide (ls.length ≤ 12) := by
  unfold few19B
  rw [decide_eq_true h1, show (ls.all fun l => l.all fun x => decide (x.1.size ≤ 100)) = true from by
    rw [List.all_eq_true]
    intro l hl
    rw [List.all_eq_true]
    intro x hx
    obtain ⟨i, hi, rfl⟩ := List.getElem_of_mem hl
    obtain ⟨j, hj, rfl⟩ := List.getElem_of_mem hx
    simpa using h2 i hi j hj]
  simp

set_option maxRecDepth 100000 in
set_option maxHeartbeats 1600000 in
theorem few19_any (x : Value) (ls : List (List Ent)) (w : World) (hx : RwsE w x ls) (hL : ∀ l ∈ ls, l.length ≤ 4398046511104) :
    Calls Tryd.prog 8 #[x] w (RetV (.bool (few19B ls)) w) := by
  obtain ⟨ao, c, rfl, hac, hcm, hacell⟩ := hx.get
  have HAC := Lib.hid hacell
  have HL := Lib.hid hL
  clear hacell hx hL
  go_enter Tryd.func8, Tryd.ntmps8
  go_wp2
  go_loopw [3, 10] (fun nn ii wr => ∃ i : Nat, i ≤ ls.length ∧ ii = .int .i64 i ∧ nn = .int .i64 (sumE (ls.take i) : Nat) ∧ sumE (ls.take i) ≤ 150 ∧ (∀ m (hm : m < ls.length), m < i → ∀ j (hj : j < ls[m].length), ls[m][j].1.size ≤ 100) ∧ Below w.heap.size w wr) (fun _ ii _ => ls.length - (intOf ii).toNat)
  case atStart => exact ⟨0, by omega, rfl, rfl, by simp [sumE], fun _ _ h => absurd h (by omega), Below.refl _ _⟩
  case round =>
    obtain ⟨i, hi, rfl, rfl, hsum, hall, hbel⟩ := hrel
    have HALL := Lib.hid hall
    clear hall
    by_cases hlt : i < ls.length
    · obtain ⟨b, off, rfl, hbb, hc⟩ := HAC.out (by omega)
      obtain ⟨u, hci, hu⟩ := hc i hlt
      have hci := (hbel.cell (p := ⟨b, off + i, none⟩) hbb).trans hci
      obtain ⟨eo, ecp, rfl, hel, hem, hecell⟩ := Sl.ents hu
      have HEC := Lib.hid hecell
      have HS := Lib.hid (sumE_take ls hlt)
      have HF1 := fun h => Lib.hid (few19_sum (ls := ls) (i := i + 1) h)
      have HF2 := Lib.hid (fun j hj h => few19_key (ls := ls) (i := i) (j := j) hlt hj h)
      have HN := Lib.hid (fun h => upto_succ (p := fun m hm => ∀ j (hj : j < ls[m].length), ls[m][j].1.size ≤ 100) HALL.out hlt h)
      have hesl := HL.out _ (List.getElem_mem hlt)
      clear hc hecell hu
      generalize ls[i] = es at *
      generalize sumE (ls.take i) = s at *
      by_cases hgt : 150 < s + es.length
      · have hgi : (150 : Int) < (s : Int) + (es.length : Int) := by omega
        have HF := HF1 (by rw [HS.out]; exact hgt)
        clear HF1 HF2 HN hgt
        go_wp2_with fail
        go_ret
        exact ⟨congrArg (fun b => Ending.returned (.bool b)) HF.out.symm, hbel⟩
      · have hgi : (s : Int) + (es.length : Int) ≤ 150 := by omega
        clear HF1
        obtain ⟨wo, hwo⟩ : ∃ wo : World, wo = wr := ⟨_, rfl⟩
        subst hwo
        go_wp2_with fail
        go_loopw [22] (fun jj wz => ∃ j : Nat, j ≤ es.length ∧ jj = .int .i64 j ∧ (∀ m (hm : m < es.length), m < j → es[m].1.size ≤ 100) ∧ Below wo.heap.size wo wz) (fun jj _ => es.length - (intOf jj).toNat)
        case atStart => exact ⟨0, by omega, rfl, fun _ _ h => absurd h (by omega), Below.refl _ _⟩
        case round =>
          obtain ⟨j, hj, rfl, hno, hbz⟩ := hrel
          have HNO := Lib.hid hno
          clear hno
          have hbw := hbel.trans (hbz.mono hbel.size)
          by_cases hjl : j < es.length
          · obtain ⟨b2, off2, rfl, hb2', hc2⟩ := HEC.out (by omega)
            obtain ⟨c0, c1, c2⟩ := hc2 j hjl
            have d0 := (hbw.cell (p := ⟨b2, off2 + j * 3, none⟩) hb2').trans c0
            have d1 := (hbw.cell (p := ⟨b2, off2 + j * 3 + 1, none⟩) hb2').trans c1
            have d2 := (hbw.cell (p := ⟨b2, off2 + j * 3 + 2, none⟩) hb2').trans c2
            have HF3 := fun h => Lib.hid (HF2.out j hjl h)
            have HN2 := fun h => Lib.hid (upto_succ (p := fun m hm => es[m].1.size ≤ 100) HNO.out hjl h)
            clear hc2 c0 c1 c2
            generalize es[j] = y at *
            obtain ⟨yk, yr, yd⟩ := y
            dsimp only at *
            have hbz2 := hbz.alloc hbz.size (.cells #[.string yk, .int .u64 yr, .bool yd] 29)
            by_cases hks : 100 < yk.size
            · have hki : (100 : Int) < (yk.size : Int) := by omega
              have HF := HF3 hks
              clear HF3 HN2 hks
              go_wp2_with fail
              go_ret
              exact ⟨congrArg (fun b => Ending.returned (.bool b)) HF.out.symm, hbel.trans (hbz2.mono hbel.size)⟩
            · have hki : (yk.size : Int) ≤ 100 := by omega
              have HH := HN2 (by omega)
              clear HF3 HN2 hks
              go_wp2_with fail
              go_roundw
              case rel => exact ⟨j + 1, by omega, by go_num, HH.out, hbz2⟩
              case measure => simp [intOf]; omega
          · obtain rfl : j = es.length := by omega
            have HH := Lib.hid (HN.out (fun j hj => HNO.out j hj hj))
            clear HN HF2
            go_wp2_with fail
            go_roundw
            case rel => exact ⟨i + 1, by omega, by go_num, by have := HS.out; go_num, by have := HS.out; omega, HH.out, hbw⟩
            case measure => simp [intOf]; omega
    · obtain rfl : i = ls.length := by omega
      have HF := Lib.hid (few19_end (ls := ls) (by rw [List.take_length] at hsum; exact hsum) (fun m hm => HALL.out m hm hm))
      go_wp2_with fail
      go_ret
      exact ⟨congrArg (fun b => Ending.returned (.bool b)) (by rw [HF.out]; simp; omega), hbel⟩

end Go.Proofs.YtcglegipdlaoiaaDoor
