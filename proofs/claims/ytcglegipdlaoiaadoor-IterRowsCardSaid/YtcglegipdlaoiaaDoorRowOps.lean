/- The walks of sentryref11.Same and sentryref17.Rises. No condition: lemmas. -/
import Derived.Test.YtcglegipdlaoiaaDoorDropA
import Derived.BigQuiet
namespace Go.Proofs.YtcglegipdlaoiaaDoor
open Go Go.RowKit

theorem ba_beq {a b : ByteArray} (h : a ≠ b) : (a.data.toList == b.data.toList) = false := by
  rw [beq_eq_false_iff_ne]
  exact fun e => h (ByteArray.ext (by rw [← Array.toList_inj]; exact e))

theorem below_drewN {B : Nat} {w w' : World} (h : Below B w w') (n : Nat) : Below B w (w'.drewN n) := ⟨h.os, h.tape, h.output, h.size, h.block⟩
theorem same_drewN {S : Nat → Prop} {w w' : World} (h : Same S w w') (n : Nat) : Same S w (w'.drewN n) := h

set_option maxRecDepth 100000 in
set_option maxHeartbeats 800000 in
theorem same_any (x y : Value) (a b : List ByteArray) (w : World) (S T : Nat → Prop) (hx : Sl S w 1 x (sc a)) (hy : Sl T w 1 y (sc b)) :
    Calls Tryd.prog 14 #[x, y] w (RetV (.bool (decide (a = b))) w) := by
  obtain ⟨ao, c, rfl, hac, hcm, hacell⟩ := hx.strs
  obtain ⟨bo, d, rfl, hbd, hdm, hbcell⟩ := hy.strs
  have HAC := Lib.hid hacell
  have HBC := Lib.hid hbcell
  clear hacell hbcell hx hy
  by_cases hn : a.length = b.length
  · have hni : ((a.length : Int) != (b.length : Int)) = false := by rw [hn]; simp
    have hni2 : (a.length : Int) = (b.length : Int) := by omega
    go_enter Tryd.func14, Tryd.ntmps14
    go_wp2
    go_loopw [13] (fun ii wr => ∃ i : Nat, i ≤ a.length ∧ ii = .int .i64 i ∧ (∀ j (h1 : j < a.length) (h2 : j < b.length), j < i → a[j] = b[j]) ∧ Below w.heap.size w wr ∧ Same (fun _ => True) w wr) (fun ii _ => a.length - (intOf ii).toNat)
    case atStart => exact ⟨0, by omega, rfl, fun _ _ _ h => absurd h (by omega), Below.refl _ _, Same.refl _ _⟩
    case round =>
      obtain ⟨i, hi, rfl, hall, hbel, hsm⟩ := hrel
      have HALL := Lib.hid hall
      have HSM := Lib.hid hsm
      clear hall hsm
      by_cases hlt : i < a.length
      · have hltb : i < b.length := by omega
        obtain ⟨ab, aoff, rfl, -, hca⟩ := HAC.out (by omega)
        obtain ⟨bb, boff, rfl, -, hcb⟩ := HBC.out (by omega)
        have hc1 := (HSM.out.cell (p := ⟨ab, aoff + i, none⟩) trivial).trans (hca i hlt)
        have hc2 := (HSM.out.cell (p := ⟨bb, boff + i, none⟩) trivial).trans (hcb i hltb)
        have e1 := ByteArray.toList_eq a[i]
        have e2 := ByteArray.toList_eq b[i]
        have HN := Lib.hid hn
        clear hca hcb hn
        by_cases he : a[i] = b[i]
        · have hbq : (a[i].data.toList == b[i].data.toList) = true := by rw [he]; simp
          have HE := Lib.hid he
          clear he
          go_wp2_with fail
          go_quiet (fail)
          go_wp2
          go_roundw
          case rel => exact ⟨i + 1, by omega, by go_num, fun j h1 h2 h => (Nat.lt_succ_iff_lt_or_eq.1 h).elim (fun e => HALL.out j h1 h2 e) (fun e => by subst e; exact HE.out), below_drewN hbel _, same_drewN HSM.out _⟩
          case measure => simp [intOf]; omega
        · have hbq := ba_beq he
          have HE := Lib.hid he
          clear he
          go_wp2_with fail
          go_quiet (fail)
          go_wp2
          go_ret
          exact ⟨congrArg (fun b => Ending.returned (.bool b)) (by simp; intro e; subst e; exact HE.out rfl), below_drewN hbel _⟩
      · obtain rfl : i = a.length := by omega
        go_wp2
        go_ret
        refine ⟨congrArg (fun b => Ending.returned (.bool b)) ?_, hbel⟩
        rw [eq_comm, decide_eq_true_eq]
        exact List.ext_getElem hn fun j h1 h2 => HALL.out j h1 h2 h1
  · have hni : ((a.length : Int) != (b.length : Int)) = true := by rw [bne_iff_ne]; omega
    go_enter Tryd.func14, Tryd.ntmps14
    go_wp2
    go_ret
    exact ⟨congrArg (fun b => Ending.returned (.bool b)) (by simp; intro e; exact hn (by rw [e])), Below.refl _ _⟩

theorem rises_mk {l : List ByteArray} (h : ∀ j (h : j + 1 < l.length), j + 1 < l.length → ltS l[j] l[j + 1] = true) : Rises l := fun j hj => h j hj hj

open Classical in
/-- Does a row rise, as a Bool. -/
noncomputable def risesB (l : List ByteArray) : Bool := decide (Rises l)
theorem risesB_true {l : List ByteArray} (h : Rises l) : risesB l = true := by unfold risesB; simp [h]
theorem risesB_false {l : List ByteArray} {j : Nat} (hj : j + 1 < l.length) (h : ltS l[j] l[j + 1] = false) : risesB l = false := by
  unfold risesB
  simp only [decide_eq_false_iff_not]
  intro hr
  have := hr j hj
  rw [h] at this
  cases this

set_option maxRecDepth 100000 in
set_option maxHeartbeats 800000 in
theorem rises_any (x : Value) (l : List ByteArray) (w : World) (S : Nat → Prop) (hx : Sl S w 1 x (sc l)) :
    Calls Tryd.prog 35 #[x] w (RetV (.bool (risesB l)) w) := by
  obtain ⟨ao, c, rfl, hac, hcm, hacell⟩ := hx.strs
  have HAC := Lib.hid hacell
  clear hacell hx
  go_enter Tryd.func35, Tryd.ntmps35
  go_wp2
  go_loopw [3] (fun ii wr => ∃ i : Nat, 1 ≤ i ∧ (i ≤ l.length ∨ i = 1) ∧ ii = .int .i64 i ∧ (∀ j (h1 : j + 1 < l.length), j + 1 < i → ltS l[j] l[j + 1] = true) ∧ Below w.heap.size w wr ∧ Same (fun _ => True) w wr) (fun ii _ => l.length + 1 - (intOf ii).toNat)
  case atStart => exact ⟨1, by omega, .inr rfl, rfl, fun _ _ h => absurd h (by omega), Below.refl _ _, Same.refl _ _⟩
  case round =>
    obtain ⟨i, hi1, hi, rfl, hall, hbel, hsm⟩ := hrel
    have HALL := Lib.hid hall
    have HSM := Lib.hid hsm
    clear hall hsm
    by_cases hlt : i < l.length
    · obtain ⟨n, rfl⟩ : ∃ n, i = n + 1 := ⟨i - 1, by omega⟩
      obtain ⟨ab, aoff, rfl, -, hca⟩ := HAC.out (by omega)
      have hc1 := (HSM.out.cell (p := ⟨ab, aoff + n, none⟩) trivial).trans (hca n (by omega))
      have hc2 := (HSM.out.cell (p := ⟨ab, aoff + (n + 1), none⟩) trivial).trans (hca (n + 1) hlt)
      clear hca hi
      by_cases hg : ltS l[n] l[n + 1] = true
      · have hg2 := hg
        unfold ltS at hg2
        go_wp2_with fail
        go_quiet (fail)
        go_wp2
        go_roundw
        case rel => exact ⟨n + 2, by omega, .inl (by omega), by go_num, fun j h1 h => (Nat.lt_succ_iff_lt_or_eq.1 (Nat.lt_of_succ_lt_succ h)).elim (fun e => HALL.out j h1 (Nat.succ_lt_succ e)) (fun e => by subst e; exact hg), below_drewN hbel _, same_drewN HSM.out _⟩
        case measure => simp [intOf]; omega
      · have hg1 : ltS l[n] l[n + 1] = false := by simpa using hg
        have hg2 := hg1
        unfold ltS at hg2
        have HR := Lib.hid (risesB_false hlt hg1)
        go_wp2_with fail
        go_quiet (fail)
        go_wp2
        go_ret
        rw [HR.out]
        exact ⟨rfl, below_drewN hbel _⟩
    · have HR := Lib.hid (risesB_true (l := l) (fun j hj => HALL.out j hj (by omega)))
      have hlt2 : (l.length : Int) ≤ i := by omega
      clear hi
      go_wp2
      go_ret
      rw [HR.out]
      exact ⟨rfl, hbel⟩

end Go.Proofs.YtcglegipdlaoiaaDoor
