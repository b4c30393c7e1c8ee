/- Texts in order; the walks of cmp.Compare at texts and of cmp.Or at numbers. No condition: lemmas. -/
import Derived.Test.YtcbgemnmehoeaaaRowk
import Derived.Sort.Walk0
namespace Go.Proofs.Ytcbgemnmehoeaaa
open Go Go.RowKit

/-- Is a text less than another? -/
def ltS (a b : ByteArray) : Bool := Op.bytesLess a.toList b.toList
theorem ltS_iff (a b : ByteArray) : ltS a b = decide (a.data.toList < b.data.toList) := by
  unfold ltS
  rw [ByteArray.toList_eq, ByteArray.toList_eq]
  exact bytesLess_eq _ _
theorem ltS_irr (a : ByteArray) : ltS a a = false := by
  rw [ltS_iff]; simp [List.lt_irrefl]
theorem ltS_trans {a b c : ByteArray} (h : ltS a b = true) (k : ltS b c = true) : ltS a c = true := by
  rw [ltS_iff] at *
  simp only [decide_eq_true_eq] at *
  exact List.lt_trans h k
theorem ltS_total {a b : ByteArray} (h : ltS a b = false) (hne : a ≠ b) : ltS b a = true := by
  rw [ltS_iff] at *
  simp only [decide_eq_true_eq, decide_eq_false_iff_not] at *
  have h1 : b.data.toList ≤ a.data.toList := List.not_lt.1 h
  rcases List.le_iff_lt_or_eq.1 h1 with h2 | h2
  · exact h2
  · exact absurd (ByteArray.ext (by rw [← Array.toList_inj]; exact h2.symm)) hne
theorem ba_beq {a b : ByteArray} (h : a ≠ b) : (a.data.toList == b.data.toList) = false := by
  rw [beq_eq_false_iff_ne]
  exact fun e => h (ByteArray.ext (by rw [← Array.toList_inj]; exact e))

def cmpS (a b : ByteArray) : Int := if ltS a b then -1 else if a = b then 0 else 1
theorem cmpS_zero (a b : ByteArray) : cmpS a b = 0 ↔ a = b := by
  unfold cmpS
  by_cases h : a = b
  · subst h; simp [ltS_irr]
  · cases ltS a b <;> simp [h]
theorem cmpS_neg (a b : ByteArray) : cmpS a b < 0 ↔ ltS a b = true := by
  unfold cmpS
  cases h : ltS a b with
  | true => simp
  | false => by_cases e : a = b <;> simp [e]

set_option maxHeartbeats 400000 in
theorem cmpS_any (a b : ByteArray) (w : World) : Calls Try.prog 41 #[.string a, .string b] w fun e w' => e = .returned (.int .i64 (cmpS a b)) ∧ w = w' := by
  by_cases hl : ltS a b = true
  · have HC := Lib.hid (show cmpS a b = -1 from by simp [cmpS, hl])
    unfold ltS at hl
    go_enter Try.func41, Try.ntmps41
    go_wp2
    go_ret
    exact ⟨by rw [HC.out]; rfl, rfl⟩
  · have hl : ltS a b = false := by simpa using hl
    by_cases he : a = b
    · subst he
      have HC := Lib.hid (show cmpS a a = 0 from by simp [cmpS, hl])
      have h1 : Op.bytesLess a.toList a.toList = false := hl
      clear hl
      go_enter Try.func41, Try.ntmps41
      go_wp2
      go_ret
      exact ⟨by rw [HC.out]; rfl, rfl⟩
    · have HC := Lib.hid (show cmpS a b = 1 from by simp [cmpS, hl, he])
      have h1 : Op.bytesLess a.toList b.toList = false := hl
      have h2 := ba_beq he
      rw [← ByteArray.toList_eq, ← ByteArray.toList_eq] at h2
      clear hl he
      go_enter Try.func41, Try.ntmps41
      go_wp2
      go_ret
      exact ⟨by rw [HC.out]; rfl, rfl⟩

/-- The first that is not 0. -/
def orL : List Int → Int
  | [] => 0
  | a :: l => if a = 0 then orL l else a
theorem orL_drop {l : List Int} : ∀ {i : Nat}, (∀ j (hj : j < l.length), j < i → l[j] = 0) → orL l = orL (l.drop i) := by
  induction l with
  | nil => intro i _; simp [orL]
  | cons a l ih =>
    intro i h
    cases i with
    | zero => rfl
    | succ i =>
      have h0 := h 0 (by simp) (by omega)
      simp only [List.getElem_cons_zero] at h0
      rw [orL, if_pos h0, List.drop_succ_cons]
      refine ih fun j hj hji => ?_
      have h1 := h (j + 1) (by simpa using hj) (by omega)
      rwa [List.getElem_cons_succ] at h1

/-- Numbers as cells. -/
def icL (l : List Int) : List Value := l.map fun n => .int .i64 n

set_option maxRecDepth 100000 in
set_option maxHeartbeats 800000 in
theorem orL_any (v : Value) (l : List Int) (w : World) (S : Nat → Prop) (h : Sl S w 1 v (icL l)) :
    Calls Try.prog 40 #[v] w fun e w' => e = .returned (.int .i64 (orL l)) ∧ w = w' := by
  obtain ⟨ao, n, c, rfl, h1, hnc, hcm, _, hc⟩ := h
  have hn : l.length = n := by simpa [icL] using h1
  subst hn
  have hcm' : c ≤ 9223372036854775807 := by unfold maxLen at hcm; omega
  have HC := Lib.hid hc
  clear hc h1 hcm
  go_enter Try.func40, Try.ntmps40
  go_wp2
  go_loop [8] (fun ii => ∃ i : Nat, i ≤ l.length ∧ ii = .int .i64 i ∧ ∀ j (hj : j < l.length), j < i → l[j] = 0) (fun ii => l.length - (intOf ii).toNat)
  case atStart => exact ⟨0, by omega, rfl, fun _ _ h => absurd h (by omega)⟩
  case round =>
    obtain ⟨i, hi, rfl, hall⟩ := hrel
    have HALL := Lib.hid hall
    clear hall
    by_cases hlt : i < l.length
    · obtain ⟨b, off, rfl, -, hcc⟩ := HC.out (by intro e; have := congrArg List.length e; simp [icL] at this; subst this; simp at hlt)
      have hci := hcc i (.int .i64 l[i]) (by simp [icL, hlt])
      have HD := Lib.hid (show orL l = orL (l[i] :: l.drop (i + 1)) from by rw [orL_drop HALL.out, List.drop_eq_getElem_cons hlt])
      have HN := Lib.hid (fun h => upto_succ (p := fun j hj => l[j] = 0) HALL.out hlt h)
      clear hcc
      generalize l[i] = a at *
      by_cases ha : a = 0
      · subst ha
        have HN2 := Lib.hid (HN.out rfl)
        clear HN
        go_wp2
        go_round
        case rel => exact ⟨i + 1, by omega, by go_num, HN2.out⟩
        case measure => simp [intOf]; omega
      · have HV := Lib.hid (show orL l = a from by rw [HD.out, orL, if_neg ha])
        have ha2 : (a != 0) = true := by simpa using ha
        clear ha
        go_wp2
        go_ret
        exact ⟨by rw [HV.out]; rfl, rfl⟩
    · obtain rfl : i = l.length := by omega
      have HV := Lib.hid (show orL l = 0 from by rw [orL_drop HALL.out, List.drop_length]; rfl)
      go_wp2
      go_ret
      exact ⟨by rw [HV.out]; rfl, rfl⟩

end Go.Proofs.Ytcbgemnmehoeaaa
