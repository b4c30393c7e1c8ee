/- The walks of slices.BinarySearch at rows of texts, of (iter.Rows).Seek and of sentryref11.Seek. No condition: lemmas. -/
import Derived.Test.YtcglegipdlaoiaaDoorIterA
namespace Go.Proofs.YtcglegipdlaoiaaDoor
open Go Go.RowKit

def Found (l : List ByteArray) (k : ByteArray) (w : World) (e : Ending) (w' : World) : Prop := ∃ (i : Nat) (b : Bool), e = .returned (.tuple #[.int .i64 i, .bool b]) ∧ Splits l k i ∧ w = w'

set_option maxRecDepth 100000 in
set_option maxHeartbeats 1600000 in
theorem bsearch_any (x : Value) (l : List ByteArray) (k : ByteArray) (w : World) (S : Nat → Prop) (hx : Sl S w 1 x (sc l)) (hl : l.length ≤ 1000000) (hU : Up l) :
    Calls Tryd.prog 27 #[x, .string k] w (Found l k w) := by
  obtain ⟨ao, c, rfl, hac, hcm, hacell⟩ := hx.strs
  have HAC := Lib.hid hacell
  have HU := Lib.hid hU
  clear hacell hx hU
  go_enter Tryd.func27, Tryd.ntmps27
  go_wp2
  go_loop [7, 8] (fun ii jj => ∃ i j : Nat, i ≤ j ∧ j ≤ l.length ∧ ii = .int .i64 i ∧ jj = .int .i64 j ∧ (∀ m (hm : m < l.length), m < i → ltS l[m] k = true) ∧ (∀ m (hm : m < l.length), j ≤ m → ltS l[m] k = false)) (fun ii jj => (intOf jj).toNat - (intOf ii).toNat)
  case atStart => exact ⟨0, l.length, by omega, by omega, rfl, rfl, fun _ _ h => absurd h (by omega), fun _ _ h => absurd h (by omega)⟩
  case round =>
    obtain ⟨i, j, hij, hj, rfl, rfl, hlo, hhi⟩ := hrel
    have HLO := Lib.hid hlo
    have HHI := Lib.hid hhi
    clear hlo hhi
    by_cases hlt : i < j
    · obtain ⟨b, off, rfl, -, hc⟩ := HAC.out (by omega)
      have hci := hc ((i + j) / 2) (by omega)
      have hm : (i + j) / 2 < l.length := by omega
      clear hc
      cases hb : ltS l[(i + j) / 2] k with
      | true =>
        have HB := Lib.hid hb
        have HC := Lib.hid (lessStr_any l[(i + j) / 2] k w)
        clear hb
        go_wp2_with fail
        refine HC.out.mono ?_
        rintro e w1 ⟨rfl, rfl⟩
        rw [HB.out]
        go_wp2_with fail
        go_round
        case rel => exact ⟨(i + j) / 2 + 1, j, by omega, by omega, by rw [show ((i : Int) + (j : Int)) / 2 + 1 = (((i + j) / 2 + 1 : Nat) : Int) by omega], rfl, fun m hm' h => up_below HU.out hm hm' (by omega) HB.out, HHI.out⟩
        case measure => simp [intOf]; omega
      | false =>
        have HB := Lib.hid hb
        have HC := Lib.hid (lessStr_any l[(i + j) / 2] k w)
        clear hb
        go_wp2_with fail
        refine HC.out.mono ?_
        rintro e w1 ⟨rfl, rfl⟩
        rw [HB.out]
        go_wp2_with fail
        go_round
        case rel => exact ⟨i, (i + j) / 2, by omega, by omega, rfl, by rw [show ((i : Int) + (j : Int)) / 2 = (((i + j) / 2 : Nat) : Int) by omega], HLO.out, fun m hm' h => up_above HU.out hm hm' h HB.out⟩
        case measure => simp [intOf]; omega
    · obtain rfl : i = j := by omega
      have HSP := Lib.hid (show Splits l k i from ⟨hj, HLO.out, HHI.out⟩)
      by_cases hin : i < l.length
      · obtain ⟨b, off, rfl, -, hc⟩ := HAC.out (by omega)
        have hci := hc i hin
        have e1 := ByteArray.toList_eq l[i]
        have e2 := ByteArray.toList_eq k
        clear hc
        by_cases he : l[i] = k
        · have hbq : (l[i].data.toList == k.data.toList) = true := by rw [he]; simp
          clear he
          go_wp2
          go_ret2
          exact ⟨_, _, rfl, HSP.out, rfl⟩
        · have hbq := ba_beq he
          clear he
          go_wp2
          go_ret2
          exact ⟨_, _, rfl, HSP.out, rfl⟩
      · obtain rfl : i = l.length := by omega
        go_wp2
        go_ret2
        exact ⟨_, _, rfl, HSP.out, rfl⟩

/-- The first key that isn't less, as Seek answers. -/
def seekV (o : Option ByteArray) : Value := .tuple #[.string (o.getD ByteArray.empty), .bool o.isSome, .int .i64 0]
def Stays (v : Value) (w : World) (e : Ending) (w' : World) : Prop := e = .returned v ∧ w = w'

set_option maxRecDepth 100000 in
set_option maxHeartbeats 800000 in
theorem seek_any (x : Value) (l : List ByteArray) (k : ByteArray) (w : World) (hx : RowT w x l) (hl : l.length ≤ 1000000) (hU : Up l) :
    Calls Tryd.prog 17 #[x, .string k] w (Stays (seekV (seekL l k)) w) := by
  have HB := Lib.hid (bsearch_any x l k w _ hx hl hU)
  obtain ⟨ao, c, rfl, hac, hcm, hacell⟩ := hx.strs
  have HAC := Lib.hid hacell
  clear hacell hx hU
  go_enter Tryd.func17, Tryd.ntmps17
  go_wp2_with fail
  refine HB.out.mono ?_
  rintro e w1 ⟨i, b, rfl, hs, rfl⟩
  have hil := hs.1
  have HS := Lib.hid (splits_seek hs)
  clear hs HB
  by_cases hin : i < l.length
  · obtain ⟨b, off, rfl, -, hc⟩ := HAC.out (by omega)
    have hci := hc i hin
    have HSE := Lib.hid (show seekL l k = some l[i] from by rw [HS.out, List.getElem?_eq_getElem hin])
    have hne : ((i : Int) == (l.length : Int)) = false := by simp; omega
    clear hc HS
    go_wp2
    go_ret3
    exact ⟨by rw [HSE.out]; rfl, rfl⟩
  · obtain rfl : i = l.length := by omega
    have HSE := Lib.hid (show seekL l k = none from by rw [HS.out, List.getElem?_eq_none (Nat.le_refl _)])
    clear HS
    go_wp2
    go_ret3
    exact ⟨by rw [HSE.out]; rfl, rfl⟩

set_option maxRecDepth 100000 in
set_option maxHeartbeats 800000 in
theorem seek11_any (x : Value) (l : List ByteArray) (k : ByteArray) (w : World) (S : Nat → Prop) (hx : Sl S w 1 x (sc l)) :
    Calls Tryd.prog 18 #[x, .string k, .bool false] w (Stays (.tuple #[.string ((seekL l k).getD ByteArray.empty), .bool (seekL l k).isSome]) w) := by
  obtain ⟨ao, c, rfl, hac, hcm, hacell⟩ := hx.strs
  have HAC := Lib.hid hacell
  clear hacell hx
  go_enter Tryd.func18, Tryd.ntmps18
  go_wp2
  go_loop [12] (fun ii => ∃ i : Nat, i ≤ l.length ∧ ii = .int .i64 i ∧ seekL l k = seekL (l.drop i) k) (fun ii => l.length - (intOf ii).toNat)
  case atStart => exact ⟨0, by omega, rfl, rfl⟩
  case round =>
    obtain ⟨i, hi, rfl, hs⟩ := hrel
    by_cases hlt : i < l.length
    · obtain ⟨b, off, rfl, -, hc⟩ := HAC.out (by omega)
      have hci := hc i hlt
      have e1 := ByteArray.toList_eq l[i]
      have e2 := ByteArray.toList_eq k
      have hd : l.drop i = l[i] :: l.drop (i + 1) := List.drop_eq_getElem_cons hlt
      rw [hd] at hs
      clear hc hd
      cases hb : ltS l[i] k with
      | true =>
        have HS := Lib.hid (show seekL l k = seekL (l.drop (i + 1)) k from by rw [hs]; unfold seekL; rw [List.find?_cons, hb]; rfl)
        have hg1 : ltS k l[i] = false := by
          cases h : ltS k l[i] with
          | false => rfl
          | true => have := ltS_trans h hb; rw [ltS_irr] at this; cases this
        have hne : l[i] ≠ k := fun e => by rw [e, ltS_irr] at hb; cases hb
        have hbq := ba_beq hne
        unfold ltS at hg1 hb
        rw [e1, e2] at hg1 hb
        clear hs hne
        go_wp2
        go_round
        case rel => exact ⟨i + 1, by omega, by go_num, HS.out⟩
        case measure => simp [intOf]; omega
      | false =>
        have HS := Lib.hid (show seekL l k = some l[i] from by rw [hs]; unfold seekL; rw [List.find?_cons, hb]; rfl)
        by_cases he : l[i] = k
        · have hbq : (l[i].data.toList == k.data.toList) = true := by rw [he]; simp
          have hg1 : ltS k l[i] = false := by rw [he, ltS_irr]
          unfold ltS at hg1 hb
          rw [e1, e2] at hg1 hb
          clear he hs
          go_wp2
          go_ret2
          exact ⟨by rw [HS.out]; rfl, rfl⟩
        · have hg1 := ltS_total hb he
          have hbq := ba_beq he
          unfold ltS at hg1 hb
          rw [e1, e2] at hg1 hb
          clear he hs
          go_wp2
          go_ret2
          exact ⟨by rw [HS.out]; rfl, rfl⟩
    · obtain rfl : i = l.length := by omega
      have HS := Lib.hid (show seekL l k = none from by rw [hs, List.drop_length]; rfl)
      clear hs
      go_wp2
      go_ret2
      exact ⟨by rw [HS.out]; rfl, rfl⟩

end Go.Proofs.YtcglegipdlaoiaaDoor
