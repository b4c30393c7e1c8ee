/- The walk of sentrylaw19's IterRows. No condition: lemmas. -/
import Derived.Test.YtcglegipdlaoiaaDoorIterL
namespace Go.Proofs.YtcglegipdlaoiaaDoor
open Go Go.RowKit

/-- Texts in order, each once. -/
def sortL (l : List ByteArray) : List ByteArray := l.foldl (fun o k => (putS o k).1) []
theorem sortL_up (l : List ByteArray) : Up (sortL l) := putAll_up l [] List.Pairwise.nil
theorem sortL_mem (l : List ByteArray) (x : ByteArray) : x ∈ sortL l ↔ x ∈ l := by unfold sortL; rw [putAll_mem]; simp
theorem sortL_len (l : List ByteArray) : (sortL l).length ≤ l.length := by
  have := putAll_length l []
  unfold sortL
  simpa using this
theorem sortL_snoc (l : List ByteArray) {i : Nat} (hi : i < l.length) : sortL (l.take (i + 1)) = (putS (sortL (l.take i)) l[i]).1 := putAll_snoc l [] hi

theorem all_one_mem (r : List ByteArray) (x : ByteArray) : x ∈ allL [r] ↔ x ∈ r := by rw [all_mem]; simp
theorem code_fine {r : List ByteArray} (h : codeOf r = 0) : ∀ k ∈ allL [r], deco k ≠ none := by
  intro k hk hd
  have hk := (all_one_mem r k).1 hk
  unfold codeOf at h
  rw [if_pos ⟨k, hk, hd⟩] at h
  cases h

theorem srcs_one (w : World) (v : Value) (r : List ByteArray) (h : RowT w v r) :
    Srcs (w.alloc (.cells #[.iface 48 v] 66)) (.slice (some ⟨w.heap.size, 0, none⟩) 1 1) [r] := by
  refine ⟨[.iface 48 v], Sl.made w _ 1 1 66 #[.iface 48 v] rfl (by decide) (by simp), rfl, fun i hi hi' => ?_⟩
  obtain rfl : i = 0 := by simp at hi; omega
  exact .inr ⟨v, rfl, h.up ((Below.refl _ _).alloc (Nat.le_refl _) _)⟩
theorem rwsT_one (w : World) (v : Value) (r : List ByteArray) (h : RowT w v r) :
    RwsT (w.alloc (.cells #[v] 38)) (.slice (some ⟨w.heap.size, 0, none⟩) 1 1) [r] := by
  refine ⟨[v], Sl.made w _ 1 1 38 #[v] rfl (by decide) (by simp), rfl, fun i hi hi' => ?_⟩
  obtain rfl : i = 0 := by simp at hi; omega
  exact h.up ((Below.refl _ _).alloc (Nat.le_refl _) _)

set_option maxRecDepth 100000 in
set_option maxHeartbeats 3200000 in
theorem iterRows_law (x : Value) (l : List ByteArray) (key : ByteArray) (rev : Nat) (w : World) (henv : Env w) (hx : Sl (· < w.heap.size) w 1 x (sc l)) (hr : U64 rev) :
    Calls Tryd.prog 6 #[x, .string key, .int .u64 rev] w (RetV (.bool true) w) := by
  have HEN := Lib.hid henv
  have HFX := Lib.hid (fixed19 w henv)
  obtain ⟨ao, c, rfl, hac, hcm, hacell⟩ := Sl.strs hx
  have HAC := Lib.hid hacell
  clear hx hacell henv
  by_cases hln : l.length ≤ 100
  · have hli : (l.length : Int) ≤ 100 := by omega
    by_cases hk : key.size ≤ 200
    · have hki : (key.size : Int) ≤ 200 := by omega
      go_enter Tryd.func6, Tryd.ntmps6
      go_wp2_with fail
      refine HFX.out.mono ?_
      rintro e w1 ⟨rfl, hb1⟩
      go_wp2_with fail
      go_loopw [7, 29] (fun vv ii wr => ∃ i : Nat, i ≤ l.length ∧ ii = .int .i64 i ∧ Own wr w.heap.size 9 1 vv (sc (sortL (l.take i))) ∧ (∀ j (hj : j < l.length), j < i → l[j].size ≤ 200) ∧ Below w.heap.size w wr) (fun _ ii _ => l.length - (intOf ii).toNat)
      case atStart => exact ⟨0, by omega, rfl, Own.nil _ _ _ _, fun _ _ h => absurd h (by omega), hb1⟩
      case round =>
        obtain ⟨i, hi, rfl, hown, hall, hbel⟩ := hrel
        have HOW := Lib.hid hown
        have HALL := Lib.hid hall
        clear hown hall
        by_cases hlt : i < l.length
        · obtain ⟨b, off, rfl, hbb, hc⟩ := HAC.out (by omega)
          have hci := (hbel.cell (p := ⟨b, off + i, none⟩) hbb).trans (hc i hlt)
          have HT := Lib.hid (sortL_snoc l hlt)
          have HN := fun h => Lib.hid (upto_succ (p := fun j hj => l[j].size ≤ 200) HALL.out hlt h)
          have HLN := Lib.hid (show (sortL (l.take i)).length ≤ 1000000 from by have := sortL_len (l.take i); rw [List.length_take] at this; omega)
          clear hc
          generalize l[i] = y at *
          generalize sortL (l.take i) = q at *
          by_cases hys : y.size ≤ 200
          · have hyi : (y.size : Int) ≤ 200 := by omega
            have HN2 := HN hys
            clear HN hys
            go_wp2_with fail
            refine (put11_own w.heap.size _ q y wr hbel.size HOW.out HLN.out).mono ?_
            rintro e w3 ⟨v3, rfl, hO3, hb3⟩
            have HO3 := Lib.hid hO3
            have hbz := hbel.trans (hb3.mono hbel.size)
            clear hO3 hb3
            go_wp2_with fail
            go_roundw
            case rel => exact ⟨i + 1, by omega, by go_num, by rw [HT.out]; exact HO3.out, HN2.out, hbz⟩
            case measure => simp [intOf]; omega
          · have hyi : (200 : Int) < y.size := by omega
            clear HN hys
            go_wp2_with fail
            go_ret
            exact ⟨rfl, hbel⟩
        · obtain rfl : i = l.length := by omega
          have ho := HOW.out
          rw [List.take_length] at ho
          have HRL := Lib.hid (show (sortL l).length ≤ 1000000 from by have := sortL_len l; omega)
          have HRK := Lib.hid (show ∀ k ∈ sortL l, k.size ≤ 10000000 from fun k hk => by
            obtain ⟨j, hj, rfl⟩ := List.getElem_of_mem ((sortL_mem l k).1 hk)
            have := HALL.out j hj hj
            omega)
          have HRU := Lib.hid (sortL_up l)
          generalize sortL l = r at *
          obtain ⟨ro, rn, rc, rfl, _, _, _⟩ := ho.sl.len
          have HR := Lib.hid (show RowT wr (.slice ro rn rc) r from ho.slU)
          clear ho HOW HALL hb1
          have HS1 := Lib.hid (seek_any _ r key wr HR.out HRL.out HRU.out)
          have HS2 := Lib.hid (seek11_any _ r key wr _ HR.out)
          unfold seekV at HS1
          have hcmp : ((seekL r key).getD ByteArray.empty).data.toList == ((seekL r key).getD ByteArray.empty).data.toList := by simp
          generalize hsv : (seekL r key).getD ByteArray.empty = sv at *
          generalize (seekL r key).isSome = sb at *
          clear hsv hcmp
          go_wp2_with fail
          refine HS1.out.mono ?_
          rintro e w2 ⟨rfl, rfl⟩
          go_wp2_with fail
          refine HS2.out.mono ?_
          rintro e w2 ⟨rfl, rfl⟩
          clear HS1 HS2
          have hb2 := hbel.alloc hbel.size (.cells #[.iface 48 (.slice ro rn rc)] 66)
          have HSR := Lib.hid (srcs_one wr (.slice ro rn rc) r HR.out)
          have HR2 := Lib.hid (HR.out.up ((Below.refl _ _).alloc (Nat.le_refl _) (.cells #[.iface 48 (.slice ro rn rc)] 66)))
          have HSO := Lib.hid (show SrcOk [r] from ⟨fun q hq => by rw [List.mem_singleton.1 hq]; exact HRU.out, fun q hq => by rw [List.mem_singleton.1 hq]; exact HRL.out, fun q hq => by rw [List.mem_singleton.1 hq]; exact HRK.out⟩)
          have HAL := Lib.hid (show (allL [r]).length ≤ 1000000 from by have := allL_length [r]; have := HRL.out; simp only [sumLen] at *; omega)
          have HCD := Lib.hid (show (scanL (allL [r]) ⟨#[]⟩ ⟨#[]⟩ rev 0).2 = 0 ∨ (scanL (allL [r]) ⟨#[]⟩ ⟨#[]⟩ rev 0).2 = 9 from scan_code _ _ _)
          have HFI := Lib.hid (show codeOf r = 0 → (scanL (allL [r]) ⟨#[]⟩ ⟨#[]⟩ rev 0).2 = 0 from fun h => scan_fine (code_fine h) _ _ _)
          go_wp2_with fail
          refine (scan_any _ [r] ⟨#[]⟩ ⟨#[]⟩ rev 0 _ (HEN.out.below hb2) HSR.out HSO.out hr (by decide) HAL.out).mono ?_
          rintro e w4 ⟨v4, rfl, ho4, hb4⟩
          clear ho4 HSR
          generalize scanL (allL [r]) ⟨#[]⟩ ⟨#[]⟩ rev 0 = F at *
          obtain ⟨F1, F2⟩ := F
          dsimp only at *
          have hb04 := hb2.trans (hb4.mono hb2.size)
          have HR4 := Lib.hid (HR2.out.up hb4)
          have HW5 := Lib.hid (rwsT_one w4 (.slice ro rn rc) r HR4.out)
          have hb05 := hb04.alloc hb04.size (.cells #[.slice ro rn rc] 38)
          clear HR2 hb4 hb2 HR4 HR hb04
          go_wp2_with fail
          refine (refRight_any _ r _ HW5.out HRL.out HRK.out).mono ?_
          rintro e w6 ⟨rfl, hb6⟩
          have hb06 := hb05.trans (hb6.mono hb05.size)
          clear HW5 hb6 hb05
          by_cases hcd : codeOf r = 0
          · rw [show (codeOf r == 0) = true from by rw [hcd]; rfl]
            obtain rfl : F2 = 0 := HFI.out hcd
            clear hcd HCD HFI
            go_wp2_with fail
            go_ret
            exact ⟨rfl, hb06⟩
          · rw [show (codeOf r == 0) = false from by simpa using hcd]
            rcases HCD.out with rfl | rfl
            all_goals
              clear hcd HCD HFI
              go_wp2_with fail
              go_ret
              exact ⟨rfl, hb06⟩
    · have hki : (200 : Int) < key.size := by omega
      go_enter Tryd.func6, Tryd.ntmps6
      go_wp2_with fail
      refine HFX.out.mono ?_
      rintro e w1 ⟨rfl, hb1⟩
      go_wp2_with fail
      go_ret
      exact ⟨rfl, hb1⟩
  · have hli : (100 : Int) < l.length := by omega
    go_enter Tryd.func6, Tryd.ntmps6
    go_wp2_with fail
    refine HFX.out.mono ?_
    rintro e w1 ⟨rfl, hb1⟩
    go_wp2_with fail
    go_ret
    exact ⟨rfl, hb1⟩

end Go.Proofs.YtcglegipdlaoiaaDoor
