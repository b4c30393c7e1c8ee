/- The walks of sentrylaw18's DropTwice, DropSame, DropKeeps and DropRefuses: true for whatever input. No condition: lemmas. -/
import Derived.Test.YtkllfdfipkcddaaDoorLaw18B
namespace Go.Proofs.YtkllfdfipkcddaaDoor
open Go Go.RowKit

theorem few_is {b : Bool} (x : Value) (es : List Ent) (w : World) (hx : Sl (· < w.heap.size) w 3 x (ec es)) (h : fewB es = b) :
    Calls Tryd.prog 25 #[x] w (RetV (.bool b) w) := h ▸ few_any x es w hx

set_option maxRecDepth 100000 in
set_option maxHeartbeats 1600000 in
theorem dropTwice_law (x : Value) (es : List Ent) (floor above : Nat) (bottom : Bool) (w : World) (henv : Env w) (hx : Sl (· < w.heap.size) w 3 x (ec es)) (hu : ∀ e ∈ es, U64 e.2.1) (hab : above < 65536) :
    Calls Tryd.prog 8 #[x, .int .u64 floor, .int .u16 above, .bool bottom] w (RetV (.bool true) w) := by
  by_cases hfew : fewB es = true
  · by_cases hfl : floor ≤ 1152921504606846976
    · have hrow := rowOk hu hfew
      have hlen := fewB_len hfew
      have hkey := fewB_key hfew
      have hfi : (floor : Int) ≤ 1152921504606846976 := by omega
      have hw1 : IntKind.u64.wrap (above : Int) = (above : Int) := U64.wrap (q := above) (by unfold U64; omega)
      have hw2 : IntKind.u64.wrap ((floor : Int) + (above : Int)) = ((floor + above : Nat) : Int) := by
        have := U64.wrap (q := floor + above) (by unfold U64; omega)
        rw [← this]
        congr 1
      have ha0 : (0 : Int) ≤ above := by omega
      have K1 := Lib.hid (keep_again hrow.good floor bottom)
      have K2 := Lib.hid (keep_keep hrow.good (floor := floor) (rev := floor + above) bottom (by omega))
      have K3 := Lib.hid (keep_length (keep_good hrow.good floor bottom) (floor + above) bottom)
      have hrowA := hrow.keep floor bottom
      have HF := Lib.hid hfew
      have HW2 := Lib.hid hw2
      clear hfew hfl
      go_enter Tryd.func8, Tryd.ntmps8
      clear hw2
      go_wp2_with fail
      refine (fixed18 _ henv).mono ?_
      rintro e w1 ⟨rfl, hb1⟩
      have hx1 := hx.up hb1
      go_wp2_with fail
      refine (few_is x es _ hx1 HF.out).mono ?_
      rintro e w2 ⟨rfl, hb2⟩
      have hb02 := below_step hb1 hb2
      have hx2 := hx1.up hb2
      go_wp2_with fail
      refine (rows_any x es _ hx2 (by omega) hu (fun e he => by have := hkey e he; omega)).mono ?_
      rintro e w3 ⟨vk, rfl, hk3, hb3⟩
      have hb03 := below_step hb02 hb3
      generalize rowsL es = l at *
      go_wp2_with fail
      refine (keep_ok vk l floor bottom _ (henv.below hb03) hk3 hrow).mono ?_
      rintro e w4 ⟨va, rfl, ha4, hb4⟩
      have hb04 := below_step hb03 hb4
      have hk4 := hk3.up hb4
      go_wp2_with fail
      refine (keep_ok va _ floor bottom _ (henv.below hb04) ha4 hrowA).mono ?_
      rintro e w5 ⟨vb, rfl, hb5', hb5⟩
      rw [K1.out] at hb5'
      have hb05 := below_step hb04 hb5
      have hk5 := hk4.up hb5
      have ha5 := ha4.up hb5
      have hw2 := HW2.out
      go_wp2_with fail
      clear hw2
      refine (keep_ok va _ (floor + above) bottom _ (henv.below hb05) ha5 hrowA).mono ?_
      rintro e w6 ⟨vc, rfl, hc6, hb6⟩
      have hb06 := below_step hb05 hb6
      have hk6 := hk5.up hb6
      have ha6 := ha5.up hb6
      have hbb6 := hb5'.up hb6
      have hw2 := HW2.out
      go_wp2_with fail
      clear hw2
      refine (keep_ok vk _ (floor + above) bottom _ (henv.below hb06) hk6 hrow).mono ?_
      rintro e w7 ⟨vd, rfl, hd7, hb7⟩
      have hb07 := below_step hb06 hb7
      have ha7 := ha6.up hb7
      have hbb7 := hbb6.up hb7
      have hc7 := hc6.up hb7
      go_wp2_with fail
      refine (same_ok va vb _ _ ha7 hbb7).mono ?_
      rintro e w8 ⟨rfl, hb8⟩
      have hb08 := below_step hb07 hb8
      have hc8 := hc7.up hb8
      have hd8 := hd7.up hb8
      have HC8 := Lib.hid hc8
      have HD8 := Lib.hid hd8
      obtain ⟨ao, an, ac, rfl, han, _, _⟩ := ha7.len
      obtain ⟨co, cn, cc, rfl, hcn, _, _⟩ := hc7.len
      rw [sc_length, Nat.mul_one] at han hcn
      have hle : (cn : Int) ≤ (an : Int) := by rw [← han, ← hcn]; have := K3.out; omega
      clear han hcn hc8 hd8 hc7 hc6 ha7 ha6 ha5 ha4
      go_wp2_with fail
      refine (same_ok _ vd (keepL (floor + above) bottom l) _ (by have := HC8.out; rwa [K2.out] at this) HD8.out).mono ?_
      rintro e w9 ⟨rfl, hb9⟩
      have hb09 := below_step hb08 hb9
      go_wp2
      go_ret
      exact ⟨rfl, hb09⟩
    · have hfi : (1152921504606846976 : Int) < floor := by omega
      clear hfl
      go_enter Tryd.func8, Tryd.ntmps8
      go_wp2_with fail
      refine (fixed18 _ henv).mono ?_
      rintro e w1 ⟨rfl, hb1⟩
      have hx1 := hx.up hb1
      go_wp2_with fail
      refine (few_is x es _ hx1 hfew).mono ?_
      rintro e w2 ⟨rfl, hb2⟩
      go_wp2
      go_ret
      exact ⟨rfl, below_step hb1 hb2⟩
  · have hfew : fewB es = false := by simpa using hfew
    go_enter Tryd.func8, Tryd.ntmps8
    go_wp2_with fail
    refine (fixed18 _ henv).mono ?_
    rintro e w1 ⟨rfl, hb1⟩
    have hx1 := hx.up hb1
    go_wp2_with fail
    refine (few_is x es _ hx1 hfew).mono ?_
    rintro e w2 ⟨rfl, hb2⟩
    go_wp2
    go_ret
    exact ⟨rfl, below_step hb1 hb2⟩

set_option maxRecDepth 100000 in
set_option maxHeartbeats 1600000 in
theorem dropSame_law (x : Value) (es : List Ent) (floor above : Nat) (bottom : Bool) (w : World) (henv : Env w) (hx : Sl (· < w.heap.size) w 3 x (ec es)) (hu : ∀ e ∈ es, U64 e.2.1) (hab : above < 65536) :
    Calls Tryd.prog 9 #[x, .int .u64 floor, .int .u16 above, .bool bottom] w (RetV (.bool true) w) := by
  by_cases hfew : fewB es = true
  · by_cases hfl : floor ≤ 1152921504606846976
    · have hrow := rowOk hu hfew
      have hlen := fewB_len hfew
      have hkey := fewB_key hfew
      have hfi : (floor : Int) ≤ 1152921504606846976 := by omega
      have hw1 : IntKind.u64.wrap (above : Int) = (above : Int) := U64.wrap (q := above) (by unfold U64; omega)
      have hw2 : IntKind.u64.wrap ((floor : Int) + (above : Int)) = ((floor + above : Nat) : Int) := by
        have := U64.wrap (q := floor + above) (by unfold U64; omega)
        rw [← this]
        congr 1
      have ha0 : (0 : Int) ≤ above := by omega
      have K1 := Lib.hid (at_keep hrow.good (floor := floor) (rev := floor + above) bottom (by omega))
      have hrowA := hrow.keep floor bottom
      have HF := Lib.hid hfew
      have HW2 := Lib.hid hw2
      clear hfew hfl
      go_enter Tryd.func9, Tryd.ntmps9
      clear hw2
      go_wp2_with fail
      refine (fixed18 _ henv).mono ?_
      rintro e w1 ⟨rfl, hb1⟩
      have hx1 := hx.up hb1
      go_wp2_with fail
      refine (few_is x es _ hx1 HF.out).mono ?_
      rintro e w2 ⟨rfl, hb2⟩
      have hb02 := below_step hb1 hb2
      have hx2 := hx1.up hb2
      go_wp2_with fail
      refine (rows_any x es _ hx2 (by omega) hu (fun e he => by have := hkey e he; omega)).mono ?_
      rintro e w3 ⟨vk, rfl, hk3, hb3⟩
      have hb03 := below_step hb02 hb3
      generalize rowsL es = l at *
      go_wp2_with fail
      refine (keep_ok vk l floor bottom _ (henv.below hb03) hk3 hrow).mono ?_
      rintro e w4 ⟨va, rfl, ha4, hb4⟩
      have hb04 := below_step hb03 hb4
      have hk4 := hk3.up hb4
      have hw2 := HW2.out
      go_wp2_with fail
      clear hw2
      refine (at_ok vk l (floor + above) _ (henv.below hb04) hk4 hrow).mono ?_
      rintro e w5 ⟨vx, rfl, hx5, hb5⟩
      have hb05 := below_step hb04 hb5
      have ha5 := ha4.up hb5
      have hw2 := HW2.out
      go_wp2_with fail
      clear hw2
      refine (at_ok va _ (floor + above) _ (henv.below hb05) ha5 hrowA).mono ?_
      rintro e w6 ⟨vy, rfl, hy6, hb6⟩
      rw [K1.out] at hy6
      have hb06 := below_step hb05 hb6
      have hx6 := hx5.up hb6
      go_wp2_with fail
      refine (same_ok vx vy _ _ hx6 hy6).mono ?_
      rintro e w7 ⟨rfl, hb7⟩
      have hb07 := below_step hb06 hb7
      go_wp2
      go_ret
      exact ⟨rfl, hb07⟩
    · have hfi : (1152921504606846976 : Int) < floor := by omega
      clear hfl
      go_enter Tryd.func9, Tryd.ntmps9
      go_wp2_with fail
      refine (fixed18 _ henv).mono ?_
      rintro e w1 ⟨rfl, hb1⟩
      have hx1 := hx.up hb1
      go_wp2_with fail
      refine (few_is x es _ hx1 hfew).mono ?_
      rintro e w2 ⟨rfl, hb2⟩
      go_wp2
      go_ret
      exact ⟨rfl, below_step hb1 hb2⟩
  · have hfew : fewB es = false := by simpa using hfew
    go_enter Tryd.func9, Tryd.ntmps9
    go_wp2_with fail
    refine (fixed18 _ henv).mono ?_
    rintro e w1 ⟨rfl, hb1⟩
    have hx1 := hx.up hb1
    go_wp2_with fail
    refine (few_is x es _ hx1 hfew).mono ?_
    rintro e w2 ⟨rfl, hb2⟩
    go_wp2
    go_ret
    exact ⟨rfl, below_step hb1 hb2⟩

set_option maxRecDepth 100000 in
set_option maxHeartbeats 1600000 in
theorem dropKeeps_law (x : Value) (es : List Ent) (floor rev : Nat) (bottom : Bool) (w : World) (henv : Env w) (hx : Sl (· < w.heap.size) w 3 x (ec es)) (hu : ∀ e ∈ es, U64 e.2.1) :
    Calls Tryd.prog 10 #[x, .int .u64 floor, .int .u64 rev, .bool bottom] w (RetV (.bool true) w) := by
  by_cases hfew : fewB es = true
  · have hrow := rowOk hu hfew
    have hlen := fewB_len hfew
    have hkey := fewB_key hfew
    have HF := Lib.hid hfew
    clear hfew
    go_enter Tryd.func10, Tryd.ntmps10
    go_wp2_with fail
    refine (fixed18 _ henv).mono ?_
    rintro e w1 ⟨rfl, hb1⟩
    have hx1 := hx.up hb1
    go_wp2_with fail
    refine (few_is x es _ hx1 HF.out).mono ?_
    rintro e w2 ⟨rfl, hb2⟩
    have hb02 := below_step hb1 hb2
    have hx2 := hx1.up hb2
    go_wp2_with fail
    refine (rows_any x es _ hx2 (by omega) hu (fun e he => by have := hkey e he; omega)).mono ?_
    rintro e w3 ⟨vk, rfl, hk3, hb3⟩
    have hb03 := below_step hb02 hb3
    generalize rowsL es = l at *
    go_wp2_with fail
    refine (keep_ok vk l floor bottom _ (henv.below hb03) hk3 hrow).mono ?_
    rintro e w4 ⟨va, rfl, ha4, hb4⟩
    have hb04 := below_step hb03 hb4
    have hk4 := hk3.up hb4
    go_wp2_with fail
    refine (at_ok vk l rev _ (henv.below hb04) hk4 hrow).mono ?_
    rintro e w5 ⟨vb, rfl, hbb5, hb5⟩
    have hb05 := below_step hb04 hb5
    have hk5 := hk4.up hb5
    have ha5 := ha4.up hb5
    go_wp2_with fail
    refine (new_ok vk l _ (henv.below hb05) hk5 hrow).mono ?_
    rintro e w6 ⟨rfl, hb6⟩
    have hb06 := below_step hb05 hb6
    have hk6 := hk5.up hb6
    have ha6 := ha5.up hb6
    have hbb6 := hbb5.up hb6
    go_wp2_with fail
    refine (refKeep_ok vk l floor bottom _ hk6 hrow).mono ?_
    rintro e w7 ⟨vc, rfl, hc7, hb7⟩
    have hb07 := below_step hb06 hb7
    have hk7 := hk6.up hb7
    have ha7 := ha6.up hb7
    have hbb7 := hbb6.up hb7
    go_wp2_with fail
    refine (same_ok va vc _ _ ha7 hc7).mono ?_
    rintro e w8 ⟨rfl, hb8⟩
    have hb08 := below_step hb07 hb8
    have hk8 := hk7.up hb8
    have hbb8 := hbb7.up hb8
    go_wp2_with fail
    refine (refAt_ok vk l rev _ hk8 hrow).mono ?_
    rintro e w9 ⟨vd, rfl, hd9, hb9⟩
    have hb09 := below_step hb08 hb9
    have hk9 := hk8.up hb9
    have hbb9 := hbb8.up hb9
    go_wp2_with fail
    refine (same_ok vb vd _ _ hbb9 hd9).mono ?_
    rintro e w10 ⟨rfl, hb10⟩
    have hb010 := below_step hb09 hb10
    have hk10 := hk9.up hb10
    go_wp2_with fail
    refine (refNewest_ok vk l _ hk10 hrow).mono ?_
    rintro e w11 ⟨rfl, hb11⟩
    have hb011 := below_step hb010 hb11
    go_wp2
    go_ret
    exact ⟨congrArg (fun b => Ending.returned (.bool b)) (by simp), hb011⟩
  · have hfew : fewB es = false := by simpa using hfew
    go_enter Tryd.func10, Tryd.ntmps10
    go_wp2_with fail
    refine (fixed18 _ henv).mono ?_
    rintro e w1 ⟨rfl, hb1⟩
    have hx1 := hx.up hb1
    go_wp2_with fail
    refine (few_is x es _ hx1 hfew).mono ?_
    rintro e w2 ⟨rfl, hb2⟩
    go_wp2
    go_ret
    exact ⟨rfl, below_step hb1 hb2⟩

set_option maxRecDepth 100000 in
set_option maxHeartbeats 1600000 in
theorem dropRefuses_law (x : Value) (l : List ByteArray) (floor : Nat) (w : World) (henv : Env w) (hx : Sl (· < w.heap.size) w 1 x (sc l)) :
    Calls Tryd.prog 11 #[x, .int .u64 floor] w (RetV (.bool true) w) := by
  by_cases hlen : l.length ≤ 100
  · have HX := Lib.hid hx
    obtain ⟨ao, c, rfl, hac, hcm, hacell⟩ := hx.strs
    have HAC := Lib.hid hacell
    have hli : (l.length : Int) ≤ 100 := by omega
    clear hacell hx
    go_enter Tryd.func11, Tryd.ntmps11
    go_wp2_with fail
    refine (fixed18 _ henv).mono ?_
    rintro e w1 ⟨rfl, hb1⟩
    go_wp2
    go_loop [21] (fun ii => ∃ i : Nat, i ≤ l.length ∧ ii = .int .i64 i ∧ ∀ j (hj : j < l.length), j < i → l[j].size ≤ 200) (fun ii => l.length - (intOf ii).toNat)
    case atStart => exact ⟨0, by omega, rfl, fun _ _ h => absurd h (by omega)⟩
    case round =>
      obtain ⟨i, hi, rfl, hall⟩ := hrel
      have HALL := Lib.hid hall
      clear hall
      by_cases hlt : i < l.length
      · obtain ⟨b, off, rfl, hb, hc⟩ := HAC.out (by omega)
        have hci := (hb1.cell (p := ⟨b, off + i, none⟩) hb).trans (hc i hlt)
        clear hc
        by_cases hz : l[i].size ≤ 200
        · have hzi : (l[i].size : Int) ≤ 200 := by omega
          have HN := Lib.hid (show ∀ j (hj : j < l.length), j < i + 1 → l[j].size ≤ 200 from fun j hj h' => (Nat.lt_succ_iff_lt_or_eq.1 h').elim (fun e => HALL.out j hj e) (fun e => by subst e; exact hz))
          clear hz
          go_wp2
          go_round
          case rel => exact ⟨i + 1, by omega, by go_num, HN.out⟩
          case measure => simp [intOf]; omega
        · have hzi : (200 : Int) < l[i].size := by omega
          clear hz
          go_wp2
          go_ret
          exact ⟨rfl, hb1⟩
      · obtain rfl : i = l.length := by omega
        have hk : ∀ k ∈ l, k.size ≤ 10000000 := by
          intro k hk
          obtain ⟨j, hj, rfl⟩ := List.getElem_of_mem hk
          have := HALL.out j hj hj
          omega
        have HK := Lib.hid hk
        have hx1 := HX.out.up hb1
        have HC := Lib.hid (refCheck_any _ l _ hx1 (by omega) hk)
        clear hk HALL HAC
        obtain ⟨n, hn⟩ : ∃ n, codeOf l = n := ⟨_, rfl⟩
        have HN := Lib.hid hn
        clear hn
        go_wp2_with fail
        refine HC.out.mono ?_
        rintro e w2 ⟨rfl, hb2⟩
        rw [HN.out]
        have hb02 := below_step hb1 hb2
        have hx2 := hx1.up hb2
        go_wp2_with fail
        refine (dropKeep_any _ l floor true _ (henv.below hb02) hx2 (by omega) HK.out).mono ?_
        rw [HN.out]
        rintro e w3 ⟨va, rfl, ha3, hb3⟩
        have hb03 := below_step hb02 hb3
        have hx3 := hx2.up hb3
        go_wp2_with fail
        refine (dropAt_any _ l floor _ (henv.below hb03) hx3 (by omega) HK.out).mono ?_
        rw [HN.out]
        rintro e w4 ⟨vb, rfl, hbb4, hb4⟩
        have hb04 := below_step hb03 hb4
        have hx4 := hx3.up hb4
        go_wp2_with fail
        refine (dropNewest_any _ l _ (henv.below hb04) hx4 (by omega) HK.out).mono ?_
        rw [HN.out]
        rintro e w5 ⟨rfl, hb5⟩
        have hb05 := below_step hb04 hb5
        by_cases hz : n = 0
        · subst hz
          clear ha3 hbb4
          generalize newR l = m
          go_wp2
          go_ret
          exact ⟨rfl, hb05⟩
        · have ea : keepR floor true l = [] := by unfold keepR; rw [if_neg (by rw [HN.out]; exact hz)]
          have eb : atR floor l = [] := by unfold atR; rw [if_neg (by rw [HN.out]; exact hz)]
          have en : newR l = 0 := by unfold newR; rw [if_neg (by rw [HN.out]; exact hz)]
          rw [ea] at ha3
          rw [eb] at hbb4
          rw [en]
          obtain ⟨ao1, n1, c1, rfl, hn1, _, _⟩ := ha3.len
          obtain ⟨ao2, n2, c2, rfl, hn2, _, _⟩ := hbb4.len
          obtain rfl : n1 = 0 := by simpa [sc] using hn1.symm
          obtain rfl : n2 = 0 := by simpa [sc] using hn2.symm
          have hni : ((n : Int) == 0) = false := by rw [beq_eq_false_iff_ne]; omega
          clear ea eb en ha3 hbb4 hn1 hn2 hz
          go_wp2
          go_ret
          exact ⟨rfl, hb05⟩
  · obtain ⟨ao, c, rfl, hac, hcm, hacell⟩ := hx.strs
    have hli : (100 : Int) < l.length := by omega
    clear hacell hx
    go_enter Tryd.func11, Tryd.ntmps11
    go_wp2_with fail
    refine (fixed18 _ henv).mono ?_
    rintro e w1 ⟨rfl, hb1⟩
    go_wp2
    go_ret
    exact ⟨rfl, hb1⟩

end Go.Proofs.YtkllfdfipkcddaaDoor
