/- The walks of sentryref18's Check, Entries and First. No condition: lemmas. -/
import Derived.Test.YtcglegipdlaoiaaDoorDropD
import Derived.Test.YtcglegipdlaoiaaDoorRowOps
namespace Go.Proofs.YtcglegipdlaoiaaDoor
open Go Go.RowKit

/-- What an inner key tells; nothing, if it tells nothing. -/
def decoD (s : ByteArray) : Ent := (deco s).getD (ByteArray.empty, 0, false)
theorem outV_decoD (s : ByteArray) : ∃ n : Int, outV (outerS s.data.toList) = .tuple #[.agg #[.string (decoD s).1, .int .u64 (decoD s).2.1, .bool (decoD s).2.2], .int .i64 n] ∧ (n = 0 ∧ deco s ≠ none ∨ n = 9 ∧ deco s = none) := by
  rw [outV_deco]
  unfold decoD
  cases deco s with
  | none => exact ⟨9, rfl, .inr ⟨rfl, rfl⟩⟩
  | some x => exact ⟨0, rfl, .inl ⟨rfl, by simp⟩⟩

set_option maxRecDepth 100000 in
set_option maxHeartbeats 800000 in
theorem refCheck_any (x : Value) (l : List ByteArray) (w : World) (hx : Sl (· < w.heap.size) w 1 x (sc l)) (hl : l.length ≤ 1000000) (hk : ∀ k ∈ l, k.size ≤ 10000000) :
    Calls Tryd.prog 28 #[x] w (RetV (.int .i64 (codeOf l)) w) := by
  have HX := Lib.hid hx
  obtain ⟨ao, c, rfl, hac, hcm, hacell⟩ := hx.strs
  have HAC := Lib.hid hacell
  clear hacell hx
  go_enter Tryd.func28, Tryd.ntmps28
  go_wp2
  go_loopw [9] (fun ii wr => ∃ i : Nat, i ≤ l.length ∧ ii = .int .i64 i ∧ (∀ j (hj : j < l.length), j < i → deco l[j] ≠ none) ∧ Below w.heap.size w wr) (fun ii _ => l.length - (intOf ii).toNat)
  case atStart => exact ⟨0, by omega, rfl, fun _ _ h => absurd h (by omega), Below.refl _ _⟩
  case round =>
    obtain ⟨i, hi, rfl, hall, hbel⟩ := hrel
    have HALL := Lib.hid hall
    clear hall
    by_cases hlt : i < l.length
    · obtain ⟨b, off, rfl, hb, hc⟩ := HAC.out (by omega)
      have hci := (hbel.cell (p := ⟨b, off + i, none⟩) hb).trans (hc i hlt)
      have hkz := hk _ (List.getElem_mem hlt)
      obtain ⟨n, hod, hn⟩ := outV_decoD l[i]
      have HOD := Lib.hid hod
      have HNN := Lib.hid hn
      clear hc hod hn
      go_wp2_with fail
      refine (refOuter_any l[i] _ hkz).mono ?_
      rintro e w2 ⟨rfl, hb2⟩
      have hb02 := hbel.trans (hb2.mono hbel.size)
      have hbA := hb02.alloc hb02.size (Obj.cells #[Value.string (decoD l[i]).1, Value.int IntKind.u64 (decoD l[i]).2.1, Value.bool (decoD l[i]).2.2] 29)
      rw [HOD.out]
      rcases HNN.out with ⟨rfl, hne⟩ | ⟨rfl, hno⟩
      · have HNE := Lib.hid hne
        clear hne
        go_wp2
        go_roundw
        case rel => exact ⟨i + 1, by omega, by go_num, fun j hj h => (Nat.lt_succ_iff_lt_or_eq.1 h).elim (fun e => HALL.out j hj e) (fun e => by subst e; exact HNE.out), hbA⟩
        case measure => simp [intOf]; omega
      · have HCO := Lib.hid (codeOf_none hlt hno)
        clear hno
        go_wp2
        go_ret
        rw [HCO.out]
        exact ⟨rfl, hbA⟩
    · obtain rfl : i = l.length := by omega
      go_wp2_with fail
      refine (rises_any _ l _ _ (HX.out.same (Same.below hbel))).mono ?_
      rintro e w2 ⟨rfl, hb2⟩
      have hb02 := hbel.trans (hb2.mono hbel.size)
      by_cases hr : Rises l
      · have HCO := Lib.hid (codeOf_ok (fun j hj => HALL.out j hj hj) hr)
        rw [risesB_true hr]
        clear hr
        go_wp2
        go_ret
        rw [HCO.out]
        exact ⟨rfl, hb02⟩
      · have hrb : risesB l = false := by unfold risesB; simp [hr]
        have HCO := Lib.hid (show codeOf l = 11 from by
          unfold codeOf
          rw [if_neg (by rintro ⟨k, hk, h⟩; obtain ⟨i, hi, rfl⟩ := List.getElem_of_mem hk; exact HALL.out i hi hi h), if_neg hr])
        rw [hrb]
        clear hr hrb
        go_wp2
        go_ret
        rw [HCO.out]
        exact ⟨rfl, hb02⟩

set_option maxRecDepth 100000 in
set_option maxHeartbeats 800000 in
theorem refEntries_any (x : Value) (l : List ByteArray) (w : World) (hx : Sl (· < w.heap.size) w 1 x (sc l)) (hl : l.length ≤ 1000000) (hk : ∀ k ∈ l, k.size ≤ 10000000) :
    Calls Tryd.prog 23 #[x] w fun e w' => ∃ v, e = .returned v ∧ Own w' w.heap.size 29 3 v (ec (l.map decoD)) ∧ Below w.heap.size w w' := by
  obtain ⟨ao, c, rfl, hac, hcm, hacell⟩ := hx.strs
  have HAC := Lib.hid hacell
  have HL := Lib.hid hl
  clear hacell hx hl
  go_enter Tryd.func23, Tryd.ntmps23
  go_wp2
  go_loopw [3, 10] (fun vv ii wr => ∃ i : Nat, i ≤ l.length ∧ ii = .int .i64 i ∧ Own wr w.heap.size 29 3 vv (ec ((l.take i).map decoD)) ∧ Below w.heap.size w wr) (fun _ ii _ => l.length - (intOf ii).toNat)
  case atStart => exact ⟨0, by omega, rfl, Own.nil _ _ _ _, Below.refl _ _⟩
  case round =>
    obtain ⟨i, hi, rfl, hown, hbel⟩ := hrel
    have hel : (ec ((l.take i).map decoD)).length ≤ 3000000 := by
      have := HL.out
      rw [ec_length, List.length_map, List.length_take]; omega
    by_cases hlt : i < l.length
    · obtain ⟨b, off, rfl, hb, hc⟩ := HAC.out (by omega)
      have hci := (hbel.cell (p := ⟨b, off + i, none⟩) hb).trans (hc i hlt)
      have hkz := hk _ (List.getElem_mem hlt)
      obtain ⟨n, hod, hn⟩ := outV_decoD l[i]
      have HOD := Lib.hid hod
      have HT := Lib.hid (show ec ((l.take (i + 1)).map decoD) = ec ((l.take i).map decoD) ++ eC (decoD l[i]) from by rw [List.take_succ_eq_append_getElem hlt, List.map_append, ec_append]; simp [ec])
      clear hc hod hn
      generalize hys : (l.take i).map decoD = ys at *
      have HYS := Lib.hid hys
      clear hys
      generalize decoD l[i] = y at *
      obtain ⟨xk, xr, xd⟩ := y
      go_wp2_with fail
      refine (refOuter_any l[i] _ hkz).mono ?_
      rintro e w2 ⟨rfl, hb2⟩
      have hb02 := hbel.trans (hb2.mono hbel.size)
      have hbA := hb02.alloc hb02.size (Obj.cells #[Value.string xk, Value.int IntKind.u64 xr, Value.bool xd] 29)
      have hownA := (hown.below hb2).below ((Below.refl _ _).alloc (Nat.le_refl _) (Obj.cells #[Value.string xk, Value.int IntKind.u64 xr, Value.bool xd] 29))
      have HSZ := Lib.hid (show (w2.alloc (Obj.cells #[Value.string xk, Value.int IntKind.u64 xr, Value.bool xd] 29)).heap.size = w2.heap.size + 1 from by simp)
      rw [HOD.out]
      go_wp2_with (at_builtin; go_must (refine wpList_own_lit entsT rfl (.tmp 19) (.tmp 21) rfl rfl hownA (by rw [HSZ.out]; rfl) rfl (by simp [Value.oneCell']) (by simp; omega) (by simp; omega) hbA.size ?_); intro v3 w3 hown3 hb3 _)
      go_roundw
      case rel =>
        refine ⟨i + 1, by omega, by go_num, ?_, hbA.trans hb3⟩
        rw [HT.out]
        exact hown3
      case measure => simp [intOf]; omega
    · obtain rfl : i = l.length := by omega
      rw [List.take_length] at hown
      have HO := Lib.hid hown
      go_wp2
      go_ret
      exact ⟨_, rfl, HO.out, hbel⟩

/-- P18.1: is it the first of its Key whose Rev isn't greater? -/
def firstB (l : List Ent) (i rev : Nat) (h : i < l.length) : Bool := decide (l[i].2.1 ≤ rev) && (l.take i).all fun x => !(decide (x.1 = l[i].1) && decide (x.2.1 ≤ rev))

theorem firstB_out {l : List Ent} {i rev : Nat} {h : i < l.length} (hr : rev < l[i].2.1) : firstB l i rev h = false := by
  unfold firstB
  rw [decide_eq_false (by omega)]
  rfl
theorem firstB_hit {l : List Ent} {i rev j : Nat} {h : i < l.length} (hj : j < i) (hk : (l[j]'(by omega)).1 = l[i].1) (hr : (l[j]'(by omega)).2.1 ≤ rev) : firstB l i rev h = false := by
  unfold firstB
  rw [Bool.and_eq_false_iff]
  right
  rw [List.all_eq_false]
  refine ⟨l[j]'(by omega), List.mem_take_iff_getElem.2 ⟨j, by omega, rfl⟩, ?_⟩
  simp [hk, hr]
theorem firstB_ok {l : List Ent} {i rev : Nat} {h : i < l.length} (hr : l[i].2.1 ≤ rev) (ha : ∀ j (hj : j < l.length), j < i → ¬ (l[j].1 = l[i].1 ∧ l[j].2.1 ≤ rev)) : firstB l i rev h = true := by
  unfold firstB
  rw [Bool.and_eq_true, List.all_eq_true]
  refine ⟨by simpa using hr, fun x hx => ?_⟩
  obtain ⟨j, hj, rfl⟩ := List.mem_take_iff_getElem.1 hx
  have := ha j (by omega) (by omega)
  rw [Bool.not_eq_true', Bool.and_eq_false_iff, decide_eq_false_iff_not, decide_eq_false_iff_not]
  exact Classical.not_and_iff_not_or_not.1 this

set_option maxRecDepth 100000 in
set_option maxHeartbeats 1600000 in
theorem refFirst_any (x : Value) (l : List Ent) (i rev : Nat) (hi : i < l.length) (w : World) (hx : Sl (· < w.heap.size) w 3 x (ec l)) :
    Calls Tryd.prog 32 #[x, .int .i64 i, .int .u64 rev] w (RetV (.bool (firstB l i rev hi)) w) := by
  obtain ⟨ao, c, rfl, hac, hcm, hacell⟩ := hx.ents
  obtain ⟨b, off, rfl, hb, hc⟩ := hacell (by omega)
  obtain ⟨c0, c1, c2⟩ := hc i hi
  have HC := Lib.hid hc
  clear hc hx hacell
  have hil : (i : Int) ≤ (l.length : Int) := by omega
  have hic : (i : Int) ≤ (c : Int) := by omega
  by_cases hr : rev < l[i].2.1
  · have HF := Lib.hid (firstB_out (h := hi) hr)
    have hri : (rev : Int) < (l[i].2.1 : Int) := by omega
    clear hr
    go_enter Tryd.func32, Tryd.ntmps32
    go_wp2
    go_ret
    rw [HF.out]
    exact ⟨rfl, Below.refl _ _⟩
  · have hri : ((l[i].2.1 : Nat) : Int) ≤ rev := by omega
    have HR := Lib.hid hr
    clear hr
    go_enter Tryd.func32, Tryd.ntmps32
    go_wp2
    go_loopw [20] (fun jj wr => ∃ j : Nat, j ≤ i ∧ jj = .int .i64 j ∧ (∀ m (hm : m < l.length), m < j → ¬ (l[m].1 = l[i].1 ∧ l[m].2.1 ≤ rev)) ∧ Below w.heap.size w wr) (fun jj _ => i - (intOf jj).toNat)
    case atStart => exact ⟨0, by omega, rfl, fun _ _ h => absurd h (by omega), Below.refl _ _⟩
    case round =>
      obtain ⟨j, hj, rfl, hall, hbel⟩ := hrel
      have HALL := Lib.hid hall
      clear hall
      by_cases hlt : j < i
      · have hjl : j < l.length := by omega
        have hjc : (j : Int) < (l.length : Int) := by omega
        obtain ⟨g0, g1, g2⟩ := HC.out j hjl
        have d0 := (hbel.cell (p := ⟨b, off + j * 3, none⟩) hb).trans g0
        have d1 := (hbel.cell (p := ⟨b, off + j * 3 + 1, none⟩) hb).trans g1
        have d2 := (hbel.cell (p := ⟨b, off + j * 3 + 2, none⟩) hb).trans g2
        have HHit := fun hk hr => Lib.hid (firstB_hit (l := l) (i := i) (rev := rev) (j := j) (h := hi) hlt hk hr)
        have HNext := fun (h : ¬ (l[j].1 = l[i].1 ∧ l[j].2.1 ≤ rev)) => Lib.hid (show ∀ m (hm : m < l.length), m < j + 1 → ¬ (l[m].1 = l[i].1 ∧ l[m].2.1 ≤ rev) from fun m hm h' => (Nat.lt_succ_iff_lt_or_eq.1 h').elim (fun e => HALL.out m hm e) (fun e => by subst e; exact h))
        clear g0 g1 g2
        generalize hy : l[j] = y at *
        obtain ⟨yk, yr, yd⟩ := y
        dsimp only at *
        have hbA := hbel.alloc hbel.size (Obj.cells #[Value.string yk, Value.int IntKind.u64 yr, Value.bool yd] 29)
        have hi0 := (hbA.cell (p := ⟨b, off + i * 3, none⟩) hb).trans c0
        have hX := (Blk.made wr #[Value.string yk, Value.int IntKind.u64 yr, Value.bool yd] 29).cells
        have e1 := ByteArray.toList_eq yk
        have e2 := ByteArray.toList_eq l[i].1
        have HY := Lib.hid hy
        clear hy
        by_cases hk : yk = l[i].1
        · have hkb : (yk.data.toList == l[i].1.data.toList) = true := by rw [hk]; simp
          by_cases hry : yr ≤ rev
          · have hryi : (yr : Int) ≤ rev := by omega
            have HF := HHit hk hry
            clear HHit HNext hk hry
            go_wp2_with fail
            go_quiet (fail)
            go_wp2
            go_ret
            rw [HF.out]
            exact ⟨rfl, below_drewN hbA _⟩
          · have hryi : decide (yr ≤ rev) = false := by simpa using hry
            have HN := HNext (fun h => hry h.2)
            clear HHit HNext hk hry
            go_wp2_with fail
            go_quiet (fail)
            go_wp2
            go_roundw
            case rel => exact ⟨j + 1, by omega, by go_num, HN.out, below_drewN hbA _⟩
            case measure => simp [intOf]; omega
        · have hkb := ba_beq hk
          have HN := HNext (fun h => hk h.1)
          clear HHit HNext hk
          go_wp2_with fail
          go_quiet (fail)
          go_wp2
          go_roundw
          case rel => exact ⟨j + 1, by omega, by go_num, HN.out, below_drewN hbA _⟩
          case measure => simp [intOf]; omega
      · obtain rfl : j = i := by omega
        have HF := Lib.hid (firstB_ok (h := hi) (rev := rev) (by have := HR.out; omega) HALL.out)
        go_wp2
        go_ret
        rw [HF.out]
        exact ⟨rfl, hbel⟩

end Go.Proofs.YtcglegipdlaoiaaDoor
