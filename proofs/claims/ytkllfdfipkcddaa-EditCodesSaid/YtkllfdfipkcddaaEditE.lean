/- The walks of sentryref16's Right, SameTables, Same, Few and sentrylaw16.few. No condition: lemmas. -/
import Derived.Test.YtkllfdfipkcddaaEditD
namespace Go.Proofs.Ytkllfdfipkcddaa
open Go Go.RowKit

theorem all_hit {α : Type} {p : α → Bool} {l : List α} {i : Nat} (hi : i < l.length) (h : p l[i] = false) : l.all p = false := List.all_eq_false.2 ⟨_, List.getElem_mem hi, by simp [h]⟩
theorem all_ok {α : Type} {p : α → Bool} {l : List α} (h : ∀ i (hi : i < l.length), p l[i] = true) : l.all p = true := by
  rw [List.all_eq_true]
  intro x hx
  obtain ⟨i, hi, rfl⟩ := List.getElem_of_mem hx
  exact h i hi

set_option maxRecDepth 100000 in
set_option maxHeartbeats 800000 in
theorem refRight_any (av dv : Value) (x : Edi) (w : World) (ha : Sl (· < w.heap.size) w 5 av (tcs x.add)) (hd : Sl (· < w.heap.size) w 1 dv (ic x.drop)) (h1 : x.add.length ≤ 1000) (h2 : x.drop.length ≤ 1000) :
    Calls Try.prog 13 #[eV av dv x] w (Ret (.bool (rightE x)) w) := by
  rw [right_nums]
  have hb0 : Below w.heap.size w (w.alloc (.cells (eC av dv x) 28)) := (Below.refl _ _).alloc (Nat.le_refl _) _
  have hcall := nums_any av dv x _ (ha.up hb0) (hd.up hb0) h1 h2
  generalize numsE x = l at *
  obtain ⟨add, drop, fl, hd', lg, nx⟩ := x
  unfold eV at *
  unfold eC at *
  dsimp only at *
  have HC := Lib.hid hcall
  clear hcall ha hd
  go_enter Try.func13, Try.ntmps13
  go_wp2_with fail
  refine HC.out.mono ?_
  rintro e w2 ⟨v, rfl, hs, hb2⟩
  have hb02 := below_step hb0 hb2
  obtain ⟨ao, c, rfl, hac, hcm, hacell⟩ := hs.ints
  have HAC := Lib.hid hacell
  clear hacell hs
  go_wp2
  go_loop [8] (fun ii => ∃ i : Nat, i ≤ l.length ∧ ii = .int .i64 i ∧ (∀ j (hj : j < l.length), j < i → (!oddB l[j]) = true)) (fun ii => l.length - (intOf ii).toNat)
  case atStart => exact ⟨0, by omega, rfl, fun _ _ h => absurd h (by omega)⟩
  case round =>
    obtain ⟨i, hi, rfl, hall⟩ := hrel
    have HALL := Lib.hid hall
    clear hall
    by_cases hlt : i < l.length
    · obtain ⟨b, off, rfl, hb, hc⟩ := HAC.out (by omega)
      have c0 := hc i hlt
      have HN := fun (h : (!oddB l[i]) = true) => Lib.hid (upto_succ (p := fun j hj => (!oddB l[j]) = true) HALL.out hlt h)
      have HT := fun h => Lib.hid (all_hit (p := fun n => !oddB n) hlt h)
      clear hc
      generalize l[i] = n at *
      by_cases h0 : n < 0
      · have HT := HT (by simp [oddB, h0])
        clear HN
        go_wp2
        go_ret
        exact ⟨by rw [HT.out]; rfl, hb02⟩
      · by_cases h1 : n < 4611686018427387904
        · have HN := HN (by simp [oddB]; omega)
          have h00 : 0 ≤ n := by omega
          clear HT h0
          go_wp2
          go_round
          case rel => exact ⟨i + 1, by omega, by go_num, HN.out⟩
          case measure => simp [intOf]; omega
        · have HT := HT (by simp [oddB]; omega)
          have h00 : 0 ≤ n := by omega
          have h11 : 4611686018427387904 ≤ n := by omega
          clear HN h0 h1
          go_wp2
          go_ret
          exact ⟨by rw [HT.out]; rfl, hb02⟩
    · obtain rfl : i = l.length := by omega
      have HR := Lib.hid (all_ok (p := fun n => !oddB n) fun j hj => HALL.out j hj hj)
      go_wp2
      go_ret
      exact ⟨by rw [HR.out]; rfl, hb02⟩

set_option maxRecDepth 100000 in
set_option maxHeartbeats 800000 in
theorem sameT_ok (x y : Value) (l : List Tab) (w : World) (hx : Sl (· < w.heap.size) w 5 x (tcs l)) (hy : Sl (· < w.heap.size) w 5 y (tcs l)) :
    Calls Try.prog 24 #[x, y] w (Ret (.bool true) w) := by
  obtain ⟨ao, c, rfl, hac, hcm, hacell⟩ := hx.tabs
  obtain ⟨bo, d, rfl, hbd, hdm, hbcell⟩ := hy.tabs
  have HAC := Lib.hid hacell
  have HBC := Lib.hid hbcell
  clear hacell hbcell hx hy
  go_enter Try.func24, Try.ntmps24
  go_wp2
  go_loopw [13] (fun ii wr => ∃ i : Nat, i ≤ l.length ∧ ii = .int .i64 i ∧ Below w.heap.size w wr) (fun ii _ => l.length - (intOf ii).toNat)
  case atStart => exact ⟨0, by omega, rfl, Below.refl _ _⟩
  case round =>
    obtain ⟨i, hi, rfl, hbel⟩ := hrel
    by_cases hlt : i < l.length
    · obtain ⟨ab, aoff, rfl, hb, hca⟩ := HAC.out (by omega)
      obtain ⟨bb, boff, rfl, hb', hcb⟩ := HBC.out (by omega)
      obtain ⟨c0, c1, c2, c3, c4⟩ := hca i hlt
      obtain ⟨d0, d1, d2, d3, d4⟩ := hcb i hlt
      have c0 := (hbel.cell (p := ⟨ab, aoff + i * 5, none⟩) hb).trans c0
      have c1 := (hbel.cell (p := ⟨ab, aoff + i * 5 + 1, none⟩) hb).trans c1
      have c2 := (hbel.cell (p := ⟨ab, aoff + i * 5 + 2, none⟩) hb).trans c2
      have c3 := (hbel.cell (p := ⟨ab, aoff + i * 5 + 3, none⟩) hb).trans c3
      have c4 := (hbel.cell (p := ⟨ab, aoff + i * 5 + 4, none⟩) hb).trans c4
      have d0 := (hbel.cell (p := ⟨bb, boff + i * 5, none⟩) hb').trans d0
      have d1 := (hbel.cell (p := ⟨bb, boff + i * 5 + 1, none⟩) hb').trans d1
      have d2 := (hbel.cell (p := ⟨bb, boff + i * 5 + 2, none⟩) hb').trans d2
      have d3 := (hbel.cell (p := ⟨bb, boff + i * 5 + 3, none⟩) hb').trans d3
      have d4 := (hbel.cell (p := ⟨bb, boff + i * 5 + 4, none⟩) hb').trans d4
      have hne := tab_neq l[i] l[i] false (by simp)
      have hi1 : (0 : Int) ≤ i := by omega
      have hi2 : (i : Int) < l.length := by omega
      clear hca hcb
      generalize l[i] = t at *
      obtain ⟨tn, tl, ts, tf, tla⟩ := t
      unfold tV at hne
      dsimp only at *
      go_wp2_with fail
      go_quiet (fail)
      go_wp2
      go_roundw
      case rel => exact ⟨i + 1, by omega, by go_num, ⟨hbel.os, hbel.tape, hbel.output, hbel.size, hbel.block⟩⟩
      case measure => simp [intOf]; omega
    · obtain rfl : i = l.length := by omega
      go_wp2
      go_ret
      exact ⟨rfl, hbel⟩

set_option maxRecDepth 100000 in
set_option maxHeartbeats 800000 in
theorem sameV_ok (tv uv : Value) (x : Ver) (w : World) (ha : Sl (· < w.heap.size) w 5 tv (tcs x.tabs)) (hb : Sl (· < w.heap.size) w 5 uv (tcs x.tabs)) :
    Calls Try.prog 11 #[vV tv x, vV uv x] w (Ret (.bool true) w) := by
  obtain ⟨l, fl, hd', lg, nx⟩ := x
  unfold vV
  dsimp only at *
  have hb0 : Below w.heap.size w ((w.alloc (.cells #[tv, .int .u64 fl, .int .u64 hd', .int .i64 lg, .int .i64 nx] 25)).alloc (.cells #[uv, .int .u64 fl, .int .u64 hd', .int .i64 lg, .int .i64 nx] 25)) :=
    ((Below.refl _ _).alloc (Nat.le_refl _) _).alloc (by simp) _
  have hA := (Blk.made w #[tv, .int .u64 fl, .int .u64 hd', .int .i64 lg, .int .i64 nx] 25).alloc (.cells #[uv, .int .u64 fl, .int .u64 hd', .int .i64 lg, .int .i64 nx] 25)
  have hB := Blk.made' (w := w.alloc (.cells #[tv, .int .u64 fl, .int .u64 hd', .int .i64 lg, .int .i64 nx] 25)) (B := w.heap.size + 1) (by simp) #[uv, .int .u64 fl, .int .u64 hd', .int .i64 lg, .int .i64 nx] 25
  have hcall := sameT_ok tv uv l _ (ha.up hb0) (hb.up hb0)
  have HC := Lib.hid hcall
  clear hcall
  go_enter Try.func11, Try.ntmps11
  go_wp2_with fail
  refine HC.out.mono ?_
  rintro e w2 ⟨rfl, hb2⟩
  have hca := (hA.below hb2).cells
  have hcb := (hB.below hb2).cells
  have hb02 := below_step hb0 hb2
  go_wp2
  go_ret
  exact ⟨by simp, hb02⟩

def shortT (t : Tab) : Bool := decide (t.first.size + t.last.size ≤ 300)
/-- Is an edit not too great to be asked about? -/
def fewL (add : List Tab) (drop : List Int) : Bool := add.all shortT && (decide (add.length ≤ 40) && decide (drop.length ≤ 40))

set_option maxRecDepth 100000 in
set_option maxHeartbeats 800000 in
theorem few_any (av dv : Value) (add : List Tab) (drop : List Int) (c2 c3 c4 c5 : Value) (w : World) (ha : Sl (· < w.heap.size) w 5 av (tcs add)) (hd : Sl (· < w.heap.size) w 1 dv (ic drop)) (hok : ∀ t ∈ add, TabOk t) :
    Calls Try.prog 8 #[.agg #[av, dv, c2, c3, c4, c5]] w (Ret (.bool (fewL add drop)) w) := by
  have hb0 : Below w.heap.size w (w.alloc (.cells #[av, dv, c2, c3, c4, c5] 28)) := (Below.refl _ _).alloc (Nat.le_refl _) _
  have hA := Blk.made w #[av, dv, c2, c3, c4, c5] 28
  obtain ⟨ao, c, rfl, hac, hcm, hacell⟩ := ha.tabs
  obtain ⟨bo, d, rfl, hbd, hdm, _⟩ := hd.ints
  have HAC := Lib.hid hacell
  clear hacell ha hd
  go_enter Try.func8, Try.ntmps8
  go_wp2_with fail
  generalize hw1 : World.alloc w _ = w1
  have hA1 : Blk w1 w.heap.size _ _ := hw1 ▸ hA
  have hb1 : Below w.heap.size w w1 := hw1 ▸ hb0
  clear hw1 hA hb0
  go_loopw [8] (fun ii wr => ∃ i : Nat, i ≤ add.length ∧ ii = .int .i64 i ∧ (∀ j (hj : j < add.length), j < i → shortT add[j] = true) ∧ Below w1.heap.size w1 wr) (fun ii _ => add.length - (intOf ii).toNat)
  case atStart => exact ⟨0, by omega, rfl, fun _ _ h => absurd h (by omega), Below.refl _ _⟩
  case round =>
    obtain ⟨i, hi, rfl, hall, hbel⟩ := hrel
    have HALL := Lib.hid hall
    have hbw := below_step hb1 hbel
    have hcA := (hA1.below hbel).cells
    clear hall
    by_cases hlt : i < add.length
    · obtain ⟨b, off, rfl, hb, hc⟩ := HAC.out (by omega)
      obtain ⟨c0, c1, c2', c3', c4'⟩ := hc i hlt
      have c0 := (hbw.cell (p := ⟨b, off + i * 5, none⟩) hb).trans c0
      have c1 := (hbw.cell (p := ⟨b, off + i * 5 + 1, none⟩) hb).trans c1
      have c2' := (hbw.cell (p := ⟨b, off + i * 5 + 2, none⟩) hb).trans c2'
      have c3' := (hbw.cell (p := ⟨b, off + i * 5 + 3, none⟩) hb).trans c3'
      have c4' := (hbw.cell (p := ⟨b, off + i * 5 + 4, none⟩) hb).trans c4'
      have hIi := hok _ (List.getElem_mem hlt)
      have HN := fun (h : shortT add[i] = true) => Lib.hid (upto_succ (p := fun j hj => shortT add[j] = true) HALL.out hlt h)
      have HT := fun h => Lib.hid (all_hit (p := shortT) hlt h)
      clear hc
      generalize add[i] = t at *
      obtain ⟨tn, tl, ts, tf, tla⟩ := t
      obtain ⟨-, -, -, k1, k2⟩ := hIi
      dsimp only at *
      have hbA := hbel.alloc hbel.size (.cells #[.int .i64 tn, .int .i64 tl, .int .i64 ts, .string tf, .string tla] 38)
      by_cases hs : tf.size + tla.size ≤ 300
      · have HN := HN (by simpa [shortT] using hs)
        have hsi : (tf.size : Int) + tla.size ≤ 300 := by omega
        clear HT hs
        go_wp2
        go_roundw
        case rel => exact ⟨i + 1, by omega, by go_num, HN.out, hbA⟩
        case measure => simp [intOf]; omega
      · have HT := HT (by simpa [shortT] using hs)
        have HF := Lib.hid (show fewL add drop = false from by unfold fewL; rw [HT.out]; rfl)
        have hsi : (300 : Int) < (tf.size : Int) + tla.size := by omega
        clear HN HT hs
        go_wp2
        go_ret
        exact ⟨by rw [HF.out]; rfl, below_step hb1 hbA⟩
    · obtain rfl : i = add.length := by omega
      have hF : fewL add drop = (decide (add.length ≤ 40) && decide (drop.length ≤ 40)) := by unfold fewL; rw [all_ok fun j hj => HALL.out j hj hj]; rfl
      by_cases h1 : add.length ≤ 40
      · have HF := Lib.hid (show fewL add drop = decide ((drop.length : Int) ≤ 40) from by rw [hF]; simp [h1]; omega)
        have h1i : (add.length : Int) ≤ 40 := by omega
        clear hF h1
        go_wp2
        go_ret
        exact ⟨by rw [HF.out]; rfl, hbw⟩
      · have HF := Lib.hid (show fewL add drop = false from by rw [hF]; simp [h1])
        have h1i : decide ((add.length : Int) ≤ 40) = false := by simp; omega
        clear hF h1
        go_wp2
        go_ret
        exact ⟨by rw [HF.out]; rfl, hbw⟩

end Go.Proofs.Ytkllfdfipkcddaa
