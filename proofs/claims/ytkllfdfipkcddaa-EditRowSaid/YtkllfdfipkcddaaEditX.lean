/- The walk of sentrylaw16.EditApplies. No condition: lemmas. -/
import Derived.Test.YtkllfdfipkcddaaEditW
import Derived.Test.YtkllfdfipkcddaaEditR
namespace Go.Proofs.Ytkllfdfipkcddaa
open Go Go.RowKit

theorem few_lens {add : List Tab} {drop : List Int} (h : fewL add drop = true) : add.length ≤ 40 ∧ drop.length ≤ 40 := by
  unfold fewL at h
  simp only [Bool.and_eq_true, decide_eq_true_eq] at h
  exact h.2

set_option maxRecDepth 100000 in
set_option maxHeartbeats 1600000 in
theorem applies_any (tv av dv : Value) (v : Ver) (x : Edi) (w : World) (ht : Sl (· < w.heap.size) w 5 tv (tcs v.tabs)) (ha : Sl (· < w.heap.size) w 5 av (tcs x.add)) (hd : Sl (· < w.heap.size) w 1 dv (ic x.drop)) (hv : v.Ok) (hx : x.Ok) :
    Calls Try.prog 3 #[vV tv v, eV av dv x] w (Ret (.bool true) w) := by
  have hb0 : Below w.heap.size w ((w.alloc (.cells (vC tv v) 25)).alloc (.cells (eC av dv x) 28)) := ((Below.refl _ _).alloc (Nat.le_refl _) _).alloc (by simp) _
  have hA := (Blk.made w (vC tv v) 25).alloc (.cells (eC av dv x) 28)
  have hX := Blk.made' (w := w.alloc (.cells (vC tv v) 25)) (B := w.heap.size + 1) (by simp) (eC av dv x) 28
  have HFX := Lib.hid (fixed16_any ((w.alloc (.cells (vC tv v) 25)).alloc (.cells (eC av dv x) 28)))
  have ht0 := ht.up hb0
  have ha0 := ha.up hb0
  have hd0 := hd.up hb0
  have HF := Lib.hid (fun W h => few16_any tv v W h hv.tabs)
  have HG := Lib.hid (fun W h1 h2 => few_any av dv x.add x.drop (.int .u64 x.floor) (.int .u64 x.head) (.int .i64 x.log) (.int .i64 x.next) W h1 h2 hx.add)
  have HP := Lib.hid (fun tv W h1 h2 h3 h4 h5 => apply_any tv av dv v x W h1 h2 h3 hv hx h4 h5)
  have HQ := Lib.hid (fun W h1 h2 h3 h4 h5 h6 => refApply_any tv av dv v x W h1 h2 h3 h4 h5 h6)
  have HL := Lib.hid (fun h => few_lens (add := v.tabs) (drop := []) h)
  have HL2 := Lib.hid (fun h => few_lens (add := x.add) (drop := x.drop) h)
  have HS := Lib.hid (fun tv uv W h1 h2 => sameV_ok tv uv v W h1 h2)
  generalize applyR v x = r at *
  generalize fewL v.tabs [] = f1 at *
  generalize fewL x.add x.drop = f2 at *
  obtain ⟨l, fl, hd', lg, nx⟩ := v
  obtain ⟨add, drop, efl, ehd, elg, enx⟩ := x
  obtain ⟨⟨rl, rfl', rh, rlg, rnx⟩, rc⟩ := r
  unfold vV eV at *
  unfold vC eC at *
  dsimp only at *
  clear ht ha hd hv hx
  obtain ⟨ao, c, rfl, _, _, _⟩ := ht0.tabs
  obtain ⟨aao, acp, rfl, _, _, _⟩ := ha0.tabs
  obtain ⟨dao, dcp, rfl, _, _, _⟩ := hd0.ints
  cases f1 with
  | false =>
    go_enter Try.func3, Try.ntmps3
    go_wp2_with fail
    refine HFX.out.mono ?_
    rintro e w1 ⟨rfl, hb1⟩
    have hAc := (hA.below hb1).cells
    have hB1 := hb0.trans (hb1.mono hb0.size)
    go_wp2_with fail
    refine (HF.out _ (ht0.up hb1)).mono ?_
    rintro e w2 ⟨rfl, hb2⟩
    go_wp2_with fail
    go_ret
    exact ⟨rfl, hB1.trans (hb2.mono hB1.size)⟩
  | true =>
    cases f2 with
    | false =>
      go_enter Try.func3, Try.ntmps3
      go_wp2_with fail
      refine HFX.out.mono ?_
      rintro e w1 ⟨rfl, hb1⟩
      have hAc := (hA.below hb1).cells
      have hB1 := hb0.trans (hb1.mono hb0.size)
      go_wp2_with fail
      refine (HF.out _ (ht0.up hb1)).mono ?_
      rintro e w2 ⟨rfl, hb2⟩
      have hXc := ((hX.below hb1).below hb2).cells
      have hB2 := hB1.trans (hb2.mono hB1.size)
      go_wp2_with fail
      refine (HG.out _ ((ha0.up hb1).up hb2) ((hd0.up hb1).up hb2)).mono ?_
      rintro e w3 ⟨rfl, hb3⟩
      go_wp2_with fail
      go_ret
      exact ⟨rfl, hB2.trans (hb3.mono hB2.size)⟩
    | true =>
      go_enter Try.func3, Try.ntmps3
      go_wp2_with fail
      refine HFX.out.mono ?_
      rintro e w1 ⟨rfl, hb1⟩
      have hAc := (hA.below hb1).cells
      have hB1 := hb0.trans (hb1.mono hb0.size)
      go_wp2_with fail
      refine (HF.out _ (ht0.up hb1)).mono ?_
      rintro e w2 ⟨rfl, hb2⟩
      have hXc := ((hX.below hb1).below hb2).cells
      have hB2 := hB1.trans (hb2.mono hB1.size)
      go_wp2_with fail
      refine (HG.out _ ((ha0.up hb1).up hb2) ((hd0.up hb1).up hb2)).mono ?_
      rintro e w3 ⟨rfl, hb3⟩
      have hB3 := hB2.trans (hb3.mono hB2.size)
      have hA3 := ((hA.below hb1).below hb2).below hb3
      have hX3 := ((hX.below hb1).below hb2).below hb3
      have hT3 := ((ht0.up hb1).up hb2).up hb3
      have ha3 := ((ha0.up hb1).up hb2).up hb3
      have hd3 := ((hd0.up hb1).up hb2).up hb3
      have hxlt := hX3.lt
      have hn1 := (HL.out (by trivial)).1
      have hn2 := HL2.out (by trivial)
      clear hAc hXc hb1 hb2 hb3 hB1 hB2 hA hX ht0 ha0 hd0 hb0 HFX HF HG HL HL2
      have hAc := hA3.cells
      have hE4 : Below w3.heap.size w3 (w3.alloc (.cells #[.slice ao l.length c, .int .u64 fl, .int .u64 hd', .int .i64 lg, .int .i64 nx] 25)) := (Below.refl _ _).alloc (Nat.le_refl _) _
      have hO4 := Blk.made w3 #[.slice ao l.length c, .int .u64 fl, .int .u64 hd', .int .i64 lg, .int .i64 nx] 25
      have hA4 := hA3.alloc (.cells #[.slice ao l.length c, .int .u64 fl, .int .u64 hd', .int .i64 lg, .int .i64 nx] 25)
      have hX4 := hX3.alloc (.cells #[.slice ao l.length c, .int .u64 fl, .int .u64 hd', .int .i64 lg, .int .i64 nx] 25)
      have hsz4 : (w3.alloc (.cells #[.slice ao l.length c, .int .u64 fl, .int .u64 hd', .int .i64 lg, .int .i64 nx] 25)).heap.size = w3.heap.size + 1 := by simp
      have hOw := Own.made (w3.alloc (.cells #[.slice ao l.length c, .int .u64 fl, .int .u64 hd', .int .i64 lg, .int .i64 nx] 25)) (B := w3.heap.size + 1) (by simp) 38 5
      rw [hsz4] at hOw
      have hE5 : Below (w3.heap.size + 1) (w3.alloc (.cells #[.slice ao l.length c, .int .u64 fl, .int .u64 hd', .int .i64 lg, .int .i64 nx] 25)) ((w3.alloc (.cells #[.slice ao l.length c, .int .u64 fl, .int .u64 hd', .int .i64 lg, .int .i64 nx] 25)).alloc (.cells #[] 38)) := (Below.refl _ _).alloc (by simp) _
      have hO5 := hO4.below (by rw [hsz4]; exact hE5)
      have hA5 := hA4.below (by rw [hsz4]; exact hE5)
      have hX5 := hX4.below (by rw [hsz4]; exact hE5)
      have hAc5 := hA5.cells
      have hT5 := (hT3.up hE4).up (by rw [hsz4]; exact hE5)
      have hll : (tcs l).length ≤ 5000 := by rw [tcs_length]; omega
      go_wp2_with (at_builtin; go_must (refine wpList_own tabsT rfl (.tmp 21) (.tmp 23) rfl rfl hOw rfl hT5 (tcs_one _) (by rw [List.length_nil]; omega) (by rw [List.length_nil]; omega) (by simp) ?_); intro vL w6 hown hb6 _; obtain ⟨vo, vn, vc, rfl, _, _⟩ := hown.sl.len; have hO6 := hO5.same (Same.below hb6) (by omega); have hO6c := hO6.cells; have hO6f := hO6.free; have hX6 := hX5.same (Same.below hb6) (by omega); have hX6c := hX6.cells)
      have hA6 := hA5.same (Same.below hb6) (by omega)
      have hB5 : Below w3.heap.size w3 ((w3.alloc (.cells #[.slice ao l.length c, .int .u64 fl, .int .u64 hd', .int .i64 lg, .int .i64 nx] 25)).alloc (.cells #[] 38)) := hE4.trans (hE5.mono (by omega))
      have hB6 : Below w3.heap.size w3 w6 := hB5.trans (hb6.mono (by omega))
      have hS6 := hown.sl
      rw [List.nil_append] at hS6
      have hO7 := Blk.set_to hO6 0 (.slice vo vn vc) rfl
      have hA7 := hA6.other (a := ⟨w3.heap.size, 0, none⟩) (by simp; omega) (.slice vo vn vc)
      have hX7 := hX6.other (a := ⟨w3.heap.size, 0, none⟩) (by simp; omega) (.slice vo vn vc)
      have hB7 : Below w3.heap.size w3 (w6.setCell ⟨w3.heap.size, 0, none⟩ (.slice vo vn vc)) := setUp hB6 (by omega) _
      have hS7 := (hS6.same (w' := w6.setCell ⟨w3.heap.size, 0, none⟩ (.slice vo vn vc)) fun x hx => Below.heap_setCell w6 _ _ x (by have := hx.1; simp; omega)).mono (T := (· < (w6.setCell ⟨w3.heap.size, 0, none⟩ (.slice vo vn vc)).heap.size)) fun x hx => by simpa using hx.2
      clear hA6 hX6 hX6c hO6 hO6c hO6f hown hb6 hB5 hB6 hS6 hE4 hE5 hO4 hO5 hA4 hX4 hA5 hX5 hAc5 hT5 hOw hsz4 hA3 hX3
      generalize w6.setCell ⟨w3.heap.size, 0, none⟩ (.slice vo vn vc) = w7 at *
      refine (HP.out _ _ hS7 (ha3.up hB7) (hd3.up hB7) (by omega) (by omega)).mono ?_
      rintro e w8 ⟨uv, rfl, hS8, hb8⟩
      have hO8 := hO7.below hb8
      have hA8 := hA7.below hb8
      have hX8 := hX7.below hb8
      have hB8 := hB7.trans (hb8.mono hB7.size)
      have hS8' := hS7.up hb8
      obtain ⟨uo, un, uc, rfl, _, _⟩ := hS8.len
      unfold vV
      dsimp only at *
      have hE9 : Below w8.heap.size w8 (w8.alloc (.cells #[.slice uo un uc, .int .u64 rfl', .int .u64 rh, .int .i64 rlg, .int .i64 rnx] 25)) := (Below.refl _ _).alloc (Nat.le_refl _) _
      have hU9 := Blk.made w8 #[.slice uo un uc, .int .u64 rfl', .int .u64 rh, .int .i64 rlg, .int .i64 rnx] 25
      have hO9 := hO8.below hE9
      have hA9 := hA8.below hE9
      have hX9 := hX8.below hE9
      have hB9 := hB8.trans (hE9.mono hB8.size)
      have hS9 := hS8.up hE9
      have hS9' := hS8'.up hE9
      have hsz9 := hU9.lt
      clear hO7 hA7 hX7 hB7 hO8 hA8 hX8 hB8 hS8 hS8' hb8 hS7 hE9
      have hAc9 := hA9.cells
      have hXc9 := hX9.cells
      go_wp2_with fail
      generalize w8.alloc (.cells #[.slice uo un uc, .int .u64 rfl', .int .u64 rh, .int .i64 rlg, .int .i64 rnx] 25) = w9 at *
      refine (HQ.out _ (hT3.up hB9) (ha3.up hB9) (hd3.up hB9) (by omega) (by omega) (by omega)).mono ?_
      rintro e w10 ⟨sv, rfl, hS10, hb10⟩
      obtain ⟨so, sn, sc, rfl, _, _⟩ := hS10.len
      have hE11 : Below w10.heap.size w10 (w10.alloc (.cells #[.slice so sn sc, .int .u64 rfl', .int .u64 rh, .int .i64 rlg, .int .i64 rnx] 25)) := (Below.refl _ _).alloc (Nat.le_refl _) _
      have hV11 := Blk.made w10 #[.slice so sn sc, .int .u64 rfl', .int .u64 rh, .int .i64 rlg, .int .i64 rnx] 25
      have hU11 := (hU9.below hb10).below hE11
      have hO11 := (hO9.below hb10).below hE11
      have hA11 := (hA9.below hb10).below hE11
      have hB11 := (hB9.trans (hb10.mono hB9.size)).trans (hE11.mono (Nat.le_trans hB9.size hb10.size))
      have hS11 := hS10.up hE11
      have hR11 := (hS9.up hb10).up hE11
      have hS11' := (hS9'.up hb10).up hE11
      have hUc := hU11.cells
      have hVc := hV11.cells
      clear hU9 hO9 hA9 hX9 hB9 hS9 hS9' hb10 hS10 hE11 hAc9 hXc9
      unfold vV
      dsimp only
      go_wp2_with fail
      generalize w10.alloc (.cells #[.slice so sn sc, .int .u64 rfl', .int .u64 rh, .int .i64 rlg, .int .i64 rnx] 25) = w11 at *
      refine (sameV_ok (.slice uo un uc) (.slice so sn sc) ⟨rl, rfl', rh, rlg, rnx⟩ w11 hR11 hS11).mono ?_
      rintro e w12 ⟨rfl, hb12⟩
      have hOc := (hO11.below hb12).cells
      have hAc := (hA11.below hb12).cells
      have hB12 := hB11.trans (hb12.mono hB11.size)
      clear hUc hVc
      go_wp2_with fail
      refine (HS.out _ _ _ (hS11'.up hb12) (hT3.up hB12)).mono ?_
      rintro e w13 ⟨rfl, hb13⟩
      go_wp2_with fail
      go_ret
      exact ⟨rfl, hB3.trans ((hB12.trans (hb13.mono hB12.size)).mono hB3.size)⟩

end Go.Proofs.Ytkllfdfipkcddaa
