/- Lemmas for the claim, no condition. -/
import Derived.Test.YtjdigpfipmckhaaGreatYReWalks0
import Derived.Test.YtjdigpfipmckhaaGreatYReWalks28
import Derived.Test.YtjdigpfipmckhaaGreatYReWalks24
namespace Go.Proofs.YtjdigpfipmckhaaGreat
open Go Go.RowKit
theorem tup_eq (a b : Tup) (W : World) : (binOp BinOp.eql 104 (tV a) (tV b)).run Tryz.prog W = .ok (.bool (decide (a = b))) W := by
  obtain ⟨⟨a1, a2, a3⟩, ⟨a4, a5, a6⟩⟩ := a
  obtain ⟨⟨b1, b2, b3⟩, ⟨b4, b5, b6⟩⟩ := b
  unfold tV
  dsimp only
  go_simp
  simp only [ba_toList]
  by_cases h1 : a1 = b1
  · by_cases h2 : a2 = b2
    · by_cases h3 : a3 = b3
      · by_cases h4 : a4 = b4
        · by_cases h5 : a5 = b5
          · by_cases h6 : a6 = b6 <;> simp [h1, h2, h3, h4, h5, h6]
          · simp [h1, h2, h3, h4, h5]
        · simp [h1, h2, h3, h4]
      · simp [h1, h2, h3]
    · simp [h1, h2]
  · simp [h1]
def zr6 : Array Value := #[.string ⟨#[]⟩, .string ⟨#[]⟩, .string ⟨#[]⟩, .string ⟨#[]⟩, .string ⟨#[]⟩, .string ⟨#[]⟩]
section
variable {w w' : World} {B B' : Nat} {e : TypeId} {cs : Array Value}
theorem Blk.put6 (h : Blk w B zr6 e) (x0 x1 x2 x3 x4 x5 : Value) : Blk ((((((w.setCell ⟨B, 0, none⟩ x0).setCell ⟨B, 1, none⟩ x1).setCell ⟨B, 2, none⟩ x2).setCell ⟨B, 3, none⟩ x3).setCell ⟨B, 4, none⟩ x4).setCell ⟨B, 5, none⟩ x5) B #[x0, x1, x2, x3, x4, x5] e :=
  (((((h.set_to 0 x0 rfl).set_to 1 x1 rfl).set_to 2 x2 rfl).set_to 3 x3 rfl).set_to 4 x4 rfl).set_to 5 x5 rfl
theorem Blk.away6 (h : Blk w B cs e) (hne : B ≠ B') (x0 x1 x2 x3 x4 x5 : Value) : Blk ((((((w.setCell ⟨B', 0, none⟩ x0).setCell ⟨B', 1, none⟩ x1).setCell ⟨B', 2, none⟩ x2).setCell ⟨B', 3, none⟩ x3).setCell ⟨B', 4, none⟩ x4).setCell ⟨B', 5, none⟩ x5) B cs e :=
  (((((h.other (a := ⟨B', 0, none⟩) hne x0).other (a := ⟨B', 1, none⟩) hne x1).other (a := ⟨B', 2, none⟩) hne x2).other (a := ⟨B', 3, none⟩) hne x3).other (a := ⟨B', 4, none⟩) hne x4).other (a := ⟨B', 5, none⟩) hne x5
theorem gr_set6 (h : Gr w w') (hB : w.heap.size ≤ B) (x0 x1 x2 x3 x4 x5 : Value) : Gr w ((((((w'.setCell ⟨B, 0, none⟩ x0).setCell ⟨B, 1, none⟩ x1).setCell ⟨B, 2, none⟩ x2).setCell ⟨B, 3, none⟩ x3).setCell ⟨B, 4, none⟩ x4).setCell ⟨B, 5, none⟩ x5) :=
  (((((h.set hB x0).set hB x1).set hB x2).set hB x3).set hB x4).set hB x5
end
set_option maxRecDepth 100000 in
set_option maxHeartbeats 1600000 in
theorem ofG_any (t : Tup) (w : World) : Calls Tryz.prog 114 #[tV t] w fun e w' => e = .returned (tV t) ∧ Gr w w' := by
  obtain ⟨⟨ot, oi, or_⟩, ⟨st, si, sr⟩⟩ := t
  have hb := (Blk.made w #[.string ot, .string oi, .string or_, .string st, .string si, .string sr] 104)
  have h1 : Gr w (w.alloc (.cells #[.string ot, .string oi, .string or_, .string st, .string si, .string sr] 104)) := (Gr.refl _).alloc _
  unfold tV
  dsimp only
  go_enter Tryz.func114, Tryz.ntmps114
  go_wp2_with fail
  refine bodyPost_ret (results_cell_row rfl _ _ (w.heap.size + 1) 195 #[.string ot, .string oi, .string or_, .string st, .string si, .string sr] (0, 0) _ rfl ?_ Tryz.underlying195 rfl (by kernel_rfl)) rfl ⟨rfl, h1.alloc _⟩
  have := heap_alloc_new (w.alloc (.cells #[.string ot, .string oi, .string or_, .string st, .string si, .string sr] 104)) (.cells #[.string ot, .string oi, .string or_, .string st, .string si, .string sr] 195)
  rwa [World.size_alloc] at this
set_option maxRecDepth 100000 in
set_option maxHeartbeats 8000000 in
theorem cmpTup_any (a b : Tup) (w : World) : Calls Tryz.prog 57 #[tV a, tV b] w fun e w' => e = .returned (.int .i64 (cmpC a b)) ∧ Gr w w' := by
  have hg1 : Gr w ((w.alloc (.cells (tpC a) 104)).alloc (.cells (tpC b) 104)) := ((Gr.refl _).alloc _).alloc _
  have HG1 := Lib.hid hg1
  have HA1 := Lib.hid ((Blk.made w (tpC a) 104).alloc (.cells (tpC b) 104))
  have HB1 := Lib.hid (Blk.made' (w := w.alloc (.cells (tpC a) 104)) (B := w.heap.size + 1) (by simp) (tpC b) 104)
  clear hg1
  by_cases hab : a = b
  · subst hab
    have HZ := Lib.hid (cmpC_self a)
    obtain ⟨⟨a1, a2, a3⟩, ⟨a4, a5, a6⟩⟩ := a
    unfold tpC at HG1 HA1 HB1
    dsimp only at HG1 HA1 HB1
    have ha := HA1.out.cells
    have hb := HB1.out.cells
    unfold tV
    dsimp only
    have hq : ∀ W, (binOp BinOp.eql 104 (.agg #[.string a1, .string a2, .string a3, .string a4, .string a5, .string a6]) (.agg #[.string a1, .string a2, .string a3, .string a4, .string a5, .string a6])).run Tryz.prog W = .ok (.bool true) W := fun W => by
      have h := tup_eq ⟨⟨a1, a2, a3⟩, ⟨a4, a5, a6⟩⟩ ⟨⟨a1, a2, a3⟩, ⟨a4, a5, a6⟩⟩ W
      rw [decide_eq_true rfl] at h
      exact h
    go_enter Tryz.func57, Tryz.ntmps57
    go_wp2_with fail
    go_ret
    exact ⟨by rw [HZ.out]; rfl, HG1.out⟩
  · have HF := Lib.hid (fun i (h6 : i < 6) (h0 : ∀ j, j < i → cmpS (tp a j) (tp b j) = 0) (h1 : cmpS (tp a i) (tp b i) ≠ 0) => cmpC_first h6 h0 h1)
    have HN := Lib.hid (fun (h0 : ∀ j, j < 6 → cmpS (tp a j) (tp b j) = 0) => cmpC_none h0)
    have HTA := Lib.hid (tpC_at a)
    have HTB := Lib.hid (tpC_at b)
    generalize cmpC a b = cab at *
    generalize hta : tp a = ta at *
    generalize htb : tp b = tb at *
    clear hta htb
    have hqn : ∀ W, (binOp BinOp.eql 104 (tV a) (tV b)).run Tryz.prog W = .ok (.bool false) W := fun W => by
      have h := tup_eq a b W
      rwa [decide_eq_false hab] at h
    clear hab
    obtain ⟨⟨a1, a2, a3⟩, ⟨a4, a5, a6⟩⟩ := a
    obtain ⟨⟨b1, b2, b3⟩, ⟨b4, b5, b6⟩⟩ := b
    unfold tpC at *
    dsimp only at HG1 HA1 HB1 HTA HTB
    have ha := HA1.out.cells
    have hb := HB1.out.cells
    unfold tV at hqn ⊢
    dsimp only at hqn ⊢
    go_enter Tryz.func57, Tryz.ntmps57
    go_wp2_with fail
    clear ha hb hqn
    refine region_to (fun a' W => ∃ x y, a' = { tmps := #[.agg #[.string a1, .string a2, .string a3, .string a4, .string a5, .string a6], .agg #[.string b1, .string b2, .string b3, .string b4, .string b5, .string b6], .pointer (some ⟨w.heap.size, 0, none⟩), .pointer (some ⟨w.heap.size + 1, 0, none⟩), .int .i64 0, .pointer (some ⟨x, 0, none⟩), .pointer (some ⟨y, 0, none⟩), undef, undef, .agg #[.string a1, .string a2, .string a3, .string a4, .string a5, .string a6], .agg #[.string b1, .string b2, .string b3, .string b4, .string b5, .string b6], .bool false, .agg #[.string a1, .string a2, .string a3, .string a4, .string a5, .string a6], .agg #[.string a1, .string a2, .string a3, .string a4, .string a5, .string a6], .agg #[.string b1, .string b2, .string b3, .string b4, .string b5, .string b6], .agg #[.string b1, .string b2, .string b3, .string b4, .string b5, .string b6], undef, undef, undef, undef, undef, undef, undef, undef, undef, undef, undef, undef, undef, undef], defers := [] } ∧ Blk W x #[.string a1, .string a2, .string a3, .string a4, .string a5, .string a6] 195 ∧ Blk W y #[.string b1, .string b2, .string b3, .string b4, .string b5, .string b6] 195 ∧ Gr w W) ?_ ?_
    · obtain ⟨wd, hwd⟩ : ∃ y, y = ((w.alloc (.cells #[.string a1, .string a2, .string a3, .string a4, .string a5, .string a6] 104)).alloc (.cells #[.string b1, .string b2, .string b3, .string b4, .string b5, .string b6] 104)).drew := ⟨_, rfl⟩
      have hE := Lib.hid (show Gr w wd from by rw [hwd]; exact HG1.out.drew)
      have hAd := Lib.hid (show Blk wd w.heap.size _ _ from by rw [hwd]; exact HA1.out.drew)
      have hBd := Lib.hid (show Blk wd (w.heap.size + 1) _ _ from by rw [hwd]; exact HB1.out.drew)
      refine region_walkN (Gr wd) (by rw [← hwd]; exact Gr.refl _) (by kernel_rfl) (by kernel_rfl) (fun _ _ d _ _ h => absurd h.1 (fun e => by cases e)) ?_
      rw [← hwd]
      clear hwd HG1 HA1 HB1
      have h1 := fun W (h : Gr wd W) => (hAd.out.below h.below).cells
      have h2 := fun W (h : Gr wd W) => (hBd.out.below h.below).cells
      (refine WalkN.tk [0, 2] ?_; (iterate 2 ((refine TkN.c _ ?_ (by simp only [gtA, gtS, gtZ]; rfl) (by kernel_rfl) (by kernel_rfl) (by rfl) (fun W hW => ?_) ?_; rotate_left; · (go_simp; try with_reducible rfl)); simp only [Act.put, puA, puZ, puS])); refine TkN.n ?_)
      clear h1 h2
      have hE0 := hE
      have hE := Lib.hid (Gr.refl wd)
      refine WalkN.three 1 4 5 (by kernel_rfl) ?_ ?_ ?_
      refine ⟨_, (by simp only [gtA, gtS, gtZ]; rfl), by rfl, fun K hK => ?_⟩
      go_simp
      refine (ofG_any ⟨⟨a1, a2, a3⟩, ⟨a4, a5, a6⟩⟩ wd).mono ?_
      rintro e u1 ⟨rfl, hg0⟩
      refine hK.out _ _ (hE.out.next hg0) ?_
      clear hK
      unfold tV
      dsimp only
      have hE := Lib.hid (hE.out.next hg0)
      clear hg0
      refine WalkN.three 3 4 5 (by kernel_rfl) ?_ ?_ ?_
      refine ⟨_, (by simp only [gtA, gtS, gtZ]; rfl), by rfl, fun K hK => ?_⟩
      go_simp
      refine (ofG_any ⟨⟨b1, b2, b3⟩, ⟨b4, b5, b6⟩⟩ u1).mono ?_
      rintro e u2 ⟨rfl, hg1⟩
      refine hK.out _ _ (hE.out.next hg1) ?_
      clear hK
      unfold tV
      dsimp only
      have hE := Lib.hid (hE.out.next hg1)
      clear hg1
      refine WalkN.two 4 5 (by kernel_rfl) ?_ ?_
      refine ⟨_, (by simp only [gtA, gtS, gtZ]; rfl), by rfl, fun K hK => ?_⟩
      go_simp
      refine hK.out _ _ (hE.out.alloc (.cells zr6 195)) ?_
      clear hK
      have hx2 := Ext.alloc u2 (.cells zr6 195)
      have hA0 := Blk.made u2 zr6 195
      have hps2 := hE.out.below.size
      have hE := Lib.hid (hE.out.alloc (.cells zr6 195))
      clear hx2
      unfold zr6 at *
      generalize u2.alloc (.cells #[.string ⟨#[]⟩, .string ⟨#[]⟩, .string ⟨#[]⟩, .string ⟨#[]⟩, .string ⟨#[]⟩, .string ⟨#[]⟩] 195) = u3 at *
      generalize hpe2 : u2.heap.size = pa at *
      have hpa := Lib.hid (show wd.heap.size ≤ pa from by first | exact Nat.le_of_eq hpe2 | exact hps2)
      clear hpe2 hps2
      have hA := Lib.hid hA0
      clear hA0
      refine WalkN.one 5 (by kernel_rfl) ?_
      refine ⟨_, (by simp only [gtA, gtS, gtZ]; rfl), by rfl, fun K hK => ?_⟩
      go_simp
      refine hK.out _ _ (hE.out.alloc (.cells zr6 195)) ?_
      clear hK
      have hx3 := Ext.alloc u3 (.cells zr6 195)
      have hne := Lib.hid (show pa ≠ u3.heap.size from Nat.ne_of_lt hA.out.lt)
      have hA := Lib.hid (hA.out.below hx3)
      have hB0 := Blk.made u3 zr6 195
      have hps3 := hE.out.below.size
      have hE := Lib.hid (hE.out.alloc (.cells zr6 195))
      clear hx3
      unfold zr6 at *
      generalize u3.alloc (.cells #[.string ⟨#[]⟩, .string ⟨#[]⟩, .string ⟨#[]⟩, .string ⟨#[]⟩, .string ⟨#[]⟩, .string ⟨#[]⟩] 195) = u4 at *
      generalize hpe3 : u3.heap.size = pb at *
      have hpb := Lib.hid (show wd.heap.size ≤ pb from by first | exact Nat.le_of_eq hpe3 | exact hps3)
      clear hpe3 hps3
      have hB := Lib.hid hB0
      clear hB0
      rotate_left
      refine ⟨_, (by simp only [gtA, gtS, gtZ]; rfl), by rfl, fun K hK => ?_⟩
      go_simp
      refine hK.out _ _ (hE.out.alloc (.cells zr6 195)) ?_
      clear hK
      have hx2 := Ext.alloc u2 (.cells zr6 195)
      have hB0 := Blk.made u2 zr6 195
      have hps2 := hE.out.below.size
      have hE := Lib.hid (hE.out.alloc (.cells zr6 195))
      clear hx2
      unfold zr6 at *
      generalize u2.alloc (.cells #[.string ⟨#[]⟩, .string ⟨#[]⟩, .string ⟨#[]⟩, .string ⟨#[]⟩, .string ⟨#[]⟩, .string ⟨#[]⟩] 195) = u3 at *
      generalize hpe2 : u2.heap.size = pb at *
      have hpb := Lib.hid (show wd.heap.size ≤ pb from by first | exact Nat.le_of_eq hpe2 | exact hps2)
      clear hpe2 hps2
      have hB := Lib.hid hB0
      clear hB0
      refine WalkN.one 4 (by kernel_rfl) ?_
      refine ⟨_, (by simp only [gtA, gtS, gtZ]; rfl), by rfl, fun K hK => ?_⟩
      go_simp
      refine hK.out _ _ (hE.out.alloc (.cells zr6 195)) ?_
      clear hK
      have hx3 := Ext.alloc u3 (.cells zr6 195)
      have hne := Lib.hid (show u3.heap.size ≠ pb from fun e => Nat.lt_irrefl _ (e ▸ hB.out.lt))
      have hB := Lib.hid (hB.out.below hx3)
      have hA0 := Blk.made u3 zr6 195
      have hps3 := hE.out.below.size
      have hE := Lib.hid (hE.out.alloc (.cells zr6 195))
      clear hx3
      unfold zr6 at *
      generalize u3.alloc (.cells #[.string ⟨#[]⟩, .string ⟨#[]⟩, .string ⟨#[]⟩, .string ⟨#[]⟩, .string ⟨#[]⟩, .string ⟨#[]⟩] 195) = u4 at *
      generalize hpe3 : u3.heap.size = pa at *
      have hpa := Lib.hid (show wd.heap.size ≤ pa from by first | exact Nat.le_of_eq hpe3 | exact hps3)
      clear hpe3 hps3
      have hA := Lib.hid hA0
      clear hA0
      rotate_left
      refine ⟨_, (by simp only [gtA, gtS, gtZ]; rfl), by rfl, fun K hK => ?_⟩
      go_simp
      refine hK.out _ _ (hE.out.alloc (.cells zr6 195)) ?_
      clear hK
      have hx1 := Ext.alloc u1 (.cells zr6 195)
      have hA0 := Blk.made u1 zr6 195
      have hps1 := hE.out.below.size
      have hE := Lib.hid (hE.out.alloc (.cells zr6 195))
      clear hx1
      unfold zr6 at *
      generalize u1.alloc (.cells #[.string ⟨#[]⟩, .string ⟨#[]⟩, .string ⟨#[]⟩, .string ⟨#[]⟩, .string ⟨#[]⟩, .string ⟨#[]⟩] 195) = u2 at *
      generalize hpe1 : u1.heap.size = pa at *
      have hpa := Lib.hid (show wd.heap.size ≤ pa from by first | exact Nat.le_of_eq hpe1 | exact hps1)
      clear hpe1 hps1
      have hA := Lib.hid hA0
      clear hA0
      refine WalkN.two 3 5 (by kernel_rfl) ?_ ?_
      refine ⟨_, (by simp only [gtA, gtS, gtZ]; rfl), by rfl, fun K hK => ?_⟩
      go_simp
      refine (ofG_any ⟨⟨b1, b2, b3⟩, ⟨b4, b5, b6⟩⟩ u2).mono ?_
      rintro e u3 ⟨rfl, hg2⟩
      refine hK.out _ _ (hE.out.next hg2) ?_
      clear hK
      unfold tV
      dsimp only
      have hA := Lib.hid (hA.out.below hg2.below)
      have hE := Lib.hid (hE.out.next hg2)
      clear hg2
      refine WalkN.one 5 (by kernel_rfl) ?_
      refine ⟨_, (by simp only [gtA, gtS, gtZ]; rfl), by rfl, fun K hK => ?_⟩
      go_simp
      refine hK.out _ _ (hE.out.alloc (.cells zr6 195)) ?_
      clear hK
      have hx3 := Ext.alloc u3 (.cells zr6 195)
      have hne := Lib.hid (show pa ≠ u3.heap.size from Nat.ne_of_lt hA.out.lt)
      have hA := Lib.hid (hA.out.below hx3)
      have hB0 := Blk.made u3 zr6 195
      have hps3 := hE.out.below.size
      have hE := Lib.hid (hE.out.alloc (.cells zr6 195))
      clear hx3
      unfold zr6 at *
      generalize u3.alloc (.cells #[.string ⟨#[]⟩, .string ⟨#[]⟩, .string ⟨#[]⟩, .string ⟨#[]⟩, .string ⟨#[]⟩, .string ⟨#[]⟩] 195) = u4 at *
      generalize hpe3 : u3.heap.size = pb at *
      have hpb := Lib.hid (show wd.heap.size ≤ pb from by first | exact Nat.le_of_eq hpe3 | exact hps3)
      clear hpe3 hps3
      have hB := Lib.hid hB0
      clear hB0
      rotate_left
      refine ⟨_, (by simp only [gtA, gtS, gtZ]; rfl), by rfl, fun K hK => ?_⟩
      go_simp
      refine hK.out _ _ (hE.out.alloc (.cells zr6 195)) ?_
      clear hK
      have hx2 := Ext.alloc u2 (.cells zr6 195)
      have hne := Lib.hid (show pa ≠ u2.heap.size from Nat.ne_of_lt hA.out.lt)
      have hA := Lib.hid (hA.out.below hx2)
      have hB0 := Blk.made u2 zr6 195
      have hps2 := hE.out.below.size
      have hE := Lib.hid (hE.out.alloc (.cells zr6 195))
      clear hx2
      unfold zr6 at *
      generalize u2.alloc (.cells #[.string ⟨#[]⟩, .string ⟨#[]⟩, .string ⟨#[]⟩, .string ⟨#[]⟩, .string ⟨#[]⟩, .string ⟨#[]⟩] 195) = u3 at *
      generalize hpe2 : u2.heap.size = pb at *
      have hpb := Lib.hid (show wd.heap.size ≤ pb from by first | exact Nat.le_of_eq hpe2 | exact hps2)
      clear hpe2 hps2
      have hB := Lib.hid hB0
      clear hB0
      refine WalkN.one 3 (by kernel_rfl) ?_
      refine ⟨_, (by simp only [gtA, gtS, gtZ]; rfl), by rfl, fun K hK => ?_⟩
      go_simp
      refine (ofG_any ⟨⟨b1, b2, b3⟩, ⟨b4, b5, b6⟩⟩ u3).mono ?_
      rintro e u4 ⟨rfl, hg3⟩
      refine hK.out _ _ (hE.out.next hg3) ?_
      clear hK
      unfold tV
      dsimp only
      have hA := Lib.hid (hA.out.below hg3.below)
      have hB := Lib.hid (hB.out.below hg3.below)
      have hE := Lib.hid (hE.out.next hg3)
      clear hg3
      rotate_left
      refine ⟨_, (by simp only [gtA, gtS, gtZ]; rfl), by rfl, fun K hK => ?_⟩
      go_simp
      refine hK.out _ _ (hE.out.alloc (.cells zr6 195)) ?_
      clear hK
      have hx1 := Ext.alloc u1 (.cells zr6 195)
      have hB0 := Blk.made u1 zr6 195
      have hps1 := hE.out.below.size
      have hE := Lib.hid (hE.out.alloc (.cells zr6 195))
      clear hx1
      unfold zr6 at *
      generalize u1.alloc (.cells #[.string ⟨#[]⟩, .string ⟨#[]⟩, .string ⟨#[]⟩, .string ⟨#[]⟩, .string ⟨#[]⟩, .string ⟨#[]⟩] 195) = u2 at *
      generalize hpe1 : u1.heap.size = pb at *
      have hpb := Lib.hid (show wd.heap.size ≤ pb from by first | exact Nat.le_of_eq hpe1 | exact hps1)
      clear hpe1 hps1
      have hB := Lib.hid hB0
      clear hB0
      refine WalkN.two 3 4 (by kernel_rfl) ?_ ?_
      refine ⟨_, (by simp only [gtA, gtS, gtZ]; rfl), by rfl, fun K hK => ?_⟩
      go_simp
      refine (ofG_any ⟨⟨b1, b2, b3⟩, ⟨b4, b5, b6⟩⟩ u2).mono ?_
      rintro e u3 ⟨rfl, hg2⟩
      refine hK.out _ _ (hE.out.next hg2) ?_
      clear hK
      unfold tV
      dsimp only
      have hB := Lib.hid (hB.out.below hg2.below)
      have hE := Lib.hid (hE.out.next hg2)
      clear hg2
      refine WalkN.one 4 (by kernel_rfl) ?_
      refine ⟨_, (by simp only [gtA, gtS, gtZ]; rfl), by rfl, fun K hK => ?_⟩
      go_simp
      refine hK.out _ _ (hE.out.alloc (.cells zr6 195)) ?_
      clear hK
      have hx3 := Ext.alloc u3 (.cells zr6 195)
      have hne := Lib.hid (show u3.heap.size ≠ pb from fun e => Nat.lt_irrefl _ (e ▸ hB.out.lt))
      have hB := Lib.hid (hB.out.below hx3)
      have hA0 := Blk.made u3 zr6 195
      have hps3 := hE.out.below.size
      have hE := Lib.hid (hE.out.alloc (.cells zr6 195))
      clear hx3
      unfold zr6 at *
      generalize u3.alloc (.cells #[.string ⟨#[]⟩, .string ⟨#[]⟩, .string ⟨#[]⟩, .string ⟨#[]⟩, .string ⟨#[]⟩, .string ⟨#[]⟩] 195) = u4 at *
      generalize hpe3 : u3.heap.size = pa at *
      have hpa := Lib.hid (show wd.heap.size ≤ pa from by first | exact Nat.le_of_eq hpe3 | exact hps3)
      clear hpe3 hps3
      have hA := Lib.hid hA0
      clear hA0
      rotate_left
      refine ⟨_, (by simp only [gtA, gtS, gtZ]; rfl), by rfl, fun K hK => ?_⟩
      go_simp
      refine hK.out _ _ (hE.out.alloc (.cells zr6 195)) ?_
      clear hK
      have hx2 := Ext.alloc u2 (.cells zr6 195)
      have hne := Lib.hid (show u2.heap.size ≠ pb from fun e => Nat.lt_irrefl _ (e ▸ hB.out.lt))
      have hB := Lib.hid (hB.out.below hx2)
      have hA0 := Blk.made u2 zr6 195
      have hps2 := hE.out.below.size
      have hE := Lib.hid (hE.out.alloc (.cells zr6 195))
      clear hx2
      unfold zr6 at *
      generalize u2.alloc (.cells #[.string ⟨#[]⟩, .string ⟨#[]⟩, .string ⟨#[]⟩, .string ⟨#[]⟩, .string ⟨#[]⟩, .string ⟨#[]⟩] 195) = u3 at *
      generalize hpe2 : u2.heap.size = pa at *
      have hpa := Lib.hid (show wd.heap.size ≤ pa from by first | exact Nat.le_of_eq hpe2 | exact hps2)
      clear hpe2 hps2
      have hA := Lib.hid hA0
      clear hA0
      refine WalkN.one 3 (by kernel_rfl) ?_
      refine ⟨_, (by simp only [gtA, gtS, gtZ]; rfl), by rfl, fun K hK => ?_⟩
      go_simp
      refine (ofG_any ⟨⟨b1, b2, b3⟩, ⟨b4, b5, b6⟩⟩ u3).mono ?_
      rintro e u4 ⟨rfl, hg3⟩
      refine hK.out _ _ (hE.out.next hg3) ?_
      clear hK
      unfold tV
      dsimp only
      have hA := Lib.hid (hA.out.below hg3.below)
      have hB := Lib.hid (hB.out.below hg3.below)
      have hE := Lib.hid (hE.out.next hg3)
      clear hg3
      rotate_left
      refine ⟨_, (by simp only [gtA, gtS, gtZ]; rfl), by rfl, fun K hK => ?_⟩
      go_simp
      refine hK.out _ _ (hE.out.alloc (.cells zr6 195)) ?_
      clear hK
      have hx0 := Ext.alloc wd (.cells zr6 195)
      have hA0 := Blk.made wd zr6 195
      have hps0 := hE.out.below.size
      have hE := Lib.hid (hE.out.alloc (.cells zr6 195))
      clear hx0
      unfold zr6 at *
      generalize wd.alloc (.cells #[.string ⟨#[]⟩, .string ⟨#[]⟩, .string ⟨#[]⟩, .string ⟨#[]⟩, .string ⟨#[]⟩, .string ⟨#[]⟩] 195) = u1 at *
      generalize hpe0 : wd.heap.size = pa at *
      have hpa := Lib.hid (show wd.heap.size ≤ pa from by first | exact Nat.le_of_eq hpe0 | exact hps0)
      clear hpe0 hps0
      have hA := Lib.hid hA0
      clear hA0
      refine WalkN.two 1 5 (by kernel_rfl) ?_ ?_
      refine ⟨_, (by simp only [gtA, gtS, gtZ]; rfl), by rfl, fun K hK => ?_⟩
      go_simp
      refine (ofG_any ⟨⟨a1, a2, a3⟩, ⟨a4, a5, a6⟩⟩ u1).mono ?_
      rintro e u2 ⟨rfl, hg1⟩
      refine hK.out _ _ (hE.out.next hg1) ?_
      clear hK
      unfold tV
      dsimp only
      have hA := Lib.hid (hA.out.below hg1.below)
      have hE := Lib.hid (hE.out.next hg1)
      clear hg1
      refine WalkN.two 3 5 (by kernel_rfl) ?_ ?_
      refine ⟨_, (by simp only [gtA, gtS, gtZ]; rfl), by rfl, fun K hK => ?_⟩
      go_simp
      refine (ofG_any ⟨⟨b1, b2, b3⟩, ⟨b4, b5, b6⟩⟩ u2).mono ?_
      rintro e u3 ⟨rfl, hg2⟩
      refine hK.out _ _ (hE.out.next hg2) ?_
      clear hK
      unfold tV
      dsimp only
      have hA := Lib.hid (hA.out.below hg2.below)
      have hE := Lib.hid (hE.out.next hg2)
      clear hg2
      refine WalkN.one 5 (by kernel_rfl) ?_
      refine ⟨_, (by simp only [gtA, gtS, gtZ]; rfl), by rfl, fun K hK => ?_⟩
      go_simp
      refine hK.out _ _ (hE.out.alloc (.cells zr6 195)) ?_
      clear hK
      have hx3 := Ext.alloc u3 (.cells zr6 195)
      have hne := Lib.hid (show pa ≠ u3.heap.size from Nat.ne_of_lt hA.out.lt)
      have hA := Lib.hid (hA.out.below hx3)
      have hB0 := Blk.made u3 zr6 195
      have hps3 := hE.out.below.size
      have hE := Lib.hid (hE.out.alloc (.cells zr6 195))
      clear hx3
      unfold zr6 at *
      generalize u3.alloc (.cells #[.string ⟨#[]⟩, .string ⟨#[]⟩, .string ⟨#[]⟩, .string ⟨#[]⟩, .string ⟨#[]⟩, .string ⟨#[]⟩] 195) = u4 at *
      generalize hpe3 : u3.heap.size = pb at *
      have hpb := Lib.hid (show wd.heap.size ≤ pb from by first | exact Nat.le_of_eq hpe3 | exact hps3)
      clear hpe3 hps3
      have hB := Lib.hid hB0
      clear hB0
      rotate_left
      refine ⟨_, (by simp only [gtA, gtS, gtZ]; rfl), by rfl, fun K hK => ?_⟩
      go_simp
      refine hK.out _ _ (hE.out.alloc (.cells zr6 195)) ?_
      clear hK
      have hx2 := Ext.alloc u2 (.cells zr6 195)
      have hne := Lib.hid (show pa ≠ u2.heap.size from Nat.ne_of_lt hA.out.lt)
      have hA := Lib.hid (hA.out.below hx2)
      have hB0 := Blk.made u2 zr6 195
      have hps2 := hE.out.below.size
      have hE := Lib.hid (hE.out.alloc (.cells zr6 195))
      clear hx2
      unfold zr6 at *
      generalize u2.alloc (.cells #[.string ⟨#[]⟩, .string ⟨#[]⟩, .string ⟨#[]⟩, .string ⟨#[]⟩, .string ⟨#[]⟩, .string ⟨#[]⟩] 195) = u3 at *
      generalize hpe2 : u2.heap.size = pb at *
      have hpb := Lib.hid (show wd.heap.size ≤ pb from by first | exact Nat.le_of_eq hpe2 | exact hps2)
      clear hpe2 hps2
      have hB := Lib.hid hB0
      clear hB0
      refine WalkN.one 3 (by kernel_rfl) ?_
      refine ⟨_, (by simp only [gtA, gtS, gtZ]; rfl), by rfl, fun K hK => ?_⟩
      go_simp
      refine (ofG_any ⟨⟨b1, b2, b3⟩, ⟨b4, b5, b6⟩⟩ u3).mono ?_
      rintro e u4 ⟨rfl, hg3⟩
      refine hK.out _ _ (hE.out.next hg3) ?_
      clear hK
      unfold tV
      dsimp only
      have hA := Lib.hid (hA.out.below hg3.below)
      have hB := Lib.hid (hB.out.below hg3.below)
      have hE := Lib.hid (hE.out.next hg3)
      clear hg3
      rotate_left
      refine ⟨_, (by simp only [gtA, gtS, gtZ]; rfl), by rfl, fun K hK => ?_⟩
      go_simp
      refine hK.out _ _ (hE.out.alloc (.cells zr6 195)) ?_
      clear hK
      have hx1 := Ext.alloc u1 (.cells zr6 195)
      have hne := Lib.hid (show pa ≠ u1.heap.size from Nat.ne_of_lt hA.out.lt)
      have hA := Lib.hid (hA.out.below hx1)
      have hB0 := Blk.made u1 zr6 195
      have hps1 := hE.out.below.size
      have hE := Lib.hid (hE.out.alloc (.cells zr6 195))
      clear hx1
      unfold zr6 at *
      generalize u1.alloc (.cells #[.string ⟨#[]⟩, .string ⟨#[]⟩, .string ⟨#[]⟩, .string ⟨#[]⟩, .string ⟨#[]⟩, .string ⟨#[]⟩] 195) = u2 at *
      generalize hpe1 : u1.heap.size = pb at *
      have hpb := Lib.hid (show wd.heap.size ≤ pb from by first | exact Nat.le_of_eq hpe1 | exact hps1)
      clear hpe1 hps1
      have hB := Lib.hid hB0
      clear hB0
      refine WalkN.one 1 (by kernel_rfl) ?_
      refine ⟨_, (by simp only [gtA, gtS, gtZ]; rfl), by rfl, fun K hK => ?_⟩
      go_simp
      refine (ofG_any ⟨⟨a1, a2, a3⟩, ⟨a4, a5, a6⟩⟩ u2).mono ?_
      rintro e u3 ⟨rfl, hg2⟩
      refine hK.out _ _ (hE.out.next hg2) ?_
      clear hK
      unfold tV
      dsimp only
      have hA := Lib.hid (hA.out.below hg2.below)
      have hB := Lib.hid (hB.out.below hg2.below)
      have hE := Lib.hid (hE.out.next hg2)
      clear hg2
      refine WalkN.one 3 (by kernel_rfl) ?_
      refine ⟨_, (by simp only [gtA, gtS, gtZ]; rfl), by rfl, fun K hK => ?_⟩
      go_simp
      refine (ofG_any ⟨⟨b1, b2, b3⟩, ⟨b4, b5, b6⟩⟩ u3).mono ?_
      rintro e u4 ⟨rfl, hg3⟩
      refine hK.out _ _ (hE.out.next hg3) ?_
      clear hK
      unfold tV
      dsimp only
      have hA := Lib.hid (hA.out.below hg3.below)
      have hB := Lib.hid (hB.out.below hg3.below)
      have hE := Lib.hid (hE.out.next hg3)
      clear hg3
      rotate_left
      refine ⟨_, (by simp only [gtA, gtS, gtZ]; rfl), by rfl, fun K hK => ?_⟩
      go_simp
      refine hK.out _ _ (hE.out.alloc (.cells zr6 195)) ?_
      clear hK
      have hx0 := Ext.alloc wd (.cells zr6 195)
      have hB0 := Blk.made wd zr6 195
      have hps0 := hE.out.below.size
      have hE := Lib.hid (hE.out.alloc (.cells zr6 195))
      clear hx0
      unfold zr6 at *
      generalize wd.alloc (.cells #[.string ⟨#[]⟩, .string ⟨#[]⟩, .string ⟨#[]⟩, .string ⟨#[]⟩, .string ⟨#[]⟩, .string ⟨#[]⟩] 195) = u1 at *
      generalize hpe0 : wd.heap.size = pb at *
      have hpb := Lib.hid (show wd.heap.size ≤ pb from by first | exact Nat.le_of_eq hpe0 | exact hps0)
      clear hpe0 hps0
      have hB := Lib.hid hB0
      clear hB0
      refine WalkN.two 1 4 (by kernel_rfl) ?_ ?_
      refine ⟨_, (by simp only [gtA, gtS, gtZ]; rfl), by rfl, fun K hK => ?_⟩
      go_simp
      refine (ofG_any ⟨⟨a1, a2, a3⟩, ⟨a4, a5, a6⟩⟩ u1).mono ?_
      rintro e u2 ⟨rfl, hg1⟩
      refine hK.out _ _ (hE.out.next hg1) ?_
      clear hK
      unfold tV
      dsimp only
      have hB := Lib.hid (hB.out.below hg1.below)
      have hE := Lib.hid (hE.out.next hg1)
      clear hg1
      refine WalkN.two 3 4 (by kernel_rfl) ?_ ?_
      refine ⟨_, (by simp only [gtA, gtS, gtZ]; rfl), by rfl, fun K hK => ?_⟩
      go_simp
      refine (ofG_any ⟨⟨b1, b2, b3⟩, ⟨b4, b5, b6⟩⟩ u2).mono ?_
      rintro e u3 ⟨rfl, hg2⟩
      refine hK.out _ _ (hE.out.next hg2) ?_
      clear hK
      unfold tV
      dsimp only
      have hB := Lib.hid (hB.out.below hg2.below)
      have hE := Lib.hid (hE.out.next hg2)
      clear hg2
      refine WalkN.one 4 (by kernel_rfl) ?_
      refine ⟨_, (by simp only [gtA, gtS, gtZ]; rfl), by rfl, fun K hK => ?_⟩
      go_simp
      refine hK.out _ _ (hE.out.alloc (.cells zr6 195)) ?_
      clear hK
      have hx3 := Ext.alloc u3 (.cells zr6 195)
      have hne := Lib.hid (show u3.heap.size ≠ pb from fun e => Nat.lt_irrefl _ (e ▸ hB.out.lt))
      have hB := Lib.hid (hB.out.below hx3)
      have hA0 := Blk.made u3 zr6 195
      have hps3 := hE.out.below.size
      have hE := Lib.hid (hE.out.alloc (.cells zr6 195))
      clear hx3
      unfold zr6 at *
      generalize u3.alloc (.cells #[.string ⟨#[]⟩, .string ⟨#[]⟩, .string ⟨#[]⟩, .string ⟨#[]⟩, .string ⟨#[]⟩, .string ⟨#[]⟩] 195) = u4 at *
      generalize hpe3 : u3.heap.size = pa at *
      have hpa := Lib.hid (show wd.heap.size ≤ pa from by first | exact Nat.le_of_eq hpe3 | exact hps3)
      clear hpe3 hps3
      have hA := Lib.hid hA0
      clear hA0
      rotate_left
      refine ⟨_, (by simp only [gtA, gtS, gtZ]; rfl), by rfl, fun K hK => ?_⟩
      go_simp
      refine hK.out _ _ (hE.out.alloc (.cells zr6 195)) ?_
      clear hK
      have hx2 := Ext.alloc u2 (.cells zr6 195)
      have hne := Lib.hid (show u2.heap.size ≠ pb from fun e => Nat.lt_irrefl _ (e ▸ hB.out.lt))
      have hB := Lib.hid (hB.out.below hx2)
      have hA0 := Blk.made u2 zr6 195
      have hps2 := hE.out.below.size
      have hE := Lib.hid (hE.out.alloc (.cells zr6 195))
      clear hx2
      unfold zr6 at *
      generalize u2.alloc (.cells #[.string ⟨#[]⟩, .string ⟨#[]⟩, .string ⟨#[]⟩, .string ⟨#[]⟩, .string ⟨#[]⟩, .string ⟨#[]⟩] 195) = u3 at *
      generalize hpe2 : u2.heap.size = pa at *
      have hpa := Lib.hid (show wd.heap.size ≤ pa from by first | exact Nat.le_of_eq hpe2 | exact hps2)
      clear hpe2 hps2
      have hA := Lib.hid hA0
      clear hA0
      refine WalkN.one 3 (by kernel_rfl) ?_
      refine ⟨_, (by simp only [gtA, gtS, gtZ]; rfl), by rfl, fun K hK => ?_⟩
      go_simp
      refine (ofG_any ⟨⟨b1, b2, b3⟩, ⟨b4, b5, b6⟩⟩ u3).mono ?_
      rintro e u4 ⟨rfl, hg3⟩
      refine hK.out _ _ (hE.out.next hg3) ?_
      clear hK
      unfold tV
      dsimp only
      have hA := Lib.hid (hA.out.below hg3.below)
      have hB := Lib.hid (hB.out.below hg3.below)
      have hE := Lib.hid (hE.out.next hg3)
      clear hg3
      rotate_left
      refine ⟨_, (by simp only [gtA, gtS, gtZ]; rfl), by rfl, fun K hK => ?_⟩
      go_simp
      refine hK.out _ _ (hE.out.alloc (.cells zr6 195)) ?_
      clear hK
      have hx1 := Ext.alloc u1 (.cells zr6 195)
      have hne := Lib.hid (show u1.heap.size ≠ pb from fun e => Nat.lt_irrefl _ (e ▸ hB.out.lt))
      have hB := Lib.hid (hB.out.below hx1)
      have hA0 := Blk.made u1 zr6 195
      have hps1 := hE.out.below.size
      have hE := Lib.hid (hE.out.alloc (.cells zr6 195))
      clear hx1
      unfold zr6 at *
      generalize u1.alloc (.cells #[.string ⟨#[]⟩, .string ⟨#[]⟩, .string ⟨#[]⟩, .string ⟨#[]⟩, .string ⟨#[]⟩, .string ⟨#[]⟩] 195) = u2 at *
      generalize hpe1 : u1.heap.size = pa at *
      have hpa := Lib.hid (show wd.heap.size ≤ pa from by first | exact Nat.le_of_eq hpe1 | exact hps1)
      clear hpe1 hps1
      have hA := Lib.hid hA0
      clear hA0
      refine WalkN.one 1 (by kernel_rfl) ?_
      refine ⟨_, (by simp only [gtA, gtS, gtZ]; rfl), by rfl, fun K hK => ?_⟩
      go_simp
      refine (ofG_any ⟨⟨a1, a2, a3⟩, ⟨a4, a5, a6⟩⟩ u2).mono ?_
      rintro e u3 ⟨rfl, hg2⟩
      refine hK.out _ _ (hE.out.next hg2) ?_
      clear hK
      unfold tV
      dsimp only
      have hA := Lib.hid (hA.out.below hg2.below)
      have hB := Lib.hid (hB.out.below hg2.below)
      have hE := Lib.hid (hE.out.next hg2)
      clear hg2
      refine WalkN.one 3 (by kernel_rfl) ?_
      refine ⟨_, (by simp only [gtA, gtS, gtZ]; rfl), by rfl, fun K hK => ?_⟩
      go_simp
      refine (ofG_any ⟨⟨b1, b2, b3⟩, ⟨b4, b5, b6⟩⟩ u3).mono ?_
      rintro e u4 ⟨rfl, hg3⟩
      refine hK.out _ _ (hE.out.next hg3) ?_
      clear hK
      unfold tV
      dsimp only
      have hA := Lib.hid (hA.out.below hg3.below)
      have hB := Lib.hid (hB.out.below hg3.below)
      have hE := Lib.hid (hE.out.next hg3)
      clear hg3
      rotate_left
      all_goals
        refine WalkN.one 6 (by kernel_rfl) ?_
        refine ⟨_, (by simp only [gtA, gtS, gtZ]; rfl), by rfl, fun K hK => ?_⟩
        have hbf := hA.out.cells
        have hbz := hA.out.free
        go_simp
        clear hbf hbz
        refine hK.out _ _ (gr_set6 hE.out hpa.out _ _ _ _ _ _) ?_
        clear hK
        have hE := Lib.hid (gr_set6 hE.out hpa.out (.string a1) (.string a2) (.string a3) (.string a4) (.string a5) (.string a6))
        have hA0 := hA.out.put6 (.string a1) (.string a2) (.string a3) (.string a4) (.string a5) (.string a6)
        have hB0 := hB.out.away6 (B' := pa) (Ne.symm hne.out) (.string a1) (.string a2) (.string a3) (.string a4) (.string a5) (.string a6)
        generalize ((((((u4.setCell ⟨pa, 0, none⟩ (.string a1)).setCell ⟨pa, 1, none⟩ (.string a2)).setCell ⟨pa, 2, none⟩ (.string a3)).setCell ⟨pa, 3, none⟩ (.string a4)).setCell ⟨pa, 4, none⟩ (.string a5)).setCell ⟨pa, 5, none⟩ (.string a6)) = u5 at *
        have hA := Lib.hid hA0
        have hB := Lib.hid hB0
        clear hA0 hB0
        refine WalkN.one 7 (by kernel_rfl) ?_
        refine ⟨_, (by simp only [gtA, gtS, gtZ]; rfl), by rfl, fun K hK => ?_⟩
        have hbf := hB.out.cells
        have hbz := hB.out.free
        go_simp
        clear hbf hbz
        refine hK.out _ _ (gr_set6 hE.out hpb.out _ _ _ _ _ _) ?_
        clear hK
        have hE := Lib.hid (gr_set6 hE.out hpb.out (.string b1) (.string b2) (.string b3) (.string b4) (.string b5) (.string b6))
        have hB0 := hB.out.put6 (.string b1) (.string b2) (.string b3) (.string b4) (.string b5) (.string b6)
        have hA0 := hA.out.away6 (B' := pb) hne.out (.string b1) (.string b2) (.string b3) (.string b4) (.string b5) (.string b6)
        generalize ((((((u5.setCell ⟨pb, 0, none⟩ (.string b1)).setCell ⟨pb, 1, none⟩ (.string b2)).setCell ⟨pb, 2, none⟩ (.string b3)).setCell ⟨pb, 3, none⟩ (.string b4)).setCell ⟨pb, 4, none⟩ (.string b5)).setCell ⟨pb, 5, none⟩ (.string b6)) = u6 at *
        have hA := Lib.hid hA0
        have hB := Lib.hid hB0
        clear hA0 hB0
        refine WalkN.done (by kernel_rfl) ?_
        exact ⟨rfl, pa, pb, rfl, hA.out, hB.out, hE0.out.next hE.out⟩
    · rintro a' W ⟨x, y, rfl, hA, hB, hG⟩
      have HA := Lib.hid hA
      have HB := Lib.hid hB
      have HG := Lib.hid hG
      clear hA hB hG HG1 HA1 HB1
      go_wp2_with fail
      go_loopw [7, 8, 16] (fun _ _ iv wr => ∃ i : Nat, i ≤ 6 ∧ iv = .int .i64 i ∧ (∀ j, j < i → cmpS (ta j) (tb j) = 0) ∧ Blk wr x #[.string a1, .string a2, .string a3, .string a4, .string a5, .string a6] 195 ∧ Blk wr y #[.string b1, .string b2, .string b3, .string b4, .string b5, .string b6] 195 ∧ Gr w wr) (fun _ _ iv _ => 6 - (intOf iv).toNat)
      case atStart => exact ⟨0, Nat.zero_le _, rfl, (fun j h => absurd h (Nat.not_lt_zero j)), HA.out, HB.out, HG.out⟩
      case round =>
        obtain ⟨i, hi, rfl, hall, hA, hB, hG⟩ := hrel
        have HALL := Lib.hid hall
        have RA := Lib.hid hA
        have RB := Lib.hid hB
        have RG := Lib.hid hG
        clear HA HB HG hall hA hB hG
        by_cases hlt : i < 6
        · have HLT := Lib.hid hlt
          have hia := HTA.out i hlt
          have hib := HTB.out i hlt
          have hi6 : (i : Int) < 6 := by omega
          have hi0 : (0 : Int) ≤ (i : Int) := by omega
          have HFI := Lib.hid (HF.out i hlt HALL.out)
          have HNX := Lib.hid (show cmpS (ta i) (tb i) = 0 → ∀ j, j < i + 1 → cmpS (ta j) (tb j) = 0 from fun h0 j hj => by
            rcases Nat.lt_succ_iff_lt_or_eq.1 hj with h | rfl
            · exact HALL.out j h
            · exact h0)
          generalize ta i = sa at *
          generalize tb i = sb at *
          clear hlt hi
          go_wp2_with fail
          obtain ⟨wd, hwd⟩ : ∃ wd : World, wd = wr.drew := ⟨_, rfl⟩
          have DG := Lib.hid (show Gr w wd from by rw [hwd]; exact RG.out.drew)
          have DA := Lib.hid (show Blk wd x _ _ from by rw [hwd]; exact RA.out.drew)
          have DB := Lib.hid (show Blk wd y _ _ from by rw [hwd]; exact RB.out.drew)
          refine region_walkN (Ext wd) (by rw [← hwd]; exact Ext.refl _) (by kernel_rfl) (by kernel_rfl) (fun _ _ d _ _ h => by cases d <;> exact h) ?_
          rw [← hwd]
          clear hwd RA RB RG
          have h1 : ∀ W, Ext wd W → W.cell? ⟨x, i, none⟩ = some (.string sa) := fun W h => ((DA.out.below h).cells i).trans hia
          have h2 : ∀ W, Ext wd W → W.cell? ⟨y, i, none⟩ = some (.string sb) := fun W h => ((DB.out.below h).cells i).trans hib
          (refine WalkN.tk [0, 1, 2, 3, 4, 5] ?_; (iterate 6 ((refine TkN.c _ ?_ (by simp only [gtA, gtS, gtZ]; rfl) (by kernel_rfl) (by kernel_rfl) (by rfl) (fun W hW => ?_) ?_; rotate_left; · (go_simp; try with_reducible rfl)); simp only [Act.put, puA, puZ, puS])); refine TkN.n ?_)
          clear h1 h2 hia hib
          refine WalkN.one 6 (by kernel_rfl) ?_
          refine ⟨_, (by simp only [gtA, gtS, gtZ]; rfl), by rfl, fun K hK => ?_⟩
          go_simp
          refine (compareS_any sa sb wd).mono ?_
          rintro e w2 ⟨rfl, rfl⟩
          rw [cB_cmpS]
          refine hK.out _ _ (Ext.refl _) ?_
          clear hK
          ((refine WalkN.take 7 _ ?_ (by simp only [gtA, gtS, gtZ]; rfl) (by kernel_rfl) (by kernel_rfl) (by rfl) (fun W hW => ?_) ?_; rotate_left; · (go_simp; try with_reducible rfl)); simp only [Act.put, puA, puZ, puS])
          refine WalkN.done (by kernel_rfl) ?_
          by_cases hz : cmpS sa sb = 0
          · have HZ := Lib.hid (HNX.out hz)
            rw [hz]
            clear hz
            go_wp2_with fail
            go_roundw
            case rel => exact ⟨i + 1, HLT.out, by go_num, HZ.out, DA.out, DB.out, DG.out⟩
            case measure => have := HLT.out; simp [intOf]; omega
          · have HZ := Lib.hid (HFI.out hz)
            generalize cmpS sa sb = cz at *
            have hcz : (cz != 0) = true := by simpa using hz
            go_wp2_with fail
            go_ret
            exact ⟨by rw [HZ.out]; rfl, DG.out⟩
        · obtain rfl : i = 6 := by omega
          have HZ := Lib.hid (HN.out HALL.out)
          go_wp2_with fail
          go_ret
          exact ⟨by rw [HZ.out]; rfl, RG.out⟩
end Go.Proofs.YtjdigpfipmckhaaGreat
