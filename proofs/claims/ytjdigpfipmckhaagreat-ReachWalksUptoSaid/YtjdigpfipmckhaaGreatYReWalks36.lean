/- Lemmas for the claim, no condition. -/
import Derived.Test.YtjdigpfipmckhaaGreatYReWalks0
import Derived.Test.YtjdigpfipmckhaaGreatYReWalks33
import Derived.Test.YtjdigpfipmckhaaGreatYReWalks34
import Derived.Test.YtjdigpfipmckhaaGreatYReWalks35
import Derived.Test.YtjdigpfipmckhaaGreatYReWalks22
namespace Go.Proofs.YtjdigpfipmckhaaGreat
open Go Go.RowKit Go.Maps
structure WArg (w W : World) (bs bp : Nat) (ts : List TyS) (tv : Value) (l : List Tup) (lv : Value) (shut : List R2) (sv : Value) (p : P3) : Prop where
  X : Ext w W
  S : Blk W bs #[tv] 24
  P : Blk W bp #[.string p.t, .string p.i, .string p.r] 30
  Y : TysAt (· < W.heap.size) W ts tv
  L : Sl (· < W.heap.size) W 6 lv (tuCs l)
  V : Sl (· < W.heap.size) W 2 sv (shut.flatMap r2C)
theorem WArg.up {w W W' : World} {bs bp : Nat} {ts : List TyS} {tv : Value} {l : List Tup} {lv : Value} {shut : List R2} {sv : Value} {p : P3} (h : WArg w W bs bp ts tv l lv shut sv p) (hx : Ext W W') : WArg w W' bs bp ts tv l lv shut sv p :=
  ⟨Ext.trans h.X hx, h.S.below hx, h.P.below hx, h.Y.up hx, (h.L.same (Same.below hx)).mono fun _ hb => Nat.lt_of_lt_of_le hb hx.size, (h.V.same (Same.below hx)).mono fun _ hb => Nat.lt_of_lt_of_le hb hx.size⟩
set_option maxRecDepth 100000 in
set_option maxHeartbeats 6000000 in
theorem walksLaw_any (ts : List TyS) (tv : Value) (l : List Tup) (lv : Value) (shut : List R2) (sv : Value) (p : P3) (most : Int) (w : World) (h : TysAt (· < w.heap.size) w ts tv) (hbk : schBk ts ≤ 1048576) (hok : ∀ t ∈ ts, t.Ok)
    (hl : Sl (· < w.heap.size) w 6 lv (tuCs l)) (hlo : ∀ t ∈ l, t.Ok) (hsv : Sl (· < w.heap.size) w 2 sv (shut.flatMap r2C)) (hso : ∀ r ∈ shut, r.Ok) (hpo : p.Ok) :
    Calls Tryz.prog 3 #[.agg #[tv], lv, sv, pV p, .int .i64 most] w fun e w' => e = .returned (.bool true) ∧ Ext w w' := by
  have HBK := Lib.hid hbk
  have HOK := Lib.hid hok
  have HLO := Lib.hid hlo
  have HSO := Lib.hid hso
  have HPO := Lib.hid hpo
  obtain ⟨aot, ct, rfl, -, -, -⟩ := h.rows
  obtain ⟨aos, cs, rfl, -⟩ := Sl.rows r2C_length (by decide) hsv
  obtain ⟨wa, hwa⟩ : ∃ x, x = w.alloc (.cells #[.slice aot ts.length ct] 24) := ⟨_, rfl⟩
  obtain ⟨wb, hwb⟩ : ∃ x, x = wa.alloc (.cells #[.string p.t, .string p.i, .string p.r] 30) := ⟨_, rfl⟩
  have ea : wa.heap.size = w.heap.size + 1 := by rw [hwa]; simp
  have xa : Ext w wa := by rw [hwa]; exact Ext.alloc _ _
  have xb : Ext wa wb := by rw [hwb]; exact Ext.alloc _ _
  have xx := xa.trans xb
  have HW := Lib.hid (show WArg w wb w.heap.size (w.heap.size + 1) ts (.slice aot ts.length ct) l lv shut (.slice aos shut.length cs) p from
    ⟨xx, Blk.below (by rw [hwa]; exact Blk.made _ _ _) xb, by rw [hwb, ← ea]; exact Blk.made _ _ _, h.up xx, (hl.same (Same.below xx)).mono fun _ hb => Nat.lt_of_lt_of_le hb xx.size, (hsv.same (Same.below xx)).mono fun _ hb => Nat.lt_of_lt_of_le hb xx.size⟩)
  have HF := Lib.hid (fixed26_any wb)
  clear h hbk hok hl hlo hsv hso hpo ea xa xb xx
  subst hwa
  unfold pV
  go_enter Tryz.func3, Tryz.ntmps3
  go_wp2_with fail
  rw [← hwb]
  clear hwb
  refine HF.out.mono ?_
  rintro e w1 ⟨rfl, hb1⟩
  have HW1 := Lib.hid (HW.out.up hb1)
  have s1 := HW1.out.S.cells
  have HFE := Lib.hid (few05_any ts _ w1 HW1.out.Y HOK.out)
  clear hb1 HF HW
  cases hfe : fewT ts 200 with
  | false =>
    rw [hfe] at HFE
    go_wp2_with fail
    refine HFE.out.mono ?_
    rintro e w2 ⟨rfl, hb2⟩
    go_wp2_with fail
    go_ret
    exact ⟨rfl, Ext.trans HW1.out.X hb2⟩
  | true =>
    rw [hfe] at HFE
    clear hfe
    go_wp2_with fail
    refine HFE.out.mono ?_
    rintro e w2 ⟨rfl, hb2⟩
    have HW2 := Lib.hid (HW1.out.up hb2)
    have HFL := Lib.hid (few26_any lv l w2 HW2.out.L)
    clear hb2 HFE s1 HW1
    cases hfl : fewL l with
    | false =>
      rw [hfl] at HFL
      go_wp2_with fail
      refine HFL.out.mono ?_
      rintro e w3 ⟨rfl, hb3⟩
      go_wp2_with fail
      go_ret
      exact ⟨rfl, Ext.trans HW2.out.X hb3⟩
    | true =>
      rw [hfl] at HFL
      have HLL := Lib.hid (fewL_len hfl)
      clear hfl
      go_wp2_with fail
      refine HFL.out.mono ?_
      rintro e w3 ⟨rfl, hb3⟩
      have HW := Lib.hid (HW2.out.up hb3)
      clear hb3 HFL HW2
      by_cases hsl : (20 : Int) < (shut.length : Int)
      · go_wp2_with fail
        go_ret
        exact ⟨rfl, HW.out.X⟩
      have HSL := Lib.hid (show shut.length ≤ 20 from by omega)
      obtain ⟨T, hT⟩ := set_ex l
      have HST := Lib.hid hT
      clear hT
      by_cases hck : chk06 ts = 0
      rotate_left
      · have HCK := Lib.hid hck
        clear hck
        go_wp2_with fail
        obtain ⟨wd, hwd⟩ : ∃ wd, Hid (wd = w3.drew) := ⟨_, Lib.hid rfl⟩
        have hxd := Lib.hid (show Ext w3 wd from by rw [hwd.out]; exact Ext.drew _)
        apply Code.wp_mono (Q := JoinG (β := Nat) wd (fun ps fs ev => ps = [] ∧ fs = [] ∧ ev = .int .i64 (chk06 ts)) _) ?rest1 ?reg1
        case reg1 =>
          have hE := Lib.hid (Ext.refl wd)
          refine region_walkN (Ext wd) (by rw [← hwd.out]; exact Ext.refl _) (by kernel_rfl) (by kernel_rfl) (fun _ _ d _ _ h => by cases h.1) ?_
          rw [← hwd.out]
          have hs : ∀ W, Ext wd W → ∀ i, W.cell? ⟨w.heap.size, i, none⟩ = (#[.slice aot ts.length ct] : Array Value)[i]? := fun W h => ((HW.out.up hxd.out).S.below h).cells
          have hp : ∀ W, Ext wd W → ∀ i, W.cell? ⟨w.heap.size + 1, i, none⟩ = (#[.string p.t, .string p.i, .string p.r] : Array Value)[i]? := fun W h => ((HW.out.up hxd.out).P.below h).cells
          have HNB := Lib.hid (fun W (hW : Ext wd W) => bookT_any HST.out lv W ((HW.out.up hxd.out).up hW).L (by have := HLL.out; omega) HLO.out)
          have HWK := Lib.hid (fun W b (hW : Ext wd W) (hB : BookAt W b T) => walkB_any ts _ (bkV b) (.slice aos shut.length cs) p (.int .i64 most) W ((HW.out.up hxd.out).up hW).Y HOK.out HCK.out (by have := schB_bk ts; have := HBK.out; omega) (sz_sch HBK.out) (by have := (names_bk ts).1; have := HBK.out; omega) (by have := (names_bk ts).2; have := HBK.out; omega))
          unfold pV at HWK
          (refine WalkN.tk [0, 1, 4, 5, 6] ?_; (iterate 5 ((refine TkN.c _ ?_ (by simp only [gtA, gtS, gtZ]; rfl) (by kernel_rfl) (by kernel_rfl) (by rfl) (fun W hW => ?_) ?_; rotate_left; · (go_simp; try with_reducible rfl)); simp only [Act.put, puA, puZ, puS])); refine TkN.n ?_)
          clear hs hp
          refine WalkN.two 2 11 (by kernel_rfl) ?_ ?_
          refine ⟨_, (by simp only [gtA, gtS, gtZ]; rfl), by rfl, fun K hK => ?_⟩
          go_simp
          refine (HNB.out wd hE.out).mono ?_
          rintro e u1 ⟨bk, rfl, hB0, hx0⟩
          have hX0 := Ext.trans hE.out hx0
          refine hK.out _ _ hX0 ?_
          clear hK
          have HBK := Lib.hid hB0
          have hE := Lib.hid hX0
          clear hx0 hX0 hB0
          ((refine WalkN.take 3 _ ?_ (by simp only [gtA, gtS, gtZ]; rfl) (by kernel_rfl) (by kernel_rfl) (by rfl) (fun W hW => ?_) ?_; rotate_left; · (go_simp; try with_reducible rfl)); simp only [Act.put, puA, puZ, puS])
          refine WalkN.two 7 11 (by kernel_rfl) ?_ ?_
          refine ⟨_, (by simp only [gtA, gtS, gtZ]; rfl), by rfl, fun K hK => ?_⟩
          go_simp
          refine (HWK.out u1 bk hE.out HBK.out).mono ?_
          rintro e u2 ⟨hx1, ps, fs, po, pc, fo, fc, ev, hP1, rfl, hG1⟩
          have hX1 := Ext.trans hE.out hx1
          refine hK.out _ _ hX1 ?_
          clear hK
          have HR := Lib.hid (show GrAt (fun x => wd.heap.size ≤ x ∧ x < u2.heap.size) u2 ps fs (.slice po ps.length pc) (.slice fo fs.length fc) from hG1.mono fun x hx => ⟨Nat.le_trans hE.out.size hx.1, hx.2⟩)
          have HP := Lib.hid hP1
          have HBK := Lib.hid (HBK.out.ext hx1)
          have hE := Lib.hid hX1
          clear hx1 hX1 hP1 hG1
          ((refine WalkN.take 8 _ ?_ (by simp only [gtA, gtS, gtZ]; rfl) (by kernel_rfl) (by kernel_rfl) (by rfl) (fun W hW => ?_) ?_; rotate_left; · (go_simp; try with_reducible rfl)); simp only [Act.put, puA, puZ, puS])
          ((refine WalkN.take 9 _ ?_ (by simp only [gtA, gtS, gtZ]; rfl) (by kernel_rfl) (by kernel_rfl) (by rfl) (fun W hW => ?_) ?_; rotate_left; · (go_simp; try with_reducible rfl)); simp only [Act.put, puA, puZ, puS])
          ((refine WalkN.take 10 _ ?_ (by simp only [gtA, gtS, gtZ]; rfl) (by kernel_rfl) (by kernel_rfl) (by rfl) (fun W hW => ?_) ?_; rotate_left; · (go_simp; try with_reducible rfl)); simp only [Act.put, puA, puZ, puS])
          refine WalkN.one 11 (by kernel_rfl) ?_
          refine ⟨_, (by simp only [gtA, gtS, gtZ]; rfl), by rfl, fun K hK => ?_⟩
          go_simp
          obtain ⟨bg, hbg⟩ : ∃ x, x = u2.heap.size := ⟨_, rfl⟩
          rw [← hbg]
          have hA2 := Ext.alloc u2 (.cells #[.slice none 0 0, .slice none 0 0] 37)
          have hO2 : Blk (u2.alloc (.cells #[.slice none 0 0, .slice none 0 0] 37)) bg #[.slice none 0 0, .slice none 0 0] 37 := by rw [hbg]; exact Blk.made _ _ _
          have hX2 := Ext.trans hE.out hA2
          have HBG := Lib.hid (show wd.heap.size ≤ bg from by have := hE.out.size; omega)
          have HBK := Lib.hid (HBK.out.ext hA2)
          have HR := Lib.hid (show GrAt (fun x => x ≠ bg ∧ wd.heap.size ≤ x ∧ x < (u2.alloc (.cells #[.slice none 0 0, .slice none 0 0] 37)).heap.size) (u2.alloc (.cells #[.slice none 0 0, .slice none 0 0] 37)) ps fs (.slice po ps.length pc) (.slice fo fs.length fc) from (HR.out.same fun x hx => hA2.block x hx.2).mono fun x hx => ⟨fun e => by have := hx.2; omega, hx.1, Nat.lt_of_lt_of_le hx.2 hA2.size⟩)
          refine hK.out _ _ hX2 ?_
          clear hK hbg hA2
          generalize u2.alloc (.cells #[.slice none 0 0, .slice none 0 0] 37) = u3 at *
          have hE := Lib.hid hX2
          have HG := Lib.hid hO2
          clear hO2 hX2
          rotate_left
          refine ⟨_, (by simp only [gtA, gtS, gtZ]; rfl), by rfl, fun K hK => ?_⟩
          go_simp
          obtain ⟨bg, hbg⟩ : ∃ x, x = u1.heap.size := ⟨_, rfl⟩
          rw [← hbg]
          have hA1 := Ext.alloc u1 (.cells #[.slice none 0 0, .slice none 0 0] 37)
          have hO1 : Blk (u1.alloc (.cells #[.slice none 0 0, .slice none 0 0] 37)) bg #[.slice none 0 0, .slice none 0 0] 37 := by rw [hbg]; exact Blk.made _ _ _
          have hX1 := Ext.trans hE.out hA1
          have HBG := Lib.hid (show wd.heap.size ≤ bg from by have := hE.out.size; omega)
          have HBK := Lib.hid (HBK.out.ext hA1)
          refine hK.out _ _ hX1 ?_
          clear hK hbg hA1
          generalize u1.alloc (.cells #[.slice none 0 0, .slice none 0 0] 37) = u2 at *
          have hE := Lib.hid hX1
          have HG := Lib.hid hO1
          clear hO1 hX1
          refine WalkN.one 7 (by kernel_rfl) ?_
          refine ⟨_, (by simp only [gtA, gtS, gtZ]; rfl), by rfl, fun K hK => ?_⟩
          go_simp
          refine (HWK.out u2 bk hE.out HBK.out).mono ?_
          rintro e u3 ⟨hx2, ps, fs, po, pc, fo, fc, ev, hP2, rfl, hG2⟩
          have hX2 := Ext.trans hE.out hx2
          refine hK.out _ _ hX2 ?_
          clear hK
          have HR := Lib.hid (show GrAt (fun x => x ≠ bg ∧ wd.heap.size ≤ x ∧ x < u3.heap.size) u3 ps fs (.slice po ps.length pc) (.slice fo fs.length fc) from hG2.mono fun x hx => ⟨fun e => by have := HG.out.lt; have := hx.1; omega, Nat.le_trans hE.out.size hx.1, hx.2⟩)
          have HG := Lib.hid (HG.out.below hx2)
          have HP := Lib.hid hP2
          have HBK := Lib.hid (HBK.out.ext hx2)
          have hE := Lib.hid hX2
          clear hx2 hX2 hP2 hG2
          ((refine WalkN.take 8 _ ?_ (by simp only [gtA, gtS, gtZ]; rfl) (by kernel_rfl) (by kernel_rfl) (by rfl) (fun W hW => ?_) ?_; rotate_left; · (go_simp; try with_reducible rfl)); simp only [Act.put, puA, puZ, puS])
          ((refine WalkN.take 9 _ ?_ (by simp only [gtA, gtS, gtZ]; rfl) (by kernel_rfl) (by kernel_rfl) (by rfl) (fun W hW => ?_) ?_; rotate_left; · (go_simp; try with_reducible rfl)); simp only [Act.put, puA, puZ, puS])
          ((refine WalkN.take 10 _ ?_ (by simp only [gtA, gtS, gtZ]; rfl) (by kernel_rfl) (by kernel_rfl) (by rfl) (fun W hW => ?_) ?_; rotate_left; · (go_simp; try with_reducible rfl)); simp only [Act.put, puA, puZ, puS])
          rotate_left
          refine ⟨_, (by simp only [gtA, gtS, gtZ]; rfl), by rfl, fun K hK => ?_⟩
          go_simp
          obtain ⟨bg, hbg⟩ : ∃ x, x = wd.heap.size := ⟨_, rfl⟩
          rw [← hbg]
          have hA0 := Ext.alloc wd (.cells #[.slice none 0 0, .slice none 0 0] 37)
          have hO0 : Blk (wd.alloc (.cells #[.slice none 0 0, .slice none 0 0] 37)) bg #[.slice none 0 0, .slice none 0 0] 37 := by rw [hbg]; exact Blk.made _ _ _
          have hX0 := Ext.trans hE.out hA0
          have HBG := Lib.hid (show wd.heap.size ≤ bg from by have := hE.out.size; omega)
          refine hK.out _ _ hX0 ?_
          clear hK hbg hA0
          generalize wd.alloc (.cells #[.slice none 0 0, .slice none 0 0] 37) = u1 at *
          have hE := Lib.hid hX0
          have HG := Lib.hid hO0
          clear hO0 hX0
          refine WalkN.one 2 (by kernel_rfl) ?_
          refine ⟨_, (by simp only [gtA, gtS, gtZ]; rfl), by rfl, fun K hK => ?_⟩
          go_simp
          refine (HNB.out u1 hE.out).mono ?_
          rintro e u2 ⟨bk, rfl, hB1, hx1⟩
          have hX1 := Ext.trans hE.out hx1
          refine hK.out _ _ hX1 ?_
          clear hK
          have HBK := Lib.hid hB1
          have HG := Lib.hid (HG.out.below hx1)
          have hE := Lib.hid hX1
          clear hx1 hX1 hB1
          ((refine WalkN.take 3 _ ?_ (by simp only [gtA, gtS, gtZ]; rfl) (by kernel_rfl) (by kernel_rfl) (by rfl) (fun W hW => ?_) ?_; rotate_left; · (go_simp; try with_reducible rfl)); simp only [Act.put, puA, puZ, puS])
          refine WalkN.one 7 (by kernel_rfl) ?_
          refine ⟨_, (by simp only [gtA, gtS, gtZ]; rfl), by rfl, fun K hK => ?_⟩
          go_simp
          refine (HWK.out u2 bk hE.out HBK.out).mono ?_
          rintro e u3 ⟨hx2, ps, fs, po, pc, fo, fc, ev, hP2, rfl, hG2⟩
          have hX2 := Ext.trans hE.out hx2
          refine hK.out _ _ hX2 ?_
          clear hK
          have HR := Lib.hid (show GrAt (fun x => x ≠ bg ∧ wd.heap.size ≤ x ∧ x < u3.heap.size) u3 ps fs (.slice po ps.length pc) (.slice fo fs.length fc) from hG2.mono fun x hx => ⟨fun e => by have := HG.out.lt; have := hx.1; omega, Nat.le_trans hE.out.size hx.1, hx.2⟩)
          have HG := Lib.hid (HG.out.below hx2)
          have HP := Lib.hid hP2
          have HBK := Lib.hid (HBK.out.ext hx2)
          have hE := Lib.hid hX2
          clear hx2 hX2 hP2 hG2
          ((refine WalkN.take 8 _ ?_ (by simp only [gtA, gtS, gtZ]; rfl) (by kernel_rfl) (by kernel_rfl) (by rfl) (fun W hW => ?_) ?_; rotate_left; · (go_simp; try with_reducible rfl)); simp only [Act.put, puA, puZ, puS])
          ((refine WalkN.take 9 _ ?_ (by simp only [gtA, gtS, gtZ]; rfl) (by kernel_rfl) (by kernel_rfl) (by rfl) (fun W hW => ?_) ?_; rotate_left; · (go_simp; try with_reducible rfl)); simp only [Act.put, puA, puZ, puS])
          ((refine WalkN.take 10 _ ?_ (by simp only [gtA, gtS, gtZ]; rfl) (by kernel_rfl) (by kernel_rfl) (by rfl) (fun W hW => ?_) ?_; rotate_left; · (go_simp; try with_reducible rfl)); simp only [Act.put, puA, puZ, puS])
          rotate_left
          all_goals
            refine WalkN.one 12 (by kernel_rfl) ?_
            refine ⟨_, (by simp only [gtA, gtS, gtZ]; rfl), by rfl, fun K hK => ?_⟩
            have hg := HG.out.cells
            have hf := HG.out.free
            go_simp
            have hS3 := (HG.out.set_to (cs' := #[.slice po ps.length pc, .slice none 0 0]) 0 (.slice po ps.length pc) rfl).set_to (cs' := #[.slice po ps.length pc, .slice fo fs.length fc]) 1 (.slice fo fs.length fc) rfl
            have hX3 : Ext wd ((u3.setCell ⟨bg, 0, none⟩ (.slice po ps.length pc)).setCell ⟨bg, 1, none⟩ (.slice fo fs.length fc)) := Below.setCell (Below.setCell hE.out (p := ⟨bg, 0, none⟩) HBG.out _) (p := ⟨bg, 1, none⟩) HBG.out _
            have hR3 := (HR.out.same (w' := ((u3.setCell ⟨bg, 0, none⟩ (.slice po ps.length pc)).setCell ⟨bg, 1, none⟩ (.slice fo fs.length fc))) fun x hx => by rw [Below.heap_setCell _ _ _ x hx.1, Below.heap_setCell _ _ _ x hx.1]).mono (T := fun x => x ≠ bg ∧ wd.heap.size ≤ x ∧ x < ((u3.setCell ⟨bg, 0, none⟩ (.slice po ps.length pc)).setCell ⟨bg, 1, none⟩ (.slice fo fs.length fc)).heap.size) fun x hx => ⟨hx.1, hx.2.1, by simpa using hx.2.2⟩
            refine hK.out _ _ hX3 ?_
            clear hK hg hf
            generalize (u3.setCell ⟨bg, 0, none⟩ (.slice po ps.length pc)).setCell ⟨bg, 1, none⟩ (.slice fo fs.length fc) = u4 at *
            ((refine WalkN.take 13 _ ?_ (by simp only [gtA, gtS, gtZ]; rfl) (by kernel_rfl) (by kernel_rfl) (by rfl) (fun W hW => ?_) ?_; rotate_left; · (go_simp; try with_reducible rfl)); simp only [Act.put, puA, puZ, puS])
            refine WalkN.done (by kernel_rfl) ?_
            exact ⟨rfl, bk, bg, po, pc, fo, fc, ps, fs, ev, rfl, HP.out, hX3, HBG.out, hS3, hR3⟩
        rintro e _ W1 ⟨rfl, bk1, bg1, po1, pc1, fo1, fc1, ps1, fs1, ev1, rfl, hP, hX, hbg, hblk, hgr⟩
        dsimp only
        obtain ⟨rfl, rfl, rfl⟩ := hP
        have HW := Lib.hid ((HW.out.up hxd.out).up hX)
        have HG := Lib.hid hblk
        have HC6 := Lib.hid (check06_any ts _ W1 HW.out.Y HOK.out (by have := schW_bk ts; have := HBK.out; omega))
        have s1 := HW.out.S.cells
        clear hX hbg hblk hgr hxd hwd
        go_wp2_with fail
        refine HC6.out.mono ?_
        rintro e w5 ⟨rfl, hb5⟩
        have HW5 := Lib.hid (HW.out.up hb5)
        have g5 := (HG.out.below hb5).cells
        obtain ⟨q, hq, hq0, hq1⟩ : ∃ q : Int, q = chk06 ts ∧ (q != 0) = true ∧ (q == q) = true := ⟨_, rfl, by simpa using HCK.out, by simp⟩
        rw [← hq]
        clear hq hb5 s1 HC6
        go_wp2_with fail
        go_ret
        exact ⟨rfl, HW5.out.X⟩
      · have HCK := Lib.hid hck
        have HIN := Lib.hid (walkIn_chk (T := T) shut (chk_long hck) HOK.out (by have := HST.out.len; have := HLL.out; omega) (fun t ht => HLO.out t ((HST.out.mem t).1 ht).1) HPO.out)
        clear hck
        go_wp2_with fail
        obtain ⟨wd, hwd⟩ : ∃ wd, Hid (wd = w3.drew) := ⟨_, Lib.hid rfl⟩
        have hxd := Lib.hid (show Ext w3 wd from by rw [hwd.out]; exact Ext.drew _)
        apply Code.wp_mono (Q := JoinG (β := Nat) wd (WalkP ts T shut p most (.int .i64 0) (.int .i64 10)) _) ?rest2 ?reg2
        case reg2 =>
          have hE := Lib.hid (Ext.refl wd)
          refine region_walkN (Ext wd) (by rw [← hwd.out]; exact Ext.refl _) (by kernel_rfl) (by kernel_rfl) (fun _ _ d _ _ h => by cases h.1) ?_
          rw [← hwd.out]
          have hs : ∀ W, Ext wd W → ∀ i, W.cell? ⟨w.heap.size, i, none⟩ = (#[.slice aot ts.length ct] : Array Value)[i]? := fun W h => ((HW.out.up hxd.out).S.below h).cells
          have hp : ∀ W, Ext wd W → ∀ i, W.cell? ⟨w.heap.size + 1, i, none⟩ = (#[.string p.t, .string p.i, .string p.r] : Array Value)[i]? := fun W h => ((HW.out.up hxd.out).P.below h).cells
          have HNB := Lib.hid (fun W (hW : Ext wd W) => bookT_any HST.out lv W ((HW.out.up hxd.out).up hW).L (by have := HLL.out; omega) HLO.out)
          have HWK := Lib.hid (fun W b (hW : Ext wd W) (hB : BookAt W b T) => walkG_any ts _ b T shut _ p most 2000000 W ((HW.out.up hxd.out).up hW).Y HOK.out HCK.out (by have := schB_bk ts; have := HBK.out; omega) (sz_sch HBK.out) (by have := (names_bk ts).1; have := HBK.out; omega) (by have := (names_bk ts).2; have := HBK.out; omega) hB ((HW.out.up hxd.out).up hW).V HSO.out HIN.out)
          unfold pV at HWK
          (refine WalkN.tk [0, 1, 4, 5, 6] ?_; (iterate 5 ((refine TkN.c _ ?_ (by simp only [gtA, gtS, gtZ]; rfl) (by kernel_rfl) (by kernel_rfl) (by rfl) (fun W hW => ?_) ?_; rotate_left; · (go_simp; try with_reducible rfl)); simp only [Act.put, puA, puZ, puS])); refine TkN.n ?_)
          clear hs hp
          refine WalkN.two 2 11 (by kernel_rfl) ?_ ?_
          refine ⟨_, (by simp only [gtA, gtS, gtZ]; rfl), by rfl, fun K hK => ?_⟩
          go_simp
          refine (HNB.out wd hE.out).mono ?_
          rintro e u1 ⟨bk, rfl, hB0, hx0⟩
          have hX0 := Ext.trans hE.out hx0
          refine hK.out _ _ hX0 ?_
          clear hK
          have HBK := Lib.hid hB0
          have hE := Lib.hid hX0
          clear hx0 hX0 hB0
          ((refine WalkN.take 3 _ ?_ (by simp only [gtA, gtS, gtZ]; rfl) (by kernel_rfl) (by kernel_rfl) (by rfl) (fun W hW => ?_) ?_; rotate_left; · (go_simp; try with_reducible rfl)); simp only [Act.put, puA, puZ, puS])
          refine WalkN.two 7 11 (by kernel_rfl) ?_ ?_
          refine ⟨_, (by simp only [gtA, gtS, gtZ]; rfl), by rfl, fun K hK => ?_⟩
          go_simp
          refine (HWK.out u1 bk hE.out HBK.out).mono ?_
          rintro e u2 ⟨hx1, ps, fs, po, pc, fo, fc, ev, hP1, rfl, hG1⟩
          have hX1 := Ext.trans hE.out hx1
          refine hK.out _ _ hX1 ?_
          clear hK
          have HR := Lib.hid (show GrAt (fun x => wd.heap.size ≤ x ∧ x < u2.heap.size) u2 ps fs (.slice po ps.length pc) (.slice fo fs.length fc) from hG1.mono fun x hx => ⟨Nat.le_trans hE.out.size hx.1, hx.2⟩)
          have HP := Lib.hid hP1
          have HBK := Lib.hid (HBK.out.ext hx1)
          have hE := Lib.hid hX1
          clear hx1 hX1 hP1 hG1
          ((refine WalkN.take 8 _ ?_ (by simp only [gtA, gtS, gtZ]; rfl) (by kernel_rfl) (by kernel_rfl) (by rfl) (fun W hW => ?_) ?_; rotate_left; · (go_simp; try with_reducible rfl)); simp only [Act.put, puA, puZ, puS])
          ((refine WalkN.take 9 _ ?_ (by simp only [gtA, gtS, gtZ]; rfl) (by kernel_rfl) (by kernel_rfl) (by rfl) (fun W hW => ?_) ?_; rotate_left; · (go_simp; try with_reducible rfl)); simp only [Act.put, puA, puZ, puS])
          ((refine WalkN.take 10 _ ?_ (by simp only [gtA, gtS, gtZ]; rfl) (by kernel_rfl) (by kernel_rfl) (by rfl) (fun W hW => ?_) ?_; rotate_left; · (go_simp; try with_reducible rfl)); simp only [Act.put, puA, puZ, puS])
          refine WalkN.one 11 (by kernel_rfl) ?_
          refine ⟨_, (by simp only [gtA, gtS, gtZ]; rfl), by rfl, fun K hK => ?_⟩
          go_simp
          obtain ⟨bg, hbg⟩ : ∃ x, x = u2.heap.size := ⟨_, rfl⟩
          rw [← hbg]
          have hA2 := Ext.alloc u2 (.cells #[.slice none 0 0, .slice none 0 0] 37)
          have hO2 : Blk (u2.alloc (.cells #[.slice none 0 0, .slice none 0 0] 37)) bg #[.slice none 0 0, .slice none 0 0] 37 := by rw [hbg]; exact Blk.made _ _ _
          have hX2 := Ext.trans hE.out hA2
          have HBG := Lib.hid (show wd.heap.size ≤ bg from by have := hE.out.size; omega)
          have HBK := Lib.hid (HBK.out.ext hA2)
          have HR := Lib.hid (show GrAt (fun x => x ≠ bg ∧ wd.heap.size ≤ x ∧ x < (u2.alloc (.cells #[.slice none 0 0, .slice none 0 0] 37)).heap.size) (u2.alloc (.cells #[.slice none 0 0, .slice none 0 0] 37)) ps fs (.slice po ps.length pc) (.slice fo fs.length fc) from (HR.out.same fun x hx => hA2.block x hx.2).mono fun x hx => ⟨fun e => by have := hx.2; omega, hx.1, Nat.lt_of_lt_of_le hx.2 hA2.size⟩)
          refine hK.out _ _ hX2 ?_
          clear hK hbg hA2
          generalize u2.alloc (.cells #[.slice none 0 0, .slice none 0 0] 37) = u3 at *
          have hE := Lib.hid hX2
          have HG := Lib.hid hO2
          clear hO2 hX2
          rotate_left
          refine ⟨_, (by simp only [gtA, gtS, gtZ]; rfl), by rfl, fun K hK => ?_⟩
          go_simp
          obtain ⟨bg, hbg⟩ : ∃ x, x = u1.heap.size := ⟨_, rfl⟩
          rw [← hbg]
          have hA1 := Ext.alloc u1 (.cells #[.slice none 0 0, .slice none 0 0] 37)
          have hO1 : Blk (u1.alloc (.cells #[.slice none 0 0, .slice none 0 0] 37)) bg #[.slice none 0 0, .slice none 0 0] 37 := by rw [hbg]; exact Blk.made _ _ _
          have hX1 := Ext.trans hE.out hA1
          have HBG := Lib.hid (show wd.heap.size ≤ bg from by have := hE.out.size; omega)
          have HBK := Lib.hid (HBK.out.ext hA1)
          refine hK.out _ _ hX1 ?_
          clear hK hbg hA1
          generalize u1.alloc (.cells #[.slice none 0 0, .slice none 0 0] 37) = u2 at *
          have hE := Lib.hid hX1
          have HG := Lib.hid hO1
          clear hO1 hX1
          refine WalkN.one 7 (by kernel_rfl) ?_
          refine ⟨_, (by simp only [gtA, gtS, gtZ]; rfl), by rfl, fun K hK => ?_⟩
          go_simp
          refine (HWK.out u2 bk hE.out HBK.out).mono ?_
          rintro e u3 ⟨hx2, ps, fs, po, pc, fo, fc, ev, hP2, rfl, hG2⟩
          have hX2 := Ext.trans hE.out hx2
          refine hK.out _ _ hX2 ?_
          clear hK
          have HR := Lib.hid (show GrAt (fun x => x ≠ bg ∧ wd.heap.size ≤ x ∧ x < u3.heap.size) u3 ps fs (.slice po ps.length pc) (.slice fo fs.length fc) from hG2.mono fun x hx => ⟨fun e => by have := HG.out.lt; have := hx.1; omega, Nat.le_trans hE.out.size hx.1, hx.2⟩)
          have HG := Lib.hid (HG.out.below hx2)
          have HP := Lib.hid hP2
          have HBK := Lib.hid (HBK.out.ext hx2)
          have hE := Lib.hid hX2
          clear hx2 hX2 hP2 hG2
          ((refine WalkN.take 8 _ ?_ (by simp only [gtA, gtS, gtZ]; rfl) (by kernel_rfl) (by kernel_rfl) (by rfl) (fun W hW => ?_) ?_; rotate_left; · (go_simp; try with_reducible rfl)); simp only [Act.put, puA, puZ, puS])
          ((refine WalkN.take 9 _ ?_ (by simp only [gtA, gtS, gtZ]; rfl) (by kernel_rfl) (by kernel_rfl) (by rfl) (fun W hW => ?_) ?_; rotate_left; · (go_simp; try with_reducible rfl)); simp only [Act.put, puA, puZ, puS])
          ((refine WalkN.take 10 _ ?_ (by simp only [gtA, gtS, gtZ]; rfl) (by kernel_rfl) (by kernel_rfl) (by rfl) (fun W hW => ?_) ?_; rotate_left; · (go_simp; try with_reducible rfl)); simp only [Act.put, puA, puZ, puS])
          rotate_left
          refine ⟨_, (by simp only [gtA, gtS, gtZ]; rfl), by rfl, fun K hK => ?_⟩
          go_simp
          obtain ⟨bg, hbg⟩ : ∃ x, x = wd.heap.size := ⟨_, rfl⟩
          rw [← hbg]
          have hA0 := Ext.alloc wd (.cells #[.slice none 0 0, .slice none 0 0] 37)
          have hO0 : Blk (wd.alloc (.cells #[.slice none 0 0, .slice none 0 0] 37)) bg #[.slice none 0 0, .slice none 0 0] 37 := by rw [hbg]; exact Blk.made _ _ _
          have hX0 := Ext.trans hE.out hA0
          have HBG := Lib.hid (show wd.heap.size ≤ bg from by have := hE.out.size; omega)
          refine hK.out _ _ hX0 ?_
          clear hK hbg hA0
          generalize wd.alloc (.cells #[.slice none 0 0, .slice none 0 0] 37) = u1 at *
          have hE := Lib.hid hX0
          have HG := Lib.hid hO0
          clear hO0 hX0
          refine WalkN.one 2 (by kernel_rfl) ?_
          refine ⟨_, (by simp only [gtA, gtS, gtZ]; rfl), by rfl, fun K hK => ?_⟩
          go_simp
          refine (HNB.out u1 hE.out).mono ?_
          rintro e u2 ⟨bk, rfl, hB1, hx1⟩
          have hX1 := Ext.trans hE.out hx1
          refine hK.out _ _ hX1 ?_
          clear hK
          have HBK := Lib.hid hB1
          have HG := Lib.hid (HG.out.below hx1)
          have hE := Lib.hid hX1
          clear hx1 hX1 hB1
          ((refine WalkN.take 3 _ ?_ (by simp only [gtA, gtS, gtZ]; rfl) (by kernel_rfl) (by kernel_rfl) (by rfl) (fun W hW => ?_) ?_; rotate_left; · (go_simp; try with_reducible rfl)); simp only [Act.put, puA, puZ, puS])
          refine WalkN.one 7 (by kernel_rfl) ?_
          refine ⟨_, (by simp only [gtA, gtS, gtZ]; rfl), by rfl, fun K hK => ?_⟩
          go_simp
          refine (HWK.out u2 bk hE.out HBK.out).mono ?_
          rintro e u3 ⟨hx2, ps, fs, po, pc, fo, fc, ev, hP2, rfl, hG2⟩
          have hX2 := Ext.trans hE.out hx2
          refine hK.out _ _ hX2 ?_
          clear hK
          have HR := Lib.hid (show GrAt (fun x => x ≠ bg ∧ wd.heap.size ≤ x ∧ x < u3.heap.size) u3 ps fs (.slice po ps.length pc) (.slice fo fs.length fc) from hG2.mono fun x hx => ⟨fun e => by have := HG.out.lt; have := hx.1; omega, Nat.le_trans hE.out.size hx.1, hx.2⟩)
          have HG := Lib.hid (HG.out.below hx2)
          have HP := Lib.hid hP2
          have HBK := Lib.hid (HBK.out.ext hx2)
          have hE := Lib.hid hX2
          clear hx2 hX2 hP2 hG2
          ((refine WalkN.take 8 _ ?_ (by simp only [gtA, gtS, gtZ]; rfl) (by kernel_rfl) (by kernel_rfl) (by rfl) (fun W hW => ?_) ?_; rotate_left; · (go_simp; try with_reducible rfl)); simp only [Act.put, puA, puZ, puS])
          ((refine WalkN.take 9 _ ?_ (by simp only [gtA, gtS, gtZ]; rfl) (by kernel_rfl) (by kernel_rfl) (by rfl) (fun W hW => ?_) ?_; rotate_left; · (go_simp; try with_reducible rfl)); simp only [Act.put, puA, puZ, puS])
          ((refine WalkN.take 10 _ ?_ (by simp only [gtA, gtS, gtZ]; rfl) (by kernel_rfl) (by kernel_rfl) (by rfl) (fun W hW => ?_) ?_; rotate_left; · (go_simp; try with_reducible rfl)); simp only [Act.put, puA, puZ, puS])
          rotate_left
          all_goals
            refine WalkN.one 12 (by kernel_rfl) ?_
            refine ⟨_, (by simp only [gtA, gtS, gtZ]; rfl), by rfl, fun K hK => ?_⟩
            have hg := HG.out.cells
            have hf := HG.out.free
            go_simp
            have hS3 := (HG.out.set_to (cs' := #[.slice po ps.length pc, .slice none 0 0]) 0 (.slice po ps.length pc) rfl).set_to (cs' := #[.slice po ps.length pc, .slice fo fs.length fc]) 1 (.slice fo fs.length fc) rfl
            have hX3 : Ext wd ((u3.setCell ⟨bg, 0, none⟩ (.slice po ps.length pc)).setCell ⟨bg, 1, none⟩ (.slice fo fs.length fc)) := Below.setCell (Below.setCell hE.out (p := ⟨bg, 0, none⟩) HBG.out _) (p := ⟨bg, 1, none⟩) HBG.out _
            have hR3 := (HR.out.same (w' := ((u3.setCell ⟨bg, 0, none⟩ (.slice po ps.length pc)).setCell ⟨bg, 1, none⟩ (.slice fo fs.length fc))) fun x hx => by rw [Below.heap_setCell _ _ _ x hx.1, Below.heap_setCell _ _ _ x hx.1]).mono (T := fun x => x ≠ bg ∧ wd.heap.size ≤ x ∧ x < ((u3.setCell ⟨bg, 0, none⟩ (.slice po ps.length pc)).setCell ⟨bg, 1, none⟩ (.slice fo fs.length fc)).heap.size) fun x hx => ⟨hx.1, hx.2.1, by simpa using hx.2.2⟩
            refine hK.out _ _ hX3 ?_
            clear hK hg hf
            generalize (u3.setCell ⟨bg, 0, none⟩ (.slice po ps.length pc)).setCell ⟨bg, 1, none⟩ (.slice fo fs.length fc) = u4 at *
            ((refine WalkN.take 13 _ ?_ (by simp only [gtA, gtS, gtZ]; rfl) (by kernel_rfl) (by kernel_rfl) (by rfl) (fun W hW => ?_) ?_; rotate_left; · (go_simp; try with_reducible rfl)); simp only [Act.put, puA, puZ, puS])
            refine WalkN.done (by kernel_rfl) ?_
            exact ⟨rfl, bk, bg, po, pc, fo, fc, ps, fs, ev, rfl, HP.out, hX3, HBG.out, hS3, hR3⟩
        rintro e _ W2 ⟨rfl, bk2, bg2, po2, pc2, fo2, fc2, ps2, fs2, ev2, rfl, hP, hX, hbg, hblk, hgr⟩
        dsimp only
        have HP := Lib.hid hP
        have HW := Lib.hid ((HW.out.up hxd.out).up hX)
        have HG := Lib.hid hblk
        have HGR := Lib.hid (fun W' (h : Ext W2 W') => (hgr.same fun x hx => h.block x hx.2.2).mono (T := fun x => x < W'.heap.size) fun x hx => Nat.lt_of_lt_of_le hx.2.2 h.size)
        have HC6 := Lib.hid (check06_any ts _ W2 HW.out.Y HOK.out (by have := schW_bk ts; have := HBK.out; omega))
        rw [HCK.out] at HC6
        have s1 := HW.out.S.cells
        clear hP hX hbg hblk hgr hxd hwd
        go_wp2_with fail
        refine HC6.out.mono ?_
        rintro e w5 ⟨rfl, hb5⟩
        have HW := Lib.hid (HW.out.up hb5)
        have HG := Lib.hid (HG.out.below hb5)
        have HGR := Lib.hid (fun W' (h : Ext w5 W') => HGR.out W' (Ext.trans hb5 h))
        clear hb5 s1 HC6
        go_wp2_with fail
        obtain ⟨wd, hwd⟩ : ∃ wd, Hid (wd = w5.drew) := ⟨_, Lib.hid rfl⟩
        have hxd := Lib.hid (show Ext w5 wd from by rw [hwd.out]; exact Ext.drew _)
        apply Code.wp_mono (Q := JoinG (β := Value) wd (WalkP ts T shut p most (.bool true) (.bool false)) _) ?rest3 ?reg3
        case reg3 =>
          have hE := Lib.hid (Ext.refl wd)
          refine region_walkN (Ext wd) (by rw [← hwd.out]; exact Ext.refl _) (by kernel_rfl) (by kernel_rfl) (fun _ _ d _ _ h => by cases h.1) ?_
          rw [← hwd.out]
          have hs : ∀ W, Ext wd W → ∀ i, W.cell? ⟨w.heap.size, i, none⟩ = (#[.slice aot ts.length ct] : Array Value)[i]? := fun W h => ((HW.out.up hxd.out).S.below h).cells
          have hp : ∀ W, Ext wd W → ∀ i, W.cell? ⟨w.heap.size + 1, i, none⟩ = (#[.string p.t, .string p.i, .string p.r] : Array Value)[i]? := fun W h => ((HW.out.up hxd.out).P.below h).cells
          have HNB := Lib.hid (fun W (hW : Ext wd W) => setT_any HST.out lv W ((HW.out.up hxd.out).up hW).L (by have := HLL.out; omega) HLO.out)
          have HWK := Lib.hid (fun W b (hW : Ext wd W) (hB : Sl (· < W.heap.size) W 6 b (tuCs T)) => walkD_any ts _ T b shut _ p most 2000000 W ((HW.out.up hxd.out).up hW).Y (chk_uniq HCK.out) hB ((HW.out.up hxd.out).up hW).V (by have := HSL.out; omega) HIN.out)
          unfold pV at HWK
          (refine WalkN.tk [0, 1, 3, 4, 5] ?_; (iterate 5 ((refine TkN.c _ ?_ (by simp only [gtA, gtS, gtZ]; rfl) (by kernel_rfl) (by kernel_rfl) (by rfl) (fun W hW => ?_) ?_; rotate_left; · (go_simp; try with_reducible rfl)); simp only [Act.put, puA, puZ, puS])); refine TkN.n ?_)
          clear hs hp
          refine WalkN.two 2 10 (by kernel_rfl) ?_ ?_
          refine ⟨_, (by simp only [gtA, gtS, gtZ]; rfl), by rfl, fun K hK => ?_⟩
          go_simp
          refine (HNB.out wd hE.out).mono ?_
          rintro e u1 ⟨bk, rfl, hB0, hx0⟩
          have hX0 := Ext.trans hE.out hx0
          refine hK.out _ _ hX0 ?_
          clear hK
          have HBK := Lib.hid hB0
          have hE := Lib.hid hX0
          clear hx0 hX0 hB0
          refine WalkN.two 6 10 (by kernel_rfl) ?_ ?_
          refine ⟨_, (by simp only [gtA, gtS, gtZ]; rfl), by rfl, fun K hK => ?_⟩
          go_simp
          refine (HWK.out u1 bk hE.out HBK.out).mono ?_
          rintro e u2 ⟨hx1, ps, fs, po, pc, fo, fc, ev, hP1, rfl, hG1⟩
          have hX1 := Ext.trans hE.out hx1
          refine hK.out _ _ hX1 ?_
          clear hK
          have HR := Lib.hid (show GrAt (fun x => wd.heap.size ≤ x ∧ x < u2.heap.size) u2 ps fs (.slice po ps.length pc) (.slice fo fs.length fc) from hG1.mono fun x hx => ⟨Nat.le_trans hE.out.size hx.1, hx.2⟩)
          have HP := Lib.hid hP1
          have HBK := Lib.hid ((HBK.out.same (Same.below hx1)).mono fun x hx => Nat.lt_of_lt_of_le hx hx1.size)
          have hE := Lib.hid hX1
          clear hx1 hX1 hP1 hG1
          ((refine WalkN.take 7 _ ?_ (by simp only [gtA, gtS, gtZ]; rfl) (by kernel_rfl) (by kernel_rfl) (by rfl) (fun W hW => ?_) ?_; rotate_left; · (go_simp; try with_reducible rfl)); simp only [Act.put, puA, puZ, puS])
          ((refine WalkN.take 8 _ ?_ (by simp only [gtA, gtS, gtZ]; rfl) (by kernel_rfl) (by kernel_rfl) (by rfl) (fun W hW => ?_) ?_; rotate_left; · (go_simp; try with_reducible rfl)); simp only [Act.put, puA, puZ, puS])
          ((refine WalkN.take 9 _ ?_ (by simp only [gtA, gtS, gtZ]; rfl) (by kernel_rfl) (by kernel_rfl) (by rfl) (fun W hW => ?_) ?_; rotate_left; · (go_simp; try with_reducible rfl)); simp only [Act.put, puA, puZ, puS])
          refine WalkN.one 10 (by kernel_rfl) ?_
          refine ⟨_, (by simp only [gtA, gtS, gtZ]; rfl), by rfl, fun K hK => ?_⟩
          go_simp
          obtain ⟨bg, hbg⟩ : ∃ x, x = u2.heap.size := ⟨_, rfl⟩
          rw [← hbg]
          have hA2 := Ext.alloc u2 (.cells #[.slice none 0 0, .slice none 0 0] 37)
          have hO2 : Blk (u2.alloc (.cells #[.slice none 0 0, .slice none 0 0] 37)) bg #[.slice none 0 0, .slice none 0 0] 37 := by rw [hbg]; exact Blk.made _ _ _
          have hX2 := Ext.trans hE.out hA2
          have HBG := Lib.hid (show wd.heap.size ≤ bg from by have := hE.out.size; omega)
          have HBK := Lib.hid ((HBK.out.same (Same.below hA2)).mono fun x hx => Nat.lt_of_lt_of_le hx hA2.size)
          have HR := Lib.hid (show GrAt (fun x => x ≠ bg ∧ wd.heap.size ≤ x ∧ x < (u2.alloc (.cells #[.slice none 0 0, .slice none 0 0] 37)).heap.size) (u2.alloc (.cells #[.slice none 0 0, .slice none 0 0] 37)) ps fs (.slice po ps.length pc) (.slice fo fs.length fc) from (HR.out.same fun x hx => hA2.block x hx.2).mono fun x hx => ⟨fun e => by have := hx.2; omega, hx.1, Nat.lt_of_lt_of_le hx.2 hA2.size⟩)
          refine hK.out _ _ hX2 ?_
          clear hK hbg hA2
          generalize u2.alloc (.cells #[.slice none 0 0, .slice none 0 0] 37) = u3 at *
          have hE := Lib.hid hX2
          have HG := Lib.hid hO2
          clear hO2 hX2
          rotate_left
          refine ⟨_, (by simp only [gtA, gtS, gtZ]; rfl), by rfl, fun K hK => ?_⟩
          go_simp
          obtain ⟨bg, hbg⟩ : ∃ x, x = u1.heap.size := ⟨_, rfl⟩
          rw [← hbg]
          have hA1 := Ext.alloc u1 (.cells #[.slice none 0 0, .slice none 0 0] 37)
          have hO1 : Blk (u1.alloc (.cells #[.slice none 0 0, .slice none 0 0] 37)) bg #[.slice none 0 0, .slice none 0 0] 37 := by rw [hbg]; exact Blk.made _ _ _
          have hX1 := Ext.trans hE.out hA1
          have HBG := Lib.hid (show wd.heap.size ≤ bg from by have := hE.out.size; omega)
          have HBK := Lib.hid ((HBK.out.same (Same.below hA1)).mono fun x hx => Nat.lt_of_lt_of_le hx hA1.size)
          refine hK.out _ _ hX1 ?_
          clear hK hbg hA1
          generalize u1.alloc (.cells #[.slice none 0 0, .slice none 0 0] 37) = u2 at *
          have hE := Lib.hid hX1
          have HG := Lib.hid hO1
          clear hO1 hX1
          refine WalkN.one 6 (by kernel_rfl) ?_
          refine ⟨_, (by simp only [gtA, gtS, gtZ]; rfl), by rfl, fun K hK => ?_⟩
          go_simp
          refine (HWK.out u2 bk hE.out HBK.out).mono ?_
          rintro e u3 ⟨hx2, ps, fs, po, pc, fo, fc, ev, hP2, rfl, hG2⟩
          have hX2 := Ext.trans hE.out hx2
          refine hK.out _ _ hX2 ?_
          clear hK
          have HR := Lib.hid (show GrAt (fun x => x ≠ bg ∧ wd.heap.size ≤ x ∧ x < u3.heap.size) u3 ps fs (.slice po ps.length pc) (.slice fo fs.length fc) from hG2.mono fun x hx => ⟨fun e => by have := HG.out.lt; have := hx.1; omega, Nat.le_trans hE.out.size hx.1, hx.2⟩)
          have HG := Lib.hid (HG.out.below hx2)
          have HP := Lib.hid hP2
          have HBK := Lib.hid ((HBK.out.same (Same.below hx2)).mono fun x hx => Nat.lt_of_lt_of_le hx hx2.size)
          have hE := Lib.hid hX2
          clear hx2 hX2 hP2 hG2
          ((refine WalkN.take 7 _ ?_ (by simp only [gtA, gtS, gtZ]; rfl) (by kernel_rfl) (by kernel_rfl) (by rfl) (fun W hW => ?_) ?_; rotate_left; · (go_simp; try with_reducible rfl)); simp only [Act.put, puA, puZ, puS])
          ((refine WalkN.take 8 _ ?_ (by simp only [gtA, gtS, gtZ]; rfl) (by kernel_rfl) (by kernel_rfl) (by rfl) (fun W hW => ?_) ?_; rotate_left; · (go_simp; try with_reducible rfl)); simp only [Act.put, puA, puZ, puS])
          ((refine WalkN.take 9 _ ?_ (by simp only [gtA, gtS, gtZ]; rfl) (by kernel_rfl) (by kernel_rfl) (by rfl) (fun W hW => ?_) ?_; rotate_left; · (go_simp; try with_reducible rfl)); simp only [Act.put, puA, puZ, puS])
          rotate_left
          refine ⟨_, (by simp only [gtA, gtS, gtZ]; rfl), by rfl, fun K hK => ?_⟩
          go_simp
          obtain ⟨bg, hbg⟩ : ∃ x, x = wd.heap.size := ⟨_, rfl⟩
          rw [← hbg]
          have hA0 := Ext.alloc wd (.cells #[.slice none 0 0, .slice none 0 0] 37)
          have hO0 : Blk (wd.alloc (.cells #[.slice none 0 0, .slice none 0 0] 37)) bg #[.slice none 0 0, .slice none 0 0] 37 := by rw [hbg]; exact Blk.made _ _ _
          have hX0 := Ext.trans hE.out hA0
          have HBG := Lib.hid (show wd.heap.size ≤ bg from by have := hE.out.size; omega)
          refine hK.out _ _ hX0 ?_
          clear hK hbg hA0
          generalize wd.alloc (.cells #[.slice none 0 0, .slice none 0 0] 37) = u1 at *
          have hE := Lib.hid hX0
          have HG := Lib.hid hO0
          clear hO0 hX0
          refine WalkN.one 2 (by kernel_rfl) ?_
          refine ⟨_, (by simp only [gtA, gtS, gtZ]; rfl), by rfl, fun K hK => ?_⟩
          go_simp
          refine (HNB.out u1 hE.out).mono ?_
          rintro e u2 ⟨bk, rfl, hB1, hx1⟩
          have hX1 := Ext.trans hE.out hx1
          refine hK.out _ _ hX1 ?_
          clear hK
          have HBK := Lib.hid hB1
          have HG := Lib.hid (HG.out.below hx1)
          have hE := Lib.hid hX1
          clear hx1 hX1 hB1
          refine WalkN.one 6 (by kernel_rfl) ?_
          refine ⟨_, (by simp only [gtA, gtS, gtZ]; rfl), by rfl, fun K hK => ?_⟩
          go_simp
          refine (HWK.out u2 bk hE.out HBK.out).mono ?_
          rintro e u3 ⟨hx2, ps, fs, po, pc, fo, fc, ev, hP2, rfl, hG2⟩
          have hX2 := Ext.trans hE.out hx2
          refine hK.out _ _ hX2 ?_
          clear hK
          have HR := Lib.hid (show GrAt (fun x => x ≠ bg ∧ wd.heap.size ≤ x ∧ x < u3.heap.size) u3 ps fs (.slice po ps.length pc) (.slice fo fs.length fc) from hG2.mono fun x hx => ⟨fun e => by have := HG.out.lt; have := hx.1; omega, Nat.le_trans hE.out.size hx.1, hx.2⟩)
          have HG := Lib.hid (HG.out.below hx2)
          have HP := Lib.hid hP2
          have HBK := Lib.hid ((HBK.out.same (Same.below hx2)).mono fun x hx => Nat.lt_of_lt_of_le hx hx2.size)
          have hE := Lib.hid hX2
          clear hx2 hX2 hP2 hG2
          ((refine WalkN.take 7 _ ?_ (by simp only [gtA, gtS, gtZ]; rfl) (by kernel_rfl) (by kernel_rfl) (by rfl) (fun W hW => ?_) ?_; rotate_left; · (go_simp; try with_reducible rfl)); simp only [Act.put, puA, puZ, puS])
          ((refine WalkN.take 8 _ ?_ (by simp only [gtA, gtS, gtZ]; rfl) (by kernel_rfl) (by kernel_rfl) (by rfl) (fun W hW => ?_) ?_; rotate_left; · (go_simp; try with_reducible rfl)); simp only [Act.put, puA, puZ, puS])
          ((refine WalkN.take 9 _ ?_ (by simp only [gtA, gtS, gtZ]; rfl) (by kernel_rfl) (by kernel_rfl) (by rfl) (fun W hW => ?_) ?_; rotate_left; · (go_simp; try with_reducible rfl)); simp only [Act.put, puA, puZ, puS])
          rotate_left
          all_goals
            refine WalkN.one 11 (by kernel_rfl) ?_
            refine ⟨_, (by simp only [gtA, gtS, gtZ]; rfl), by rfl, fun K hK => ?_⟩
            have hg := HG.out.cells
            have hf := HG.out.free
            go_simp
            have hS3 := (HG.out.set_to (cs' := #[.slice po ps.length pc, .slice none 0 0]) 0 (.slice po ps.length pc) rfl).set_to (cs' := #[.slice po ps.length pc, .slice fo fs.length fc]) 1 (.slice fo fs.length fc) rfl
            have hX3 : Ext wd ((u3.setCell ⟨bg, 0, none⟩ (.slice po ps.length pc)).setCell ⟨bg, 1, none⟩ (.slice fo fs.length fc)) := Below.setCell (Below.setCell hE.out (p := ⟨bg, 0, none⟩) HBG.out _) (p := ⟨bg, 1, none⟩) HBG.out _
            have hR3 := (HR.out.same (w' := ((u3.setCell ⟨bg, 0, none⟩ (.slice po ps.length pc)).setCell ⟨bg, 1, none⟩ (.slice fo fs.length fc))) fun x hx => by rw [Below.heap_setCell _ _ _ x hx.1, Below.heap_setCell _ _ _ x hx.1]).mono (T := fun x => x ≠ bg ∧ wd.heap.size ≤ x ∧ x < ((u3.setCell ⟨bg, 0, none⟩ (.slice po ps.length pc)).setCell ⟨bg, 1, none⟩ (.slice fo fs.length fc)).heap.size) fun x hx => ⟨hx.1, hx.2.1, by simpa using hx.2.2⟩
            refine hK.out _ _ hX3 ?_
            clear hK hg hf
            generalize (u3.setCell ⟨bg, 0, none⟩ (.slice po ps.length pc)).setCell ⟨bg, 1, none⟩ (.slice fo fs.length fc) = u4 at *
            ((refine WalkN.take 12 _ ?_ (by simp only [gtA, gtS, gtZ]; rfl) (by kernel_rfl) (by kernel_rfl) (by rfl) (fun W hW => ?_) ?_; rotate_left; · (go_simp; try with_reducible rfl)); simp only [Act.put, puA, puZ, puS])
            refine WalkN.done (by kernel_rfl) ?_
            exact ⟨rfl, bk, bg, po, pc, fo, fc, ps, fs, ev, rfl, HP.out, hX3, HBG.out, hS3, hR3⟩
        rintro e _ W3 ⟨rfl, bk3, bg3, po3, pc3, fo3, fc3, ps3, fs3, ev3, rfl, hP, hX, hbg, hblk, hgr⟩
        dsimp only
        have HW := Lib.hid ((HW.out.up hxd.out).up hX)
        have hXa := Ext.trans hxd.out hX
        have HGa := Lib.hid (HG.out.below hXa)
        have HGb := Lib.hid hblk
        have HRa := Lib.hid (fun W' (h : Ext W3 W') => HGR.out W' (Ext.trans hXa h))
        have HRb := Lib.hid (fun W' (h : Ext W3 W') => (hgr.same fun x hx => h.block x hx.2.2).mono (T := fun x => x < W'.heap.size) fun x hx => Nat.lt_of_lt_of_le hx.2.2 h.size)
        have ga := HGa.out.cells
        have gb := HGb.out.cells
        clear hX hXa hbg hblk hgr hxd hwd HG HGR
        rcases HP.out with ⟨n, he, hps, hfs, rfl⟩ | ⟨hl, rfl, rfl, rfl⟩
        rotate_left
        · have hs : ps3 = [] ∧ fs3 = [] ∧ ev3 = .bool false := by
            rcases hP with ⟨n2, he2, -⟩ | ⟨-, h1, h2, h3⟩
            · exact absurd hl he2.notLong
            · exact ⟨h1, h2, h3⟩
          obtain ⟨rfl, rfl, rfl⟩ := hs
          clear hP hl HP
          go_wp2_with fail
          go_ret
          exact ⟨rfl, HW.out.X⟩
        · have hs : ps3 = ps2 ∧ fs3 = fs2 ∧ ev3 = .bool true := by
            rcases hP with ⟨n2, he2, h1, h2, h3⟩ | ⟨hl, -⟩
            · obtain rfl := he2.uniq he
              exact ⟨h1.trans hps.symm, h2.trans hfs.symm, h3⟩
            · exact absurd hl he.notLong
          obtain ⟨rfl, rfl, rfl⟩ := hs
          have HND := Lib.hid (show ps3.Nodup from by rw [hps]; exact walkN_nodup _ _ _ _ _)
          have HPN := Lib.hid (show ps3.length ≤ 2000000 from by rw [hps]; exact HIN.out.few n)
          clear hP HP he hps hfs
          go_wp2_with fail
          refine region_walkN (Ext W3) (Ext.drew _) (by kernel_rfl) (by kernel_rfl) (fun _ _ d _ _ h => by cases d <;> exact h) ?_
          have ga := fun W' (h : Ext W3 W') => (HGa.out.below h).cells
          have gb := fun W' (h : Ext W3 W') => (HGb.out.below h).cells
          (refine WalkN.tk [0, 1, 2, 3, 4] ?_; (iterate 5 ((refine TkN.c _ ?_ (by simp only [gtA, gtS, gtZ]; rfl) (by kernel_rfl) (by kernel_rfl) (by rfl) (fun W hW => ?_) ?_; rotate_left; · (go_simp; try with_reducible rfl)); simp only [Act.put, puA, puZ, puS])); refine TkN.n ?_)
          have HSG := Lib.hid (sameG_any _ _ _ _ _ _ W3.drew (HRa.out _ (Ext.drew _)) (HRb.out _ (Ext.drew _)))
          refine WalkN.one 5 (by kernel_rfl) ?_
          refine ⟨_, (by simp only [gtA, gtS, gtZ]; rfl), by rfl, fun K hK => ?_⟩
          go_simp
          refine HSG.out.mono ?_
          rintro e w20 ⟨rfl, hx20⟩
          have X20 := Lib.hid (Ext.trans (Ext.drew W3) hx20)
          refine hK.out _ _ X20.out ?_
          clear hK HSG hx20
          (refine WalkN.tk [6, 7, 8, 10, 11] ?_; (iterate 5 ((refine TkN.c _ ?_ (by simp only [gtA, gtS, gtZ]; rfl) (by kernel_rfl) (by kernel_rfl) (by rfl) (fun W hW => ?_) ?_; rotate_left; · (go_simp; try with_reducible rfl)); simp only [Act.put, puA, puZ, puS])); refine TkN.n ?_)
          have HPT := Lib.hid (pointsR_any w20 (.slice po2 ps3.length pc2) (.slice fo2 fs3.length fc2) ps3 (by have := HPN.out; omega) (HRa.out w20 X20.out).1)
          refine WalkN.one 9 (by kernel_rfl) ?_
          refine ⟨_, (by simp only [gtA, gtS, gtZ]; rfl), by rfl, fun K hK => ?_⟩
          go_simp
          refine HPT.out.mono ?_
          rintro e w21 ⟨v1, l1, rfl, hp1, hs1, ho1, hx21⟩
          have X21 := Lib.hid (Ext.trans X20.out (show Ext w20 w21 from hx21))
          have HU1 := Lib.hid (up_sorted (hs1.imp fun {a b} h => by rw [lt_ordP]; exact h) (hp1.nodup_iff.2 HND.out))
          have HM1 := Lib.hid (fun x => hp1.mem_iff (a := x))
          have HO1 := Lib.hid (ho1.slU)
          refine hK.out _ _ X21.out ?_
          clear hK HPT hp1 hs1 ho1 hx21
          have HSO2 := Lib.hid (sorted_any (.slice po2 ps3.length pc2) ps3 w21 (HRa.out w21 X21.out).1 (by have := HPN.out; omega))
          refine WalkN.one 12 (by kernel_rfl) ?_
          refine ⟨_, (by simp only [gtA, gtS, gtZ]; rfl), by rfl, fun K hK => ?_⟩
          go_simp
          refine HSO2.out.mono ?_
          rintro e w22 ⟨v2, l2, rfl, hu2, hm2, ho2, hx22⟩
          have X22 := Lib.hid (Ext.trans X21.out (show Ext w21 w22 from hx22))
          obtain rfl : l1 = l2 := upP_unique HU1.out hu2 fun x => (HM1.out x).trans (hm2 x).symm
          have HSP := Lib.hid (sameP_any v1 v2 l1 w22 ((HO1.out.same (Same.below hx22)).mono fun _ hb => Nat.lt_of_lt_of_le hb hx22.size) ho2.slU)
          refine hK.out _ _ X22.out ?_
          clear hK HSO2 hu2 hm2 ho2 hx22
          refine WalkN.one 13 (by kernel_rfl) ?_
          refine ⟨_, (by simp only [gtA, gtS, gtZ]; rfl), by rfl, fun K hK => ?_⟩
          go_simp
          refine HSP.out.mono ?_
          rintro e w23 ⟨rfl, hx23⟩
          have X23 := Lib.hid (Ext.trans X22.out (show Ext w22 w23 from hx23))
          refine hK.out _ _ X23.out ?_
          clear hK HSP hx23
          (refine WalkN.tk [14, 15] ?_; (iterate 2 ((refine TkN.c _ ?_ (by simp only [gtA, gtS, gtZ]; rfl) (by kernel_rfl) (by kernel_rfl) (by rfl) (fun W hW => ?_) ?_; rotate_left; · (go_simp; try with_reducible rfl)); simp only [Act.put, puA, puZ, puS])); refine TkN.n ?_)
          refine WalkN.done (by kernel_rfl) ?_
          clear ga gb
          go_wp2
          go_ret
          exact ⟨rfl, Ext.trans HW.out.X X23.out⟩
end Go.Proofs.YtjdigpfipmckhaaGreat
