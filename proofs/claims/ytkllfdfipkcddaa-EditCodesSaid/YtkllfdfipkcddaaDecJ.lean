/- The walk of sentrylaw16.EditCodes. No condition: lemmas. -/
import Derived.Test.YtkllfdfipkcddaaDecG
import Derived.Test.YtkllfdfipkcddaaDecH
import Derived.Test.YtkllfdfipkcddaaDecI
import Derived.Test.YtkllfdfipkcddaaEditW
namespace Go.Proofs.Ytkllfdfipkcddaa
open Go Go.RowKit

set_option maxRecDepth 100000 in
set_option maxHeartbeats 3200000 in
theorem codes_any (av dv : Value) (x : Edi) (w : World) (ha : Sl (· < w.heap.size) w 5 av (tcs x.add)) (hd : Sl (· < w.heap.size) w 1 dv (ic x.drop)) (hx : x.Ok) (hfl : U64 x.floor) (hhd : U64 x.head) :
    Calls Try.prog 5 #[eV av dv x] w (Ret (.bool true) w) := by
  have hb0 : Below w.heap.size w (w.alloc (.cells (eC av dv x) 28)) := (Below.refl _ _).alloc (Nat.le_refl _) _
  have hA := Blk.made w (eC av dv x) 28
  have ha0 := ha.up hb0
  have hd0 := hd.up hb0
  have HFX := Lib.hid (fixed16_any (w.alloc (.cells (eC av dv x) 28)))
  have HG := Lib.hid (fun W h1 h2 => few_any av dv x.add x.drop (.int .u64 x.floor) (.int .u64 x.head) (.int .i64 x.log) (.int .i64 x.next) W h1 h2 hx.add)
  have HE := Lib.hid (fun W h1 h2 hf => encode_any av dv x W h1 h2 hx hfl hhd hf)
  have HR := Lib.hid (fun W h1 h2 n1 n2 => refRight_any av dv x W h1 h2 n1 n2)
  have HL := Lib.hid (fun (hf : fewL x.add x.drop = true) => (show x.add.length ≤ 40 ∧ x.drop.length ≤ 40 by
    unfold fewL at hf
    simp only [Bool.and_eq_true, decide_eq_true_eq] at hf
    exact hf.2))
  have HER := Lib.hid (fun (hr : rightE x = true) (hf : fewL x.add x.drop = true) => (⟨right_tabs hr hf, (right_drop hr).1, (right_drop hr).2.1, (right_drop hr).2.2, hfl, hhd, (HL.out hf).1, (HL.out hf).2⟩ : EdiR x))
  have HRE := Lib.hid (fun W h1 h2 hr => refEncode_any av dv x W h1 h2 hr)
  have HD := Lib.hid (fun v W h hr => decode_any v x W h hr)
  have HRD := Lib.hid (fun v W h hr => refDecode_any v x W h hr)
  have HS := Lib.hid (fun a d a' d' W h1 h2 h3 h4 => sameE_ok a d a' d' x W h1 h2 h3 h4)
  clear ha hd hx hfl hhd
  generalize rightE x = r at *
  generalize encE x = eb at *
  generalize fewL x.add x.drop = f2 at *
  obtain ⟨add, drop, fl, hh, lg, nx⟩ := x
  unfold RetDec at *
  unfold eV at *
  unfold eC at *
  dsimp only at *
  obtain ⟨aao, acp, rfl, _, _, _⟩ := ha0.tabs
  obtain ⟨dao, dcp, rfl, _, _, _⟩ := hd0.ints
  cases f2 with
  | false =>
    go_enter Try.func5, Try.ntmps5
    go_wp2_with fail
    refine HFX.out.mono ?_
    rintro e w1 ⟨rfl, hb1⟩
    have hAc := (hA.below hb1).cells
    have hB1 := hb0.trans (hb1.mono hb0.size)
    go_wp2_with fail
    refine (HG.out _ (ha0.up hb1) (hd0.up hb1)).mono ?_
    rintro e w2 ⟨rfl, hb2⟩
    go_wp2_with fail
    go_ret
    exact ⟨rfl, hB1.trans (hb2.mono hB1.size)⟩
  | true =>
    have hlen := HL.out (by trivial)
    go_enter Try.func5, Try.ntmps5
    go_wp2_with fail
    refine HFX.out.mono ?_
    rintro e w1 ⟨rfl, hb1⟩
    have hAc := (hA.below hb1).cells
    have hB1 := hb0.trans (hb1.mono hb0.size)
    go_wp2_with fail
    refine (HG.out _ (ha0.up hb1) (hd0.up hb1)).mono ?_
    rintro e w2 ⟨rfl, hb2⟩
    have hA2 := (hA.below hb1).below hb2
    have hB2 := hB1.trans (hb2.mono hB1.size)
    have ha2 := (ha0.up hb1).up hb2
    have hd2 := (hd0.up hb1).up hb2
    clear hAc hb1 hb2 hB1 hA ha0 hd0 hb0 HFX HG
    have hAc := hA2.cells
    go_wp2_with fail
    refine (HE.out _ ha2 hd2 (by trivial)).mono ?_
    rintro e w3 ⟨bv, rfl, hS3, hb3⟩
    have hA3 := hA2.below hb3
    have hB3 := hB2.trans (hb3.mono hB2.size)
    have ha3 := ha2.up hb3
    have hd3 := hd2.up hb3
    clear hAc hb3 hB2 hA2 ha2 hd2 HE
    have hAc := hA3.cells
    obtain ⟨bo, bn, bcp, rfl, hbn, hbc, _⟩ := hS3.len
    cases r with
    | false =>
      obtain rfl : bn = 0 := by simp [bc] at hbn; omega
      go_wp2_with fail
      refine (HR.out _ ha3 hd3 (by omega) (by omega)).mono ?_
      rintro e w4 ⟨rfl, hb4⟩
      go_wp2_with fail
      go_ret
      exact ⟨rfl, hB3.trans (hb4.mono hB3.size)⟩
    | true =>
      have hER := HER.out (by trivial) (by trivial)
      rw [if_pos rfl] at hS3
      dsimp only at hS3
      go_wp2_with fail
      refine (HR.out _ ha3 hd3 (by omega) (by omega)).mono ?_
      rintro e w4 ⟨rfl, hb4⟩
      have hA4 := hA3.below hb4
      have hB4 := hB3.trans (hb4.mono hB3.size)
      have ha4 := ha3.up hb4
      have hd4 := hd3.up hb4
      have hS4 := hS3.up hb4
      clear hAc hb4 hB3 hA3 ha3 hd3 hS3 HR
      go_wp2_with fail
      obtain ⟨wd, hwd⟩ : ∃ wd, wd = w4.drew := ⟨_, rfl⟩
      have hAd := hA4.drew
      have hBd := hB4.drew
      have hSd : Sl (· < w4.drew.heap.size) w4.drew 1 _ _ := hS4
      have had : Sl (· < w4.drew.heap.size) w4.drew 5 _ _ := ha4
      have hdd : Sl (· < w4.drew.heap.size) w4.drew 1 _ _ := hd4
      rw [← hwd] at hAd hBd hSd had hdd
      refine region_walkN (Ext wd) (by rw [← hwd]; exact Ext.refl _) (by kernel_rfl) (by kernel_rfl) (fun _ _ d _ _ h => by cases d <;> exact h) ?_
      rw [← hwd]
      clear hwd hA4 hB4 hS4 ha4 hd4
      have h1 : ∀ W, Ext wd W → ∀ i, W.cell? ⟨w.heap.size, i, none⟩ = (#[.slice aao add.length acp, .slice dao drop.length dcp, .int .u64 fl, .int .u64 hh, .int .i64 lg, .int .i64 nx] : Array Value)[i]? := fun W h => (hAd.below h).cells
      have h2 : ∀ W, Ext wd W → (convert 40 9 (.slice bo bn bcp)).run Try.prog W = .ok (.string ⟨eb.toArray⟩) W := fun W h => str_sl (hSd.same (Ext.same h))
      ((refine WalkN.take 0 _ ?_ (by simp only [List.getElem?_toArray, List.getElem?_cons_zero]; rfl) (by kernel_rfl) (by kernel_rfl) (by rfl) (fun W hW => ?_) ?_; rotate_left; · (go_simp; try with_reducible rfl)); simp only [Act.put, List.setIfInBounds_toArray, List.set_cons_zero, List.set_cons_succ]); ((refine WalkN.take 1 _ ?_ (by simp only [List.getElem?_toArray, List.getElem?_cons_succ, List.getElem?_cons_zero]; rfl) (by kernel_rfl) (by kernel_rfl) (by rfl) (fun W hW => ?_) ?_; rotate_left; · (go_simp; try with_reducible rfl)); simp only [Act.put, List.setIfInBounds_toArray, List.set_cons_zero, List.set_cons_succ]); ((refine WalkN.take 2 _ ?_ (by simp only [List.getElem?_toArray, List.getElem?_cons_succ, List.getElem?_cons_zero]; rfl) (by kernel_rfl) (by kernel_rfl) (by rfl) (fun W hW => ?_) ?_; rotate_left; · (go_simp; try with_reducible rfl)); simp only [Act.put, List.setIfInBounds_toArray, List.set_cons_zero, List.set_cons_succ]); ((refine WalkN.take 3 _ ?_ (by simp only [List.getElem?_toArray, List.getElem?_cons_succ, List.getElem?_cons_zero]; rfl) (by kernel_rfl) (by kernel_rfl) (by rfl) (fun W hW => ?_) ?_; rotate_left; · (go_simp; try with_reducible rfl)); simp only [Act.put, List.setIfInBounds_toArray, List.set_cons_zero, List.set_cons_succ]); ((refine WalkN.take 4 _ ?_ (by simp only [List.getElem?_toArray, List.getElem?_cons_succ, List.getElem?_cons_zero]; rfl) (by kernel_rfl) (by kernel_rfl) (by rfl) (fun W hW => ?_) ?_; rotate_left; · (go_simp; try with_reducible rfl)); simp only [Act.put, List.setIfInBounds_toArray, List.set_cons_zero, List.set_cons_succ]); ((refine WalkN.take 5 _ ?_ (by simp only [List.getElem?_toArray, List.getElem?_cons_succ, List.getElem?_cons_zero]; rfl) (by kernel_rfl) (by kernel_rfl) (by rfl) (fun W hW => ?_) ?_; rotate_left; · (go_simp; try with_reducible rfl)); simp only [Act.put, List.setIfInBounds_toArray, List.set_cons_zero, List.set_cons_succ])
      clear h1 h2
      refine WalkN.one 6 (by kernel_rfl) ?_
      refine ⟨_, (by simp only [List.getElem?_toArray, List.getElem?_cons_succ, List.getElem?_cons_zero]; rfl), by rfl, fun K hK => ?_⟩
      go_simp
      refine (HRE.out _ had hdd hER).mono ?_
      rintro e w5 ⟨cv, rfl, hS5, hb5⟩
      have hE5 : Ext wd w5 := hb5
      refine hK.out _ _ hE5 ?_
      clear hK
      have h2 := str_sl (v := cv) hS5
      refine WalkN.one 7 (by kernel_rfl) ?_
      refine ⟨_, (by simp only [List.getElem?_toArray, List.getElem?_cons_succ, List.getElem?_cons_zero]; rfl), by rfl, fun K hK => ?_⟩
      go_simp
      refine hK.out _ _ hE5 ?_
      clear hK h2
      ((refine WalkN.take 8 _ ?_ (by simp only [List.getElem?_toArray, List.getElem?_cons_succ, List.getElem?_cons_zero]; rfl) (by kernel_rfl) (by kernel_rfl) (by rfl) (fun W hW => ?_) ?_; rotate_left; · (go_simp; try with_reducible rfl)); simp only [Act.put, List.setIfInBounds_toArray, List.set_cons_zero, List.set_cons_succ]); ((refine WalkN.take 9 _ ?_ (by simp only [List.getElem?_toArray, List.getElem?_cons_succ, List.getElem?_cons_zero]; rfl) (by kernel_rfl) (by kernel_rfl) (by rfl) (fun W hW => ?_) ?_; rotate_left; · (go_simp; try with_reducible rfl)); simp only [Act.put, List.setIfInBounds_toArray, List.set_cons_zero, List.set_cons_succ])
      refine WalkN.done (by kernel_rfl) ?_
      have hA5 := hAd.below hE5
      have hB5 := hBd.trans (Below.mono hE5 hBd.size)
      have ha5 := had.up hE5
      have hd5 := hdd.up hE5
      have hS5' := hSd.up hE5
      clear hAd hBd had hdd hSd hb5 hE5 hS5
      go_wp2_with fail
      refine (HD.out _ _ hS5' hER).mono ?_
      rintro e w6 ⟨yv, zv, rfl, hy6, hz6, hb6⟩
      obtain ⟨yo, yn, yc, rfl, _, _⟩ := hy6.len
      obtain ⟨zo, zn, zc, rfl, _, _⟩ := hz6.len
      have hE7 : Below w6.heap.size w6 (w6.alloc (.cells #[.slice yo yn yc, .slice zo zn zc, .int .u64 fl, .int .u64 hh, .int .i64 lg, .int .i64 nx] 28)) := (Below.refl _ _).alloc (Nat.le_refl _) _
      have hY7 := Blk.made w6 #[.slice yo yn yc, .slice zo zn zc, .int .u64 fl, .int .u64 hh, .int .i64 lg, .int .i64 nx] 28
      have hA7 := (hA5.below hb6).below hE7
      have hB6 := hB5.trans (hb6.mono hB5.size)
      have hB7 := hB6.trans (hE7.mono hB6.size)
      have ha7 := (ha5.up hb6).up hE7
      have hd7 := (hd5.up hb6).up hE7
      have hS7 := (hS5'.up hb6).up hE7
      have hy7 := hy6.up hE7
      have hz7 := hz6.up hE7
      clear hA5 hB5 ha5 hd5 hS5' hy6 hz6 hb6 hB6 hE7
      go_wp2_with fail
      generalize hg7 : w6.alloc (.cells #[.slice yo yn yc, .slice zo zn zc, .int .u64 fl, .int .u64 hh, .int .i64 lg, .int .i64 nx] 28) = w7 at *
      refine (HRD.out _ _ hS7 hER).mono ?_
      rintro e w8 ⟨uv, tv, rfl, hu8, ht8, hb8⟩
      obtain ⟨uo, un, uc, rfl, _, _⟩ := hu8.len
      obtain ⟨to, tn, tc, rfl, _, _⟩ := ht8.len
      have hE9 : Below w8.heap.size w8 (w8.alloc (.cells #[.slice uo un uc, .slice to tn tc, .int .u64 fl, .int .u64 hh, .int .i64 lg, .int .i64 nx] 28)) := (Below.refl _ _).alloc (Nat.le_refl _) _
      have hU9 := Blk.made w8 #[.slice uo un uc, .slice to tn tc, .int .u64 fl, .int .u64 hh, .int .i64 lg, .int .i64 nx] 28
      have hA9 := (hA7.below hb8).below hE9
      have hY9 := (hY7.below hb8).below hE9
      have hB8 := hB7.trans (hb8.mono hB7.size)
      have hB9 := hB8.trans (hE9.mono hB8.size)
      have ha9 := (ha7.up hb8).up hE9
      have hd9 := (hd7.up hb8).up hE9
      have hy9 := (hy7.up hb8).up hE9
      have hz9 := (hz7.up hb8).up hE9
      have hu9 := hu8.up hE9
      have ht9 := ht8.up hE9
      clear hA7 hB7 ha7 hd7 hS7 hy7 hz7 hb8 hB8 hE9 hu8 ht8 hY7 hg7
      have hYc := hY9.cells
      have hUc := hU9.cells
      go_wp2_with fail
      generalize w8.alloc (.cells #[.slice uo un uc, .slice to tn tc, .int .u64 fl, .int .u64 hh, .int .i64 lg, .int .i64 nx] 28) = w9 at *
      refine (HS.out _ _ _ _ w9 hy9 hz9 hu9 ht9).mono ?_
      rintro e w10 ⟨rfl, hb10⟩
      have hYc2 := (hY9.below hb10).cells
      have hAc2 := (hA9.below hb10).cells
      clear hYc hUc
      go_wp2_with fail
      refine (HS.out _ _ _ _ w10 (ha9.up hb10) (hd9.up hb10) (hy9.up hb10) (hz9.up hb10)).mono ?_
      rintro e w11 ⟨rfl, hb11⟩
      have hB10 := hB9.trans (hb10.mono hB9.size)
      go_wp2_with fail
      go_ret
      exact ⟨rfl, hB10.trans (hb11.mono hB10.size)⟩

end Go.Proofs.Ytkllfdfipkcddaa
