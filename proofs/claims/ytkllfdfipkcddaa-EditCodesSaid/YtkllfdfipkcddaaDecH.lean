/- The walk of the document's Encode. No condition: lemmas. -/
import Derived.Test.YtkllfdfipkcddaaDecD
namespace Go.Proofs.Ytkllfdfipkcddaa
open Go Go.RowKit

/-- A row of bytes that stands anywhere. -/
def SlB (w : World) (v : Value) (ys : List UInt8) : Prop := Sl (· < w.heap.size) w 1 v (bc ys)

set_option maxRecDepth 100000 in
set_option maxHeartbeats 3200000 in
theorem refEncode_any (av dv : Value) (x : Edi) (w : World) (ha : Sl (· < w.heap.size) w 5 av (tcs x.add)) (hd : Sl (· < w.heap.size) w 1 dv (ic x.drop)) (hx : EdiR x) :
    Calls Try.prog 14 #[eV av dv x] w (fun e w' => ∃ v, e = .returned v ∧ Sl (· < w'.heap.size) w' 1 v (bc (encE x)) ∧ Below w.heap.size w w') := by
  obtain ⟨add, drop, fl, hd', lg, nx⟩ := x
  obtain ⟨xadd, xdrop, xlog, xnext, xfloor, xhead, ha40, hd40⟩ := hx
  dsimp only at *
  obtain ⟨lg, rfl⟩ : ∃ q : Nat, lg = q := ⟨lg.toNat, by unfold In62 at xlog; omega⟩
  obtain ⟨nx, rfl⟩ : ∃ q : Nat, nx = q := ⟨nx.toNat, by unfold In62 at xnext; omega⟩
  have ulg : U64 lg := by unfold In62 at xlog; unfold U64; omega
  have unx : U64 nx := by unfold In62 at xnext; unfold U64; omega
  have hEE : encE ⟨add, drop, fl, hd', lg, nx⟩ = [] ++ putB add.length ++ encA add ++ putB drop.length ++ putsI drop ++ putB fl ++ putB hd' ++ putB lg ++ putB nx := by simp [encE, putsI]
  have hAl := encA_len add xadd
  have hDl := putsI_len drop xdrop
  have l1 := U64.len (q := fl) xfloor
  have l2 := U64.len (q := hd') xhead
  have l3 := U64.len (q := lg) ulg
  have l5 := U64.len (q := drop.length) (by unfold U64; omega)
  have l6 := U64.len (q := add.length) (by unfold U64; omega)
  have HEE := Lib.hid hEE
  have hb0 : Below w.heap.size w (w.alloc (.cells (eC av dv ⟨add, drop, fl, hd', lg, nx⟩) 28)) := (Below.refl _ _).alloc (Nat.le_refl _) _
  have hA := Blk.made w (eC av dv ⟨add, drop, fl, hd', lg, nx⟩) 28
  unfold eV
  unfold eC at *
  dsimp only at *
  obtain ⟨aao, acp, rfl, hac, ham, hacell⟩ := ha.tabs
  obtain ⟨dao, dcp, rfl, hdc, hdm, hdcell⟩ := hd.ints
  have HAC := Lib.hid hacell
  have HDC := Lib.hid hdcell
  have HXA := Lib.hid xadd
  have HXD := Lib.hid xdrop
  have hw0 : IntKind.u64.wrap (add.length : Int) = add.length := U64.wrap (by unfold U64; omega)
  have HP0 := Lib.hid (refPut_any (.slice none 0 0) [] add.length _ (Sl.nil _ (w.alloc (.cells #[.slice aao add.length acp, .slice dao drop.length dcp, .int .u64 fl, .int .u64 hd', .int .i64 lg, .int .i64 nx] 28)) 1) (by simp) (by unfold U64; omega))
  have hAc := hA.cells
  clear hacell hdcell xadd xdrop hEE xlog xnext
  go_enter Try.func14, Try.ntmps14
  go_wp2_with fail
  refine HP0.out.mono ?_
  rintro e w1 ⟨v1, rfl, happ1, hb1⟩
  have hA1 := hA.below hb1
  have hB1 := hb0.trans (hb1.mono hb0.size)
  have hS1 := happ1.sl
  have hc1 := hA1.cells
  have hY : ([] ++ putB add.length).length ≤ 10 := by simpa using l6
  generalize hys : [] ++ putB add.length = Y0 at *
  have HY00 := Lib.hid hys
  clear happ1 HP0 hAc hb1 hA hb0 hw0 hys
  go_wp2_with fail
  go_loopw [3, 18] (fun vv ii wr => ∃ i : Nat, i ≤ add.length ∧ ii = .int .i64 i ∧ Sl (· < wr.heap.size) wr 1 vv (bc (Y0 ++ encA (add.take i))) ∧ Blk wr w.heap.size #[.slice aao add.length acp, .slice dao drop.length dcp, .int .u64 fl, .int .u64 hd', .int .i64 lg, .int .i64 nx] 28 ∧ Below w.heap.size w wr) (fun _ ii _ => add.length - (intOf ii).toNat)
  case atStart => exact ⟨0, by omega, rfl, by simpa [encA] using hS1, hA1, hB1⟩
  case round =>
    obtain ⟨i, hi, rfl, hS, hA, hB⟩ := hrel
    clear hS1 hA1 hB1 hc1
    by_cases hlt : i < add.length
    · obtain ⟨b, off, rfl, hb, hc⟩ := HAC.out (by omega)
      obtain ⟨c0, c1, c2, c3, c4⟩ := hc i hlt
      have c0 := (hB.cell (p := ⟨b, off + i * 5, none⟩) hb).trans c0
      have c1 := (hB.cell (p := ⟨b, off + i * 5 + 1, none⟩) hb).trans c1
      have c2 := (hB.cell (p := ⟨b, off + i * 5 + 2, none⟩) hb).trans c2
      have c3 := (hB.cell (p := ⟨b, off + i * 5 + 3, none⟩) hb).trans c3
      have c4 := (hB.cell (p := ⟨b, off + i * 5 + 4, none⟩) hb).trans c4
      have HET := Lib.hid (encA_take hlt)
      have hR := HXA.out _ (List.getElem_mem hlt)
      have hLT := encA_len (add.take i) (fun t ht => HXA.out t (List.mem_of_mem_take ht))
      have HYL : (Y0 ++ encA (add.take i)).length ≤ 15000 := by rw [List.length_append]; rw [List.length_take] at hLT; omega
      clear hc hLT
      generalize add[i] = t at *
      generalize hys : Y0 ++ encA (add.take i) = ys at *
      have HYS := Lib.hid hys
      clear hys
      obtain ⟨tn, tl, ts, tf, tla⟩ := t
      have hn1 := hR.num
      have hn2 := hR.lvl
      have hn3 := hR.size
      have hsh := hR.short
      dsimp only at *
      obtain ⟨tn, rfl⟩ : ∃ q : Nat, tn = q := ⟨tn.toNat, by unfold In62 at hn1; omega⟩
      obtain ⟨tl, rfl⟩ : ∃ q : Nat, tl = q := ⟨tl.toNat, by unfold In62 at hn2; omega⟩
      obtain ⟨ts, rfl⟩ : ∃ q : Nat, ts = q := ⟨ts.toNat, by unfold In62 at hn3; omega⟩
      have u1 : U64 tn := by unfold In62 at hn1; unfold U64; omega
      have u2 : U64 tl := by unfold In62 at hn2; unfold U64; omega
      have u3 : U64 ts := by unfold In62 at hn3; unfold U64; omega
      have g1 := u1.wrap
      have g2 := u2.wrap
      have g3 := u3.wrap
      have k1 := u1.len
      have k2 := u2.len
      have k3 := u3.len
      have k4 := putT_len tf (by omega)
      have HX := Lib.hid (show ys ++ putB tn ++ putB tl ++ putB ts ++ putT tf.data.toList ++ putT tla.data.toList = ys ++ encT ⟨tn, tl, ts, tf, tla⟩ from by simp [encT, putsI])
      have hTb := (Blk.made wr #[.int .i64 tn, .int .i64 tl, .int .i64 ts, .string tf, .string tla] 38).alloc (.cells #[.int .i64 tn, .int .i64 tl, .int .i64 ts] 3)
      have hTc0 := (Blk.made wr #[.int .i64 tn, .int .i64 tl, .int .i64 ts, .string tf, .string tla] 38).cells
      have hLb := Blk.made' (w := wr.alloc (.cells #[.int .i64 tn, .int .i64 tl, .int .i64 ts, .string tf, .string tla] 38)) (B := wr.heap.size + 1) (by simp) #[.int .i64 tn, .int .i64 tl, .int .i64 ts] 3
      have hLc := hLb.cells
      have hEb : Below wr.heap.size wr ((wr.alloc (.cells #[.int .i64 tn, .int .i64 tl, .int .i64 ts, .string tf, .string tla] 38)).alloc (.cells #[.int .i64 tn, .int .i64 tl, .int .i64 ts] 3)) := ((Below.refl _ _).alloc (Nat.le_refl _) _).alloc (by simp) _
      have HP1 := Lib.hid (refPut_any _ ys tn _ (hS.up hEb) (by omega) u1)
      have hA0 := hA.below hEb
      have hB0 := hB.trans (hEb.mono hB.size)
      have hsr := hA.lt
      clear hR hn1 hn2 hn3 hEb hA hB hS
      go_wp2_with fail
      refine wp_loop_rounds 4 ?_
      rw [rounds_succ]
      go_wp2_with fail
      refine HP1.out.mono ?_
      rintro e w2 ⟨v2, rfl, happ2, hb2⟩
      have hTb := hTb.below hb2
      have hLb := hLb.below hb2
      have hA0 := hA0.below hb2
      have hB0 := hB0.trans (hb2.mono hB0.size)
      have hS2 := happ2.sl
      have hLc2 := hLb.cells
      have HP2 := Lib.hid (refPut_any _ _ tl _ hS2 (by simp only [List.length_append]; omega) u2)
      clear HP1 happ2 hb2 hS2
      go_wp2_with fail
      rw [rounds_succ]
      go_wp2_with fail
      refine HP2.out.mono ?_
      rintro e w3 ⟨v3, rfl, happ3, hb3⟩
      have hTb := hTb.below hb3
      have hLb := hLb.below hb3
      have hA0 := hA0.below hb3
      have hB0 := hB0.trans (hb3.mono hB0.size)
      have hS3 := happ3.sl
      have hLc3 := hLb.cells
      have HP3 := Lib.hid (refPut_any _ _ ts _ hS3 (by simp only [List.length_append]; omega) u3)
      clear HP2 happ3 hb3 hS3
      go_wp2_with fail
      rw [rounds_succ]
      go_wp2_with fail
      refine HP3.out.mono ?_
      rintro e w4 ⟨v4, rfl, happ4, hb4⟩
      have hTb := hTb.below hb4
      have hLb := hLb.below hb4
      have hA0 := hA0.below hb4
      have hB0 := hB0.trans (hb4.mono hB0.size)
      have hS4 := happ4.sl
      clear HP3 happ4 hb4
      go_wp2_with fail
      rw [rounds_succ]
      go_wp2_with fail
      obtain ⟨wd, hwd⟩ : ∃ wd, wd = w4.drew := ⟨_, rfl⟩
      have hTd := hTb.drew
      have hAd := hA0.drew
      have hSd : Sl (· < w4.drew.heap.size) w4.drew 1 v4 _ := hS4
      have hBd := hB0.drew
      rw [← hwd] at hTd hAd hSd hBd
      refine region_walkN (Ext wd) (by rw [← hwd]; exact Ext.refl _) (by kernel_rfl) (by kernel_rfl) (fun _ _ d _ _ h => by cases d <;> exact h) ?_
      rw [← hwd]
      clear hwd hTb hA0 hB0 hS4 hLb
      have hTW : ∀ W, Ext wd W → ∀ i, W.cell? ⟨wr.heap.size, i, none⟩ = (#[.int .i64 tn, .int .i64 tl, .int .i64 ts, .string tf, .string tla] : Array Value)[i]? := fun W h => (hTd.below h).cells
      ((refine WalkN.take 0 _ ?_ (by simp only [List.getElem?_toArray, List.getElem?_cons_zero]; rfl) (by kernel_rfl) (by kernel_rfl) (by rfl) (fun W hW => ?_) ?_; rotate_left; · (go_simp; try with_reducible rfl)); simp only [Act.put, List.setIfInBounds_toArray, List.set_cons_zero, List.set_cons_succ]); ((refine WalkN.take 1 _ ?_ (by simp only [List.getElem?_toArray, List.getElem?_cons_succ, List.getElem?_cons_zero]; rfl) (by kernel_rfl) (by kernel_rfl) (by rfl) (fun W hW => ?_) ?_; rotate_left; · (go_simp; try with_reducible rfl)); simp only [Act.put, List.setIfInBounds_toArray, List.set_cons_zero, List.set_cons_succ]); ((refine WalkN.take 2 _ ?_ (by simp only [List.getElem?_toArray, List.getElem?_cons_succ, List.getElem?_cons_zero]; rfl) (by kernel_rfl) (by kernel_rfl) (by rfl) (fun W hW => ?_) ?_; rotate_left; · (go_simp; try with_reducible rfl)); simp only [Act.put, List.setIfInBounds_toArray, List.set_cons_zero, List.set_cons_succ]); ((refine WalkN.take 4 _ ?_ (by simp only [List.getElem?_toArray, List.getElem?_cons_succ, List.getElem?_cons_zero]; rfl) (by kernel_rfl) (by kernel_rfl) (by rfl) (fun W hW => ?_) ?_; rotate_left; · (go_simp; try with_reducible rfl)); simp only [Act.put, List.setIfInBounds_toArray, List.set_cons_zero, List.set_cons_succ]); ((refine WalkN.take 5 _ ?_ (by simp only [List.getElem?_toArray, List.getElem?_cons_succ, List.getElem?_cons_zero]; rfl) (by kernel_rfl) (by kernel_rfl) (by rfl) (fun W hW => ?_) ?_; rotate_left; · (go_simp; try with_reducible rfl)); simp only [Act.put, List.setIfInBounds_toArray, List.set_cons_zero, List.set_cons_succ])
      clear hTW
      have HP4 := Lib.hid (refPutText_any _ _ tf wd hSd (by simp only [List.length_append]; omega) (by omega))
      refine WalkN.one 3 (by kernel_rfl) ?_
      refine ⟨_, (by simp only [List.getElem?_toArray, List.getElem?_cons_succ, List.getElem?_cons_zero]; rfl), by rfl, fun K hK => ?_⟩
      go_simp
      refine HP4.out.mono ?_
      rintro e w5 ⟨v5, rfl, happ5, hb5⟩
      have hE5 : Ext wd w5 := hb5
      refine hK.out _ _ hE5 ?_
      clear hK
      have HP5 := Lib.hid (refPutText_any _ _ tla w5 happ5.sl (by simp only [List.length_append]; omega) (by omega))
      refine WalkN.one 6 (by kernel_rfl) ?_
      refine ⟨_, (by simp only [List.getElem?_toArray, List.getElem?_cons_succ, List.getElem?_cons_zero]; rfl), by rfl, fun K hK => ?_⟩
      go_simp
      refine HP5.out.mono ?_
      rintro e w6 ⟨v6, rfl, happ6, hb6⟩
      have hE6 : Ext wd w6 := hE5.trans hb6
      refine hK.out _ _ hE6 ?_
      clear hK
      ((refine WalkN.take 7 _ ?_ (by simp only [List.getElem?_toArray, List.getElem?_cons_succ, List.getElem?_cons_zero]; rfl) (by kernel_rfl) (by kernel_rfl) (by rfl) (fun W hW => ?_) ?_; rotate_left; · (go_simp; try with_reducible rfl)); simp only [Act.put, List.setIfInBounds_toArray, List.set_cons_zero, List.set_cons_succ])
      refine WalkN.done (by kernel_rfl) ?_
      have hA6 := hAd.below hE6
      have hB6 := hBd.trans (Below.mono hE6 hBd.size)
      have hS6 := happ6.sl
      go_wp2
      go_roundw
      case rel =>
        refine ⟨i + 1, by omega, by go_num, ?_, hA6, hB6⟩
        rw [HET.out, ← List.append_assoc, HYS.out, ← HX.out]
        exact hS6
      case measure => simp [intOf]; omega
    · obtain rfl : i = add.length := by omega
      rw [List.take_length] at hS
      have hw0 : IntKind.u64.wrap (drop.length : Int) = drop.length := U64.wrap (by unfold U64; omega)
      have HP1 := Lib.hid (refPut_any _ _ drop.length _ hS (by simp only [List.length_append]; omega) (by unfold U64; omega))
      have hAc := hA.cells
      go_wp2_with fail
      refine HP1.out.mono ?_
      rintro e w2 ⟨v2, rfl, happ2, hb2⟩
      have hA2 := hA.below hb2
      have hB2 := hB.trans (hb2.mono hB.size)
      have hS2 := happ2.sl
      have hc2 := hA2.cells
      have HY0 := Lib.hid hY
      generalize hys : Y0 ++ encA add ++ putB drop.length = Y1 at *
      have HYS := Lib.hid hys
      have hY1 : Y1.length ≤ 15000 := by rw [← hys]; simp only [List.length_append]; omega
      clear hA hB hS HP1 happ2 hb2 hAc hw0 hys
      go_wp2_with fail
      go_loopw [3, 56] (fun vv ii wr => ∃ i : Nat, i ≤ drop.length ∧ ii = .int .i64 i ∧ Sl (· < wr.heap.size) wr 1 vv (bc (Y1 ++ putsI (drop.take i))) ∧ Blk wr w.heap.size #[.slice aao add.length acp, .slice dao drop.length dcp, .int .u64 fl, .int .u64 hd', .int .i64 lg, .int .i64 nx] 28 ∧ Below w.heap.size w wr) (fun _ ii _ => drop.length - (intOf ii).toNat)
      case atStart => exact ⟨0, by omega, rfl, by simpa [putsI] using hS2, hA2, hB2⟩
      case round =>
        obtain ⟨i, hi, rfl, hS, hA, hB⟩ := hrel
        clear hS2 hA2 hB2 hc2
        by_cases hlt : i < drop.length
        · obtain ⟨b, off, rfl, hb, hc⟩ := HDC.out (by omega)
          have c0 := hc i hlt
          have c0 := (hB.cell (p := ⟨b, off + i, none⟩) hb).trans c0
          have HET := Lib.hid (putsI_take hlt)
          have hR := HXD.out _ (List.getElem_mem hlt)
          have hLT := putsI_len (drop.take i) (fun t ht => HXD.out t (List.mem_of_mem_take ht))
          have HYL : (Y1 ++ putsI (drop.take i)).length ≤ 25000 := by rw [List.length_append]; rw [List.length_take] at hLT; omega
          clear hc hLT
          generalize drop[i] = z at *
          obtain ⟨z, rfl⟩ : ∃ q : Nat, z = q := ⟨z.toNat, by unfold In62 at hR; omega⟩
          have u1 : U64 z := by unfold In62 at hR; unfold U64; omega
          have g1 := u1.wrap
          have HP1 := Lib.hid (refPut_any _ _ z _ hS (by omega) u1)
          clear hR
          go_wp2_with fail
          refine HP1.out.mono ?_
          rintro e w3 ⟨v3, rfl, happ3, hb3⟩
          have hA3 := hA.below hb3
          have hB3 := hB.trans (hb3.mono hB.size)
          have hS3 := happ3.sl
          clear hA hB hS HP1 happ3 hb3
          go_wp2
          go_roundw
          case rel =>
            refine ⟨i + 1, by omega, by go_num, ?_, hA3, hB3⟩
            rw [HET.out, ← List.append_assoc]
            exact hS3
          case measure => simp [intOf]; omega
        · obtain rfl : i = drop.length := by omega
          rw [List.take_length] at hS
          go_wp2_with fail
          obtain ⟨wd, hwd⟩ : ∃ wd, wd = wr.drew := ⟨_, rfl⟩
          have hAd := hA.drew
          have hSd : Sl (· < wr.drew.heap.size) wr.drew 1 _ _ := hS
          have hBd := hB.drew
          rw [← hwd] at hAd hSd hBd
          refine region_walkN (Ext wd) (by rw [← hwd]; exact Ext.refl _) (by kernel_rfl) (by kernel_rfl) (fun _ _ d _ _ h => by cases d <;> exact h) ?_
          rw [← hwd]
          clear hwd hA hB hS
          have hTW : ∀ W, Ext wd W → ∀ i, W.cell? ⟨w.heap.size, i, none⟩ = (#[.slice aao add.length acp, .slice dao drop.length dcp, .int .u64 fl, .int .u64 hd', .int .i64 lg, .int .i64 nx] : Array Value)[i]? := fun W h => (hAd.below h).cells
          ((refine WalkN.take 0 _ ?_ (by simp only [List.getElem?_toArray, List.getElem?_cons_zero]; rfl) (by kernel_rfl) (by kernel_rfl) (by rfl) (fun W hW => ?_) ?_; rotate_left; · (go_simp; try with_reducible rfl)); simp only [Act.put, List.setIfInBounds_toArray, List.set_cons_zero, List.set_cons_succ]); ((refine WalkN.take 1 _ ?_ (by simp only [List.getElem?_toArray, List.getElem?_cons_succ, List.getElem?_cons_zero]; rfl) (by kernel_rfl) (by kernel_rfl) (by rfl) (fun W hW => ?_) ?_; rotate_left; · (go_simp; try with_reducible rfl)); simp only [Act.put, List.setIfInBounds_toArray, List.set_cons_zero, List.set_cons_succ]); ((refine WalkN.take 2 _ ?_ (by simp only [List.getElem?_toArray, List.getElem?_cons_succ, List.getElem?_cons_zero]; rfl) (by kernel_rfl) (by kernel_rfl) (by rfl) (fun W hW => ?_) ?_; rotate_left; · (go_simp; try with_reducible rfl)); simp only [Act.put, List.setIfInBounds_toArray, List.set_cons_zero, List.set_cons_succ]); ((refine WalkN.take 4 _ ?_ (by simp only [List.getElem?_toArray, List.getElem?_cons_succ, List.getElem?_cons_zero]; rfl) (by kernel_rfl) (by kernel_rfl) (by rfl) (fun W hW => ?_) ?_; rotate_left; · (go_simp; try with_reducible rfl)); simp only [Act.put, List.setIfInBounds_toArray, List.set_cons_zero, List.set_cons_succ]); ((refine WalkN.take 5 _ ?_ (by simp only [List.getElem?_toArray, List.getElem?_cons_succ, List.getElem?_cons_zero]; rfl) (by kernel_rfl) (by kernel_rfl) (by rfl) (fun W hW => ?_) ?_; rotate_left; · (go_simp; try with_reducible rfl)); simp only [Act.put, List.setIfInBounds_toArray, List.set_cons_zero, List.set_cons_succ])
          clear hTW
          have HP4 := Lib.hid (refPut_any _ _ fl wd hSd (by simp only [List.length_append]; omega) xfloor)
          refine WalkN.one 3 (by kernel_rfl) ?_
          refine ⟨_, (by simp only [List.getElem?_toArray, List.getElem?_cons_succ, List.getElem?_cons_zero]; rfl), by rfl, fun K hK => ?_⟩
          go_simp
          refine HP4.out.mono ?_
          rintro e w5 ⟨v5, rfl, happ5, hb5⟩
          have hE5 : Ext wd w5 := hb5
          refine hK.out _ _ hE5 ?_
          clear hK
          have HP5 := Lib.hid (refPut_any _ _ hd' w5 happ5.sl (by simp only [List.length_append]; omega) xhead)
          refine WalkN.one 6 (by kernel_rfl) ?_
          refine ⟨_, (by simp only [List.getElem?_toArray, List.getElem?_cons_succ, List.getElem?_cons_zero]; rfl), by rfl, fun K hK => ?_⟩
          go_simp
          refine HP5.out.mono ?_
          rintro e w6 ⟨v6, rfl, happ6, hb6⟩
          have hE6 : Ext wd w6 := hE5.trans hb6
          refine hK.out _ _ hE6 ?_
          clear hK
          ((refine WalkN.take 7 _ ?_ (by simp only [List.getElem?_toArray, List.getElem?_cons_succ, List.getElem?_cons_zero]; rfl) (by kernel_rfl) (by kernel_rfl) (by rfl) (fun W hW => ?_) ?_; rotate_left; · (go_simp; try with_reducible rfl)); simp only [Act.put, List.setIfInBounds_toArray, List.set_cons_zero, List.set_cons_succ])
          refine WalkN.done (by kernel_rfl) ?_
          have hA6 := hAd.below hE6
          have hB6 := hBd.trans (Below.mono hE6 hBd.size)
          have hS6 := happ6.sl
          clear hAd hSd hBd HP4 HP5 happ5 happ6 hb5 hb6 hE5 hE6
          go_wp2_with fail
          obtain ⟨wd2, hwd⟩ : ∃ wd2, wd2 = w6.drew := ⟨_, rfl⟩
          have hAd := hA6.drew
          have hSd : Sl (· < w6.drew.heap.size) w6.drew 1 _ _ := hS6
          have hBd := hB6.drew
          rw [← hwd] at hAd hSd hBd
          refine region_walkN (Ext wd2) (by rw [← hwd]; exact Ext.refl _) (by kernel_rfl) (by kernel_rfl) (fun _ _ d _ _ h => by cases d <;> exact h) ?_
          rw [← hwd]
          clear hwd hA6 hB6 hS6
          have hTW : ∀ W, Ext wd2 W → ∀ i, W.cell? ⟨w.heap.size, i, none⟩ = (#[.slice aao add.length acp, .slice dao drop.length dcp, .int .u64 fl, .int .u64 hd', .int .i64 lg, .int .i64 nx] : Array Value)[i]? := fun W h => (hAd.below h).cells
          have g1 := ulg.wrap
          have g2 := unx.wrap
          ((refine WalkN.take 0 _ ?_ (by simp only [List.getElem?_toArray, List.getElem?_cons_zero]; rfl) (by kernel_rfl) (by kernel_rfl) (by rfl) (fun W hW => ?_) ?_; rotate_left; · (go_simp; try with_reducible rfl)); simp only [Act.put, List.setIfInBounds_toArray, List.set_cons_zero, List.set_cons_succ]); ((refine WalkN.take 1 _ ?_ (by simp only [List.getElem?_toArray, List.getElem?_cons_succ, List.getElem?_cons_zero]; rfl) (by kernel_rfl) (by kernel_rfl) (by rfl) (fun W hW => ?_) ?_; rotate_left; · (go_simp; try with_reducible rfl)); simp only [Act.put, List.setIfInBounds_toArray, List.set_cons_zero, List.set_cons_succ]); ((refine WalkN.take 2 _ ?_ (by simp only [List.getElem?_toArray, List.getElem?_cons_succ, List.getElem?_cons_zero]; rfl) (by kernel_rfl) (by kernel_rfl) (by rfl) (fun W hW => ?_) ?_; rotate_left; · (go_simp; try with_reducible rfl)); simp only [Act.put, List.setIfInBounds_toArray, List.set_cons_zero, List.set_cons_succ]); ((refine WalkN.take 3 _ ?_ (by simp only [List.getElem?_toArray, List.getElem?_cons_succ, List.getElem?_cons_zero]; rfl) (by kernel_rfl) (by kernel_rfl) (by rfl) (fun W hW => ?_) ?_; rotate_left; · (go_simp; try with_reducible rfl)); simp only [Act.put, List.setIfInBounds_toArray, List.set_cons_zero, List.set_cons_succ]); ((refine WalkN.take 5 _ ?_ (by simp only [List.getElem?_toArray, List.getElem?_cons_succ, List.getElem?_cons_zero]; rfl) (by kernel_rfl) (by kernel_rfl) (by rfl) (fun W hW => ?_) ?_; rotate_left; · (go_simp; try with_reducible rfl)); simp only [Act.put, List.setIfInBounds_toArray, List.set_cons_zero, List.set_cons_succ]); ((refine WalkN.take 6 _ ?_ (by simp only [List.getElem?_toArray, List.getElem?_cons_succ, List.getElem?_cons_zero]; rfl) (by kernel_rfl) (by kernel_rfl) (by rfl) (fun W hW => ?_) ?_; rotate_left; · (go_simp; try with_reducible rfl)); simp only [Act.put, List.setIfInBounds_toArray, List.set_cons_zero, List.set_cons_succ]); ((refine WalkN.take 7 _ ?_ (by simp only [List.getElem?_toArray, List.getElem?_cons_succ, List.getElem?_cons_zero]; rfl) (by kernel_rfl) (by kernel_rfl) (by rfl) (fun W hW => ?_) ?_; rotate_left; · (go_simp; try with_reducible rfl)); simp only [Act.put, List.setIfInBounds_toArray, List.set_cons_zero, List.set_cons_succ])
          clear hTW
          have HP4 := Lib.hid (refPut_any _ _ lg wd2 hSd (by simp only [List.length_append]; omega) ulg)
          refine WalkN.one 4 (by kernel_rfl) ?_
          refine ⟨_, (by simp only [List.getElem?_toArray, List.getElem?_cons_succ, List.getElem?_cons_zero]; rfl), by rfl, fun K hK => ?_⟩
          go_simp
          refine HP4.out.mono ?_
          rintro e w7 ⟨v7, rfl, happ7, hb7⟩
          have hE5 : Ext wd2 w7 := hb7
          refine hK.out _ _ hE5 ?_
          clear hK
          have HP5 := Lib.hid (refPut_any _ _ nx w7 happ7.sl (by simp only [List.length_append]; omega) unx)
          refine WalkN.one 8 (by kernel_rfl) ?_
          refine ⟨_, (by simp only [List.getElem?_toArray, List.getElem?_cons_succ, List.getElem?_cons_zero]; rfl), by rfl, fun K hK => ?_⟩
          go_simp
          refine HP5.out.mono ?_
          rintro e w8 ⟨v8, rfl, happ8, hb8⟩
          have hE6 : Ext wd2 w8 := hE5.trans hb8
          refine hK.out _ _ hE6 ?_
          clear hK
          ((refine WalkN.take 9 _ ?_ (by simp only [List.getElem?_toArray, List.getElem?_cons_succ, List.getElem?_cons_zero]; rfl) (by kernel_rfl) (by kernel_rfl) (by rfl) (fun W hW => ?_) ?_; rotate_left; · (go_simp; try with_reducible rfl)); simp only [Act.put, List.setIfInBounds_toArray, List.set_cons_zero, List.set_cons_succ])
          refine WalkN.done (by kernel_rfl) ?_
          have hB6 := hBd.trans (Below.mono hE6 hBd.size)
          have hS6 := happ8.sl
          rw [← HEE.out] at hS6
          go_wp2
          go_ret
          exact ⟨v8, rfl, hS6, hB6⟩

end Go.Proofs.Ytkllfdfipkcddaa
