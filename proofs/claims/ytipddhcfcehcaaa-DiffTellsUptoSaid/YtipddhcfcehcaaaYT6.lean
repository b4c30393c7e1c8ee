/- Lemmas for the claim, no condition. -/
import Derived.Test.YtipddhcfcehcaaaYT5
namespace Go.Proofs.Ytipddhcfcehcaaa
open Go Go.RowKit

theorem wrap_hi (x : Int) : wrap64 x ≤ 9223372036854775807 := by unfold wrap64; omega
/-- What Few leaves behind relations; none: too many. -/
def fewR : List (ByteArray × RT) → Int → Option Int
  | [], left => some left
  | x :: rs, left => if left < 0 then none else fewR rs (x.2.small (left - ((x.1.size / 100 : Nat) : Int)))
/-- Is a schema not too great? -/
def fewT : List TyS → Int → Bool
  | [], left => decide (0 ≤ left)
  | t :: ts, left => match fewR t.rels (wrap64 (wrap64 (left - 1) - ((t.name.size / 100 : Nat) : Int))) with
    | none => false
    | some l => fewT ts l

set_option maxRecDepth 100000 in
set_option maxHeartbeats 4000000 in
theorem few05_any (ts : List TyS) (tv : Value) (w : World) (h : TysAt (· < w.heap.size) w ts tv) (hok : ∀ t ∈ ts, t.Ok) : Calls Try.prog 25 #[.agg #[tv]] w fun e w' => e = .returned (.bool (fewT ts 200)) ∧ Below w.heap.size w w' := by
  obtain ⟨ao, c, rfl, hlc, hcm, hcell⟩ := h.rows
  have HC := Lib.hid hcell
  have HOK := Lib.hid hok
  generalize hg : fewT ts 200 = g
  have HG0 := Lib.hid hg.symm
  have hbk := (Blk.made w #[.slice ao ts.length c] 24).cells
  have HB0 := Lib.hid (show Below w.heap.size w (w.alloc (.cells #[.slice ao ts.length c] 24)) from (Below.refl _ _).alloc (Nat.le_refl _) _)
  clear h hcell hok hg
  go_enter Try.func25, Try.ntmps25
  go_wp2_with fail
  clear hbk
  go_loopw [3, 11] (fun lv ii wr => ∃ (i : Nat) (L : Int), i ≤ ts.length ∧ ii = .int .i64 i ∧ lv = .int .i64 L ∧ g = fewT (ts.drop i) L ∧ Below w.heap.size w wr) (fun _ ii _ => ts.length - (intOf ii).toNat)
  case atStart => exact ⟨0, 200, by omega, rfl, rfl, HG0.out, HB0.out⟩
  case round =>
    obtain ⟨i, L, hi, rfl, rfl, hgl, hbel⟩ := hrel
    clear HB0 HG0
    by_cases hlt : i < ts.length
    · rw [List.drop_eq_getElem_cons hlt, fewT] at hgl
      have hokt := HOK.out _ (List.getElem_mem hlt)
      obtain ⟨b, off, pv2, hbo, hb, c0, c1, hat2⟩ := HC.out i hlt
      cases hbo
      have d0 := (hbel.cell (p := ⟨b, off + i * 2, none⟩) hb).trans c0
      have d1 := (hbel.cell (p := ⟨b, off + i * 2 + 1, none⟩) hb).trans c1
      obtain ⟨ao2, c2', rfl, -⟩ := hat2.rows
      have hb1 := hbel.alloc hbel.size (.cells #[.string ts[i].name, .slice ao2 ts[i].rels.length c2'] 49)
      have hat3 := hat2.up hb1
      have HBT := Lib.hid (Blk.made wr #[.string ts[i].name, .slice ao2 ts[i].rels.length c2'] 49)
      have hbx := HBT.out.cells
      have HB1 := Lib.hid hb1
      clear c0 c1 hat2 hb1 hbel
      have HI1 := Lib.hid hlt
      generalize ts[i] = t at *
      obtain ⟨tn, rels⟩ := t
      dsimp only at *
      obtain ⟨hon, hor⟩ := hokt
      dsimp only at hon hor
      have hqn : ((tn.size : Int)).tdiv 100 = ((tn.size / 100 : Nat) : Int) := by rw [Int.tdiv_eq_ediv_of_nonneg (by omega)]; omega
      have hln : tn.size / 100 ≤ 92233720368547758 := by omega
      generalize tn.size / 100 = qn at *
      have hw4 : wrap64 (qn : Int) = (qn : Int) := wrap_in _ (by omega) (by omega)
      obtain ⟨L1, hL1⟩ : ∃ L1, L1 = wrap64 (wrap64 (L - 1) - (qn : Int)) := ⟨_, rfl⟩
      have hL1h : L1 ≤ 9223372036854775807 := by rw [hL1]; exact wrap_hi _
      rw [← hL1] at hgl
      have HL1 := Lib.hid hL1
      have HL1h := Lib.hid hL1h
      have HGL := Lib.hid hgl
      have HOR := Lib.hid hor
      obtain ⟨ao3, c3, hv3, hlc3, hcm3, hcell3⟩ := hat3.rows
      injection hv3 with hv31 hv32 hv33
      subst hv31 hv33
      have HC3 := Lib.hid hcell3
      clear hgl hL1 hL1h hor hon hln hat3 hcell3 hv32
      go_wp2_with fail
      clear hlt
      rw [← HL1.out]
      clear hbx d0 d1 hqn hw4 HL1
      obtain ⟨wq, hwq⟩ : ∃ wq, wq = wr.alloc (.cells #[.string tn, .slice ao2 rels.length c2'] 49) := ⟨_, rfl⟩
      rw [← hwq] at HB1 HC3 ⊢
      have HBQ := Lib.hid HB1.out
      clear hwq HB1
      go_loopw [3, 25] (fun mv jj wr => ∃ (j : Nat) (M : Int), j ≤ rels.length ∧ jj = .int .i64 j ∧ mv = .int .i64 M ∧ M ≤ 9223372036854775807 ∧ fewR rels L1 = fewR (rels.drop j) M ∧ Below wq.heap.size wq wr) (fun _ jj _ => rels.length - (intOf jj).toNat)
      case atStart => exact ⟨0, L1, by omega, rfl, rfl, HL1h.out, rfl, Below.refl _ _⟩
      case round =>
        obtain ⟨j, M, hj, rfl, rfl, hMh, hfr, hbq⟩ := hrel
        clear HL1h
        by_cases hlt : j < rels.length
        · rw [List.drop_eq_getElem_cons hlt] at hfr
          have hokr := HOR.out _ (List.getElem_mem hlt)
          have hbel := hbq
          obtain ⟨b, off, pv2, hbo, hb, c0, c1, c2, c3, c4, hat2⟩ := HC3.out j hlt
          cases hbo
          have d0 := (hbel.cell (p := ⟨b, off + j * 5, none⟩) hb).trans c0
          have d1 := (hbel.cell (p := ⟨b, off + j * 5 + 1, none⟩) hb).trans c1
          have d2 := (hbel.cell (p := ⟨b, off + j * 5 + 2, none⟩) hb).trans c2
          have d3 := (hbel.cell (p := ⟨b, off + j * 5 + 3, none⟩) hb).trans c3
          have d4 := (hbel.cell (p := ⟨b, off + j * 5 + 4, none⟩) hb).trans c4
          obtain ⟨ao2, c2', rfl, -⟩ := hat2.rows
          have hb1 := hbel.alloc hbel.size (.cells #[.string rels[j].1, .int .i64 rels[j].2.k, .string rels[j].2.a, .string rels[j].2.b, .slice ao2 rels[j].2.ps.length c2'] 82)
          have hat3 := hat2.up hb1
          have HBK := Lib.hid (Blk.made wr #[.string rels[j].1, .int .i64 rels[j].2.k, .string rels[j].2.a, .string rels[j].2.b, .slice ao2 rels[j].2.ps.length c2'] 82)
          have hbx := HBK.out.cells
          have HB1 := Lib.hid hb1
          clear c0 c1 c2 c3 c4 hat2 hb1 hbel
          generalize rels[j] = x at *
          obtain ⟨xn, p⟩ := x
          dsimp only at *
          rw [fewR] at hfr
          by_cases hneg : M < 0
          · rw [if_pos hneg] at hfr
            have HF := Lib.hid (show g = false from by rw [HGL.out, hfr])
            have HBE := Lib.hid (HBQ.out.trans (HB1.out.mono HBQ.out.size))
            clear hfr hat3 hokr hbq
            go_wp2_with fail
            go_ret
            exact ⟨by rw [HF.out]; rfl, HBE.out⟩
          · rw [if_neg hneg] at hfr
            obtain ⟨hox, hop⟩ := hokr
            obtain ⟨qx, hqx⟩ : ∃ qx : Nat, qx = xn.size / 100 := ⟨_, rfl⟩
            rw [← hqx] at hfr
            have hlx : qx ≤ 92233720368547758 := by rw [hqx]; omega
            have HQX := Lib.hid (show ((xn.size : Int)).tdiv 100 = (qx : Int) from by rw [hqx, Int.tdiv_eq_ediv_of_nonneg (by omega)]; omega)
            clear hqx hox
            have hlo : -2305843009213693952 ≤ M - (qx : Int) := by omega
            have hhi : M - (qx : Int) ≤ 9223372036854775807 := by omega
            have HR := Lib.hid (small_any p _ (M - (qx : Int)) _ hat3 hop hlo hhi)
            unfold rV at HR
            have HSM := Lib.hid (show p.small (M - (qx : Int)) ≤ 9223372036854775807 from by have := p.small_le (M - (qx : Int)); omega)
            have HFR := Lib.hid hfr
            have hqx := HQX.out
            have hw5 : wrap64 (M - (qx : Int)) = M - (qx : Int) := wrap_in _ (Int.le_trans (by decide) hlo) hhi
            have hw4 : wrap64 (qx : Int) = (qx : Int) := wrap_in _ (by clear hw5 hqx; omega) (by clear hw5 hqx; omega)
            clear hfr hat3 hop hlx hbq hlo hhi
            go_wp2_with fail
            refine HR.out.mono ?_
            rintro e w5 ⟨rfl, hb5⟩
            have HB5 := Lib.hid (HB1.out.trans (hb5.mono HB1.out.size))
            clear HR hb5 hbx d0 d1 d2 d3 d4 HB1 hqx hw4 hw5 HQX
            go_wp2_with fail
            go_roundw
            case rel => exact ⟨j + 1, p.small (M - (qx : Int)), by omega, by go_num, rfl, HSM.out, HFR.out, HB5.out⟩
            case measure => simp [intOf]; omega
        · obtain rfl : j = rels.length := by omega
          rw [List.drop_length, fewR] at hfr
          have HF := Lib.hid (show g = fewT (ts.drop (i + 1)) M from by rw [HGL.out, hfr])
          have HBE := Lib.hid (HBQ.out.trans (hbq.mono HBQ.out.size))
          have hlt2 := HI1.out
          clear hfr hbq
          go_wp2_with fail
          go_roundw
          case rel => exact ⟨i + 1, M, by omega, by go_num, rfl, HF.out, HBE.out⟩
          case measure => simp [intOf]; omega
    · obtain rfl : i = ts.length := by omega
      rw [List.drop_length, fewT] at hgl
      have HBE := Lib.hid hbel
      by_cases h0 : 0 ≤ L
      · rw [decide_eq_true h0] at hgl
        have HF := Lib.hid hgl
        clear hbel hgl
        go_wp2_with fail
        go_ret
        exact ⟨by rw [HF.out]; simp, HBE.out⟩
      · rw [decide_eq_false h0] at hgl
        have HF := Lib.hid hgl
        clear hbel hgl
        go_wp2_with fail
        go_ret
        exact ⟨by rw [HF.out]; simp, HBE.out⟩

end Go.Proofs.Ytipddhcfcehcaaa
namespace Go.Proofs.Ytipddhcfcehcaaa
open Go Go.RowKit

theorem WalkN.skip {P : Program} {ops : Array Oper} {Q : Exit → Act → World → Prop} {S : World → Prop} {f : Nat} {l : Array Bool} {a : Act} {w : World} (i : Nat) (o : Oper) (ho : ops[i]? = some o) (hf : Region.free .any ops l i = true) (hr : (Region.ready .any ops l).contains i = true)
    (hw : Region.wanted o (yielded ops a.tmps) = false) (h : WalkN P ops Q S f (l.setIfInBounds i true) (a.put o.dst undef) w) : WalkN P ops Q S (f + 1) l a w :=
  .inr (.inl ⟨i, o, undef, ho, hf, hr, .inr ⟨hw, rfl⟩, h⟩)

set_option maxRecDepth 100000 in
set_option maxHeartbeats 4000000 in
theorem text_leaf1 (a b : ByteArray) (ps : List RT) (d : Nat) (ao : Option Addr) (c : Nat) (w : World) : Calls Try.prog 76 #[.agg #[.int .i64 1, .string a, .string b, .slice ao ps.length c], .int .i64 d] w fun e w' => ∃ s : ByteArray, e = .returned (.tuple #[.string s, .bool (decide (a.size = 0) && decide (b.size = 0) && decide (ps.length = 0))]) ∧ s = ⟨#[116, 104, 105, 115]⟩ ∧ Below w.heap.size w w' := by
  have hbk := (Blk.made w #[.int .i64 1, .string a, .string b, .slice ao ps.length c] 72).cells

  by_cases hna : a.size = 0
  · obtain rfl := ba_size_eq hna
    clear hna
    by_cases hnb : b.size = 0
    · obtain rfl := ba_size_eq hnb
      clear hnb
      by_cases hlp : ps.length = 0
      · have hp0 : ((ps.length : Int) == 0) = true := by rw [beq_iff_eq]; omega
        have HT := Lib.hid (show (decide ((⟨#[]⟩ : ByteArray).size = 0) && decide ((⟨#[]⟩ : ByteArray).size = 0) && decide (ps.length = 0)) = true from by first | rfl | (simp [hlp]; done) | (simp [hlp]; rfl))
        clear hlp
        go_enter Try.func76, Try.ntmps76
        go_wp2_with fail
        obtain ⟨wd, hwd⟩ : ∃ wd, wd = (w.alloc (.cells #[.int .i64 1, .string ⟨#[]⟩, .string ⟨#[]⟩, .slice ao ps.length c] 72)).drew := ⟨_, rfl⟩
        have hBd : Blk wd w.heap.size #[.int .i64 1, .string ⟨#[]⟩, .string ⟨#[]⟩, .slice ao ps.length c] 72 := by rw [hwd]; exact (Blk.made w #[.int .i64 1, .string ⟨#[]⟩, .string ⟨#[]⟩, .slice ao ps.length c] 72).drew
        have hbd : Below w.heap.size w wd := by rw [hwd]; exact ((Below.refl _ _).alloc (Nat.le_refl _) _).drew
        refine region_walkN (Ext wd) (by rw [← hwd]; exact Ext.refl _) (by kernel_rfl) (by kernel_rfl) (fun _ _ d _ _ h => by cases d <;> exact h) ?_
        rw [← hwd]
        clear hwd hbk
        have h1 : ∀ W, Ext wd W → ∀ i, W.cell? ⟨w.heap.size, i, none⟩ = (#[.int .i64 1, .string ⟨#[]⟩, .string ⟨#[]⟩, .slice ao ps.length c] : Array Value)[i]? := fun W h => (hBd.below h).cells
        ((refine WalkN.take 0 _ ?_ (by simp only [List.getElem?_toArray, List.getElem?_cons_zero]; rfl) (by kernel_rfl) (by kernel_rfl) (by rfl) (fun W hW => ?_) ?_; rotate_left; · (go_simp; try with_reducible rfl)); simp only [Act.put, List.setIfInBounds_toArray, List.set_cons_zero, List.set_cons_succ]); ((refine WalkN.take 1 _ ?_ (by simp only [List.getElem?_toArray, List.getElem?_cons_succ, List.getElem?_cons_zero]; rfl) (by kernel_rfl) (by kernel_rfl) (by rfl) (fun W hW => ?_) ?_; rotate_left; · (go_simp; try with_reducible rfl)); simp only [Act.put, List.setIfInBounds_toArray, List.set_cons_zero, List.set_cons_succ]); ((refine WalkN.take 2 _ ?_ (by simp only [List.getElem?_toArray, List.getElem?_cons_succ, List.getElem?_cons_zero]; rfl) (by kernel_rfl) (by kernel_rfl) (by rfl) (fun W hW => ?_) ?_; rotate_left; · (go_simp; try with_reducible rfl)); simp only [Act.put, List.setIfInBounds_toArray, List.set_cons_zero, List.set_cons_succ]); ((refine WalkN.take 3 _ ?_ (by simp only [List.getElem?_toArray, List.getElem?_cons_succ, List.getElem?_cons_zero]; rfl) (by kernel_rfl) (by kernel_rfl) (by rfl) (fun W hW => ?_) ?_; rotate_left; · (go_simp; try with_reducible rfl)); simp only [Act.put, List.setIfInBounds_toArray, List.set_cons_zero, List.set_cons_succ])
        ((refine WalkN.take 4 _ ?_ (by simp only [List.getElem?_toArray, List.getElem?_cons_succ, List.getElem?_cons_zero]; rfl) (by kernel_rfl) (by kernel_rfl) (by rfl) (fun W hW => ?_) ?_; rotate_left; · (go_simp; try with_reducible rfl)); simp only [Act.put, List.setIfInBounds_toArray, List.set_cons_zero, List.set_cons_succ]); ((refine WalkN.take 5 _ ?_ (by simp only [List.getElem?_toArray, List.getElem?_cons_succ, List.getElem?_cons_zero]; rfl) (by kernel_rfl) (by kernel_rfl) (by rfl) (fun W hW => ?_) ?_; rotate_left; · (go_simp; try with_reducible rfl)); simp only [Act.put, List.setIfInBounds_toArray, List.set_cons_zero, List.set_cons_succ]); ((refine WalkN.take 6 _ ?_ (by simp only [List.getElem?_toArray, List.getElem?_cons_succ, List.getElem?_cons_zero]; rfl) (by kernel_rfl) (by kernel_rfl) (by rfl) (fun W hW => ?_) ?_; rotate_left; · (go_simp; try with_reducible rfl)); simp only [Act.put, List.setIfInBounds_toArray, List.set_cons_zero, List.set_cons_succ])
        ((refine WalkN.take 7 _ ?_ (by simp only [List.getElem?_toArray, List.getElem?_cons_succ, List.getElem?_cons_zero]; rfl) (by kernel_rfl) (by kernel_rfl) (by rfl) (fun W hW => ?_) ?_; rotate_left; · (go_simp; try with_reducible rfl)); simp only [Act.put, List.setIfInBounds_toArray, List.set_cons_zero, List.set_cons_succ]); ((refine WalkN.take 8 _ ?_ (by simp only [List.getElem?_toArray, List.getElem?_cons_succ, List.getElem?_cons_zero]; rfl) (by kernel_rfl) (by kernel_rfl) (by rfl) (fun W hW => ?_) ?_; rotate_left; · (go_simp; try with_reducible rfl)); simp only [Act.put, List.setIfInBounds_toArray, List.set_cons_zero, List.set_cons_succ])
        ((refine WalkN.take 9 _ ?_ (by simp only [List.getElem?_toArray, List.getElem?_cons_succ, List.getElem?_cons_zero]; rfl) (by kernel_rfl) (by kernel_rfl) (by rfl) (fun W hW => ?_) ?_; rotate_left; · (go_simp; try with_reducible rfl)); simp only [Act.put, List.setIfInBounds_toArray, List.set_cons_zero, List.set_cons_succ]); ((refine WalkN.take 10 _ ?_ (by simp only [List.getElem?_toArray, List.getElem?_cons_succ, List.getElem?_cons_zero]; rfl) (by kernel_rfl) (by kernel_rfl) (by rfl) (fun W hW => ?_) ?_; rotate_left; · (go_simp; try with_reducible rfl)); simp only [Act.put, List.setIfInBounds_toArray, List.set_cons_zero, List.set_cons_succ]); ((refine WalkN.take 11 _ ?_ (by simp only [List.getElem?_toArray, List.getElem?_cons_succ, List.getElem?_cons_zero]; rfl) (by kernel_rfl) (by kernel_rfl) (by rfl) (fun W hW => ?_) ?_; rotate_left; · (go_simp; try with_reducible rfl)); simp only [Act.put, List.setIfInBounds_toArray, List.set_cons_zero, List.set_cons_succ]); ((refine WalkN.take 12 _ ?_ (by simp only [List.getElem?_toArray, List.getElem?_cons_succ, List.getElem?_cons_zero]; rfl) (by kernel_rfl) (by kernel_rfl) (by rfl) (fun W hW => ?_) ?_; rotate_left; · (go_simp; try with_reducible rfl)); simp only [Act.put, List.setIfInBounds_toArray, List.set_cons_zero, List.set_cons_succ])
        ((refine WalkN.take 13 _ ?_ (by simp only [List.getElem?_toArray, List.getElem?_cons_succ, List.getElem?_cons_zero]; rfl) (by kernel_rfl) (by kernel_rfl) (by rfl) (fun W hW => ?_) ?_; rotate_left; · (go_simp; try with_reducible rfl)); simp only [Act.put, List.setIfInBounds_toArray, List.set_cons_zero, List.set_cons_succ]); ((refine WalkN.take 14 _ ?_ (by simp only [List.getElem?_toArray, List.getElem?_cons_succ, List.getElem?_cons_zero]; rfl) (by kernel_rfl) (by kernel_rfl) (by rfl) (fun W hW => ?_) ?_; rotate_left; · (go_simp; try with_reducible rfl)); simp only [Act.put, List.setIfInBounds_toArray, List.set_cons_zero, List.set_cons_succ]); ((refine WalkN.take 15 _ ?_ (by simp only [List.getElem?_toArray, List.getElem?_cons_succ, List.getElem?_cons_zero]; rfl) (by kernel_rfl) (by kernel_rfl) (by rfl) (fun W hW => ?_) ?_; rotate_left; · (go_simp; try with_reducible rfl)); simp only [Act.put, List.setIfInBounds_toArray, List.set_cons_zero, List.set_cons_succ])
        refine WalkN.done (by kernel_rfl) ?_
        have HBD := Lib.hid hbd
        clear h1 hBd hbd
        go_wp2_with fail
        go_ret2
        exact ⟨_, by rw [HT.out]; rfl, rfl, HBD.out⟩
      · have hp0 : ((ps.length : Int) == 0) = false := by rw [beq_eq_false_iff_ne]; omega
        have HT := Lib.hid (show (decide ((⟨#[]⟩ : ByteArray).size = 0) && decide ((⟨#[]⟩ : ByteArray).size = 0) && decide (ps.length = 0)) = false from by first | rfl | (simp [hlp]; done) | (simp [hlp]; rfl))
        clear hlp
        go_enter Try.func76, Try.ntmps76
        go_wp2_with fail
        obtain ⟨wd, hwd⟩ : ∃ wd, wd = (w.alloc (.cells #[.int .i64 1, .string ⟨#[]⟩, .string ⟨#[]⟩, .slice ao ps.length c] 72)).drew := ⟨_, rfl⟩
        have hBd : Blk wd w.heap.size #[.int .i64 1, .string ⟨#[]⟩, .string ⟨#[]⟩, .slice ao ps.length c] 72 := by rw [hwd]; exact (Blk.made w #[.int .i64 1, .string ⟨#[]⟩, .string ⟨#[]⟩, .slice ao ps.length c] 72).drew
        have hbd : Below w.heap.size w wd := by rw [hwd]; exact ((Below.refl _ _).alloc (Nat.le_refl _) _).drew
        refine region_walkN (Ext wd) (by rw [← hwd]; exact Ext.refl _) (by kernel_rfl) (by kernel_rfl) (fun _ _ d _ _ h => by cases d <;> exact h) ?_
        rw [← hwd]
        clear hwd hbk
        have h1 : ∀ W, Ext wd W → ∀ i, W.cell? ⟨w.heap.size, i, none⟩ = (#[.int .i64 1, .string ⟨#[]⟩, .string ⟨#[]⟩, .slice ao ps.length c] : Array Value)[i]? := fun W h => (hBd.below h).cells
        ((refine WalkN.take 0 _ ?_ (by simp only [List.getElem?_toArray, List.getElem?_cons_zero]; rfl) (by kernel_rfl) (by kernel_rfl) (by rfl) (fun W hW => ?_) ?_; rotate_left; · (go_simp; try with_reducible rfl)); simp only [Act.put, List.setIfInBounds_toArray, List.set_cons_zero, List.set_cons_succ]); ((refine WalkN.take 1 _ ?_ (by simp only [List.getElem?_toArray, List.getElem?_cons_succ, List.getElem?_cons_zero]; rfl) (by kernel_rfl) (by kernel_rfl) (by rfl) (fun W hW => ?_) ?_; rotate_left; · (go_simp; try with_reducible rfl)); simp only [Act.put, List.setIfInBounds_toArray, List.set_cons_zero, List.set_cons_succ]); ((refine WalkN.take 2 _ ?_ (by simp only [List.getElem?_toArray, List.getElem?_cons_succ, List.getElem?_cons_zero]; rfl) (by kernel_rfl) (by kernel_rfl) (by rfl) (fun W hW => ?_) ?_; rotate_left; · (go_simp; try with_reducible rfl)); simp only [Act.put, List.setIfInBounds_toArray, List.set_cons_zero, List.set_cons_succ]); ((refine WalkN.take 3 _ ?_ (by simp only [List.getElem?_toArray, List.getElem?_cons_succ, List.getElem?_cons_zero]; rfl) (by kernel_rfl) (by kernel_rfl) (by rfl) (fun W hW => ?_) ?_; rotate_left; · (go_simp; try with_reducible rfl)); simp only [Act.put, List.setIfInBounds_toArray, List.set_cons_zero, List.set_cons_succ])
        ((refine WalkN.take 4 _ ?_ (by simp only [List.getElem?_toArray, List.getElem?_cons_succ, List.getElem?_cons_zero]; rfl) (by kernel_rfl) (by kernel_rfl) (by rfl) (fun W hW => ?_) ?_; rotate_left; · (go_simp; try with_reducible rfl)); simp only [Act.put, List.setIfInBounds_toArray, List.set_cons_zero, List.set_cons_succ]); ((refine WalkN.take 5 _ ?_ (by simp only [List.getElem?_toArray, List.getElem?_cons_succ, List.getElem?_cons_zero]; rfl) (by kernel_rfl) (by kernel_rfl) (by rfl) (fun W hW => ?_) ?_; rotate_left; · (go_simp; try with_reducible rfl)); simp only [Act.put, List.setIfInBounds_toArray, List.set_cons_zero, List.set_cons_succ]); ((refine WalkN.take 6 _ ?_ (by simp only [List.getElem?_toArray, List.getElem?_cons_succ, List.getElem?_cons_zero]; rfl) (by kernel_rfl) (by kernel_rfl) (by rfl) (fun W hW => ?_) ?_; rotate_left; · (go_simp; try with_reducible rfl)); simp only [Act.put, List.setIfInBounds_toArray, List.set_cons_zero, List.set_cons_succ])
        ((refine WalkN.take 7 _ ?_ (by simp only [List.getElem?_toArray, List.getElem?_cons_succ, List.getElem?_cons_zero]; rfl) (by kernel_rfl) (by kernel_rfl) (by rfl) (fun W hW => ?_) ?_; rotate_left; · (go_simp; try with_reducible rfl)); simp only [Act.put, List.setIfInBounds_toArray, List.set_cons_zero, List.set_cons_succ]); ((refine WalkN.take 8 _ ?_ (by simp only [List.getElem?_toArray, List.getElem?_cons_succ, List.getElem?_cons_zero]; rfl) (by kernel_rfl) (by kernel_rfl) (by rfl) (fun W hW => ?_) ?_; rotate_left; · (go_simp; try with_reducible rfl)); simp only [Act.put, List.setIfInBounds_toArray, List.set_cons_zero, List.set_cons_succ])
        ((refine WalkN.take 9 _ ?_ (by simp only [List.getElem?_toArray, List.getElem?_cons_succ, List.getElem?_cons_zero]; rfl) (by kernel_rfl) (by kernel_rfl) (by rfl) (fun W hW => ?_) ?_; rotate_left; · (go_simp; try with_reducible rfl)); simp only [Act.put, List.setIfInBounds_toArray, List.set_cons_zero, List.set_cons_succ]); ((refine WalkN.take 10 _ ?_ (by simp only [List.getElem?_toArray, List.getElem?_cons_succ, List.getElem?_cons_zero]; rfl) (by kernel_rfl) (by kernel_rfl) (by rfl) (fun W hW => ?_) ?_; rotate_left; · (go_simp; try with_reducible rfl)); simp only [Act.put, List.setIfInBounds_toArray, List.set_cons_zero, List.set_cons_succ]); ((refine WalkN.take 11 _ ?_ (by simp only [List.getElem?_toArray, List.getElem?_cons_succ, List.getElem?_cons_zero]; rfl) (by kernel_rfl) (by kernel_rfl) (by rfl) (fun W hW => ?_) ?_; rotate_left; · (go_simp; try with_reducible rfl)); simp only [Act.put, List.setIfInBounds_toArray, List.set_cons_zero, List.set_cons_succ]); ((refine WalkN.take 12 _ ?_ (by simp only [List.getElem?_toArray, List.getElem?_cons_succ, List.getElem?_cons_zero]; rfl) (by kernel_rfl) (by kernel_rfl) (by rfl) (fun W hW => ?_) ?_; rotate_left; · (go_simp; try with_reducible rfl)); simp only [Act.put, List.setIfInBounds_toArray, List.set_cons_zero, List.set_cons_succ])
        ((refine WalkN.take 13 _ ?_ (by simp only [List.getElem?_toArray, List.getElem?_cons_succ, List.getElem?_cons_zero]; rfl) (by kernel_rfl) (by kernel_rfl) (by rfl) (fun W hW => ?_) ?_; rotate_left; · (go_simp; try with_reducible rfl)); simp only [Act.put, List.setIfInBounds_toArray, List.set_cons_zero, List.set_cons_succ]); ((refine WalkN.take 14 _ ?_ (by simp only [List.getElem?_toArray, List.getElem?_cons_succ, List.getElem?_cons_zero]; rfl) (by kernel_rfl) (by kernel_rfl) (by rfl) (fun W hW => ?_) ?_; rotate_left; · (go_simp; try with_reducible rfl)); simp only [Act.put, List.setIfInBounds_toArray, List.set_cons_zero, List.set_cons_succ]); ((refine WalkN.take 15 _ ?_ (by simp only [List.getElem?_toArray, List.getElem?_cons_succ, List.getElem?_cons_zero]; rfl) (by kernel_rfl) (by kernel_rfl) (by rfl) (fun W hW => ?_) ?_; rotate_left; · (go_simp; try with_reducible rfl)); simp only [Act.put, List.setIfInBounds_toArray, List.set_cons_zero, List.set_cons_succ])
        refine WalkN.done (by kernel_rfl) ?_
        have HBD := Lib.hid hbd
        clear h1 hBd hbd
        go_wp2_with fail
        go_ret2
        exact ⟨_, by rw [HT.out]; rfl, rfl, HBD.out⟩
    · have hneb := ba_size_ne hnb
      have HT := Lib.hid (show (decide ((⟨#[]⟩ : ByteArray).size = 0) && decide (b.size = 0) && decide (ps.length = 0)) = false from by first | rfl | (simp [hnb]; done) | (simp [hnb]; rfl))
      clear hnb
      go_enter Try.func76, Try.ntmps76
      go_wp2_with fail
      obtain ⟨wd, hwd⟩ : ∃ wd, wd = (w.alloc (.cells #[.int .i64 1, .string ⟨#[]⟩, .string b, .slice ao ps.length c] 72)).drew := ⟨_, rfl⟩
      have hBd : Blk wd w.heap.size #[.int .i64 1, .string ⟨#[]⟩, .string b, .slice ao ps.length c] 72 := by rw [hwd]; exact (Blk.made w #[.int .i64 1, .string ⟨#[]⟩, .string b, .slice ao ps.length c] 72).drew
      have hbd : Below w.heap.size w wd := by rw [hwd]; exact ((Below.refl _ _).alloc (Nat.le_refl _) _).drew
      refine region_walkN (Ext wd) (by rw [← hwd]; exact Ext.refl _) (by kernel_rfl) (by kernel_rfl) (fun _ _ d _ _ h => by cases d <;> exact h) ?_
      rw [← hwd]
      clear hwd hbk
      have h1 : ∀ W, Ext wd W → ∀ i, W.cell? ⟨w.heap.size, i, none⟩ = (#[.int .i64 1, .string ⟨#[]⟩, .string b, .slice ao ps.length c] : Array Value)[i]? := fun W h => (hBd.below h).cells
      ((refine WalkN.take 0 _ ?_ (by simp only [List.getElem?_toArray, List.getElem?_cons_zero]; rfl) (by kernel_rfl) (by kernel_rfl) (by rfl) (fun W hW => ?_) ?_; rotate_left; · (go_simp; try with_reducible rfl)); simp only [Act.put, List.setIfInBounds_toArray, List.set_cons_zero, List.set_cons_succ]); ((refine WalkN.take 1 _ ?_ (by simp only [List.getElem?_toArray, List.getElem?_cons_succ, List.getElem?_cons_zero]; rfl) (by kernel_rfl) (by kernel_rfl) (by rfl) (fun W hW => ?_) ?_; rotate_left; · (go_simp; try with_reducible rfl)); simp only [Act.put, List.setIfInBounds_toArray, List.set_cons_zero, List.set_cons_succ]); ((refine WalkN.take 2 _ ?_ (by simp only [List.getElem?_toArray, List.getElem?_cons_succ, List.getElem?_cons_zero]; rfl) (by kernel_rfl) (by kernel_rfl) (by rfl) (fun W hW => ?_) ?_; rotate_left; · (go_simp; try with_reducible rfl)); simp only [Act.put, List.setIfInBounds_toArray, List.set_cons_zero, List.set_cons_succ]); ((refine WalkN.take 3 _ ?_ (by simp only [List.getElem?_toArray, List.getElem?_cons_succ, List.getElem?_cons_zero]; rfl) (by kernel_rfl) (by kernel_rfl) (by rfl) (fun W hW => ?_) ?_; rotate_left; · (go_simp; try with_reducible rfl)); simp only [Act.put, List.setIfInBounds_toArray, List.set_cons_zero, List.set_cons_succ])
      ((refine WalkN.take 4 _ ?_ (by simp only [List.getElem?_toArray, List.getElem?_cons_succ, List.getElem?_cons_zero]; rfl) (by kernel_rfl) (by kernel_rfl) (by rfl) (fun W hW => ?_) ?_; rotate_left; · (go_simp; try with_reducible rfl)); simp only [Act.put, List.setIfInBounds_toArray, List.set_cons_zero, List.set_cons_succ]); ((refine WalkN.take 5 _ ?_ (by simp only [List.getElem?_toArray, List.getElem?_cons_succ, List.getElem?_cons_zero]; rfl) (by kernel_rfl) (by kernel_rfl) (by rfl) (fun W hW => ?_) ?_; rotate_left; · (go_simp; try with_reducible rfl)); simp only [Act.put, List.setIfInBounds_toArray, List.set_cons_zero, List.set_cons_succ]); ((refine WalkN.take 6 _ ?_ (by simp only [List.getElem?_toArray, List.getElem?_cons_succ, List.getElem?_cons_zero]; rfl) (by kernel_rfl) (by kernel_rfl) (by rfl) (fun W hW => ?_) ?_; rotate_left; · (go_simp; try with_reducible rfl)); simp only [Act.put, List.setIfInBounds_toArray, List.set_cons_zero, List.set_cons_succ])
      ((refine WalkN.take 7 _ ?_ (by simp only [List.getElem?_toArray, List.getElem?_cons_succ, List.getElem?_cons_zero]; rfl) (by kernel_rfl) (by kernel_rfl) (by rfl) (fun W hW => ?_) ?_; rotate_left; · (go_simp; try with_reducible rfl)); simp only [Act.put, List.setIfInBounds_toArray, List.set_cons_zero, List.set_cons_succ]); ((refine WalkN.take 8 _ ?_ (by simp only [List.getElem?_toArray, List.getElem?_cons_succ, List.getElem?_cons_zero]; rfl) (by kernel_rfl) (by kernel_rfl) (by rfl) (fun W hW => ?_) ?_; rotate_left; · (go_simp; try with_reducible rfl)); simp only [Act.put, List.setIfInBounds_toArray, List.set_cons_zero, List.set_cons_succ])
      (refine WalkN.skip 9 _ (by simp only [List.getElem?_toArray, List.getElem?_cons_succ, List.getElem?_cons_zero]; rfl) (by kernel_rfl) (by kernel_rfl) (by rfl) ?_; simp only [Act.put, List.setIfInBounds_toArray, List.set_cons_zero, List.set_cons_succ]); (refine WalkN.skip 10 _ (by simp only [List.getElem?_toArray, List.getElem?_cons_succ, List.getElem?_cons_zero]; rfl) (by kernel_rfl) (by kernel_rfl) (by rfl) ?_; simp only [Act.put, List.setIfInBounds_toArray, List.set_cons_zero, List.set_cons_succ]); (refine WalkN.skip 11 _ (by simp only [List.getElem?_toArray, List.getElem?_cons_succ, List.getElem?_cons_zero]; rfl) (by kernel_rfl) (by kernel_rfl) (by rfl) ?_; simp only [Act.put, List.setIfInBounds_toArray, List.set_cons_zero, List.set_cons_succ]); (refine WalkN.skip 12 _ (by simp only [List.getElem?_toArray, List.getElem?_cons_succ, List.getElem?_cons_zero]; rfl) (by kernel_rfl) (by kernel_rfl) (by rfl) ?_; simp only [Act.put, List.setIfInBounds_toArray, List.set_cons_zero, List.set_cons_succ])
      ((refine WalkN.take 13 _ ?_ (by simp only [List.getElem?_toArray, List.getElem?_cons_succ, List.getElem?_cons_zero]; rfl) (by kernel_rfl) (by kernel_rfl) (by rfl) (fun W hW => ?_) ?_; rotate_left; · (go_simp; try with_reducible rfl)); simp only [Act.put, List.setIfInBounds_toArray, List.set_cons_zero, List.set_cons_succ]); ((refine WalkN.take 14 _ ?_ (by simp only [List.getElem?_toArray, List.getElem?_cons_succ, List.getElem?_cons_zero]; rfl) (by kernel_rfl) (by kernel_rfl) (by rfl) (fun W hW => ?_) ?_; rotate_left; · (go_simp; try with_reducible rfl)); simp only [Act.put, List.setIfInBounds_toArray, List.set_cons_zero, List.set_cons_succ]); ((refine WalkN.take 15 _ ?_ (by simp only [List.getElem?_toArray, List.getElem?_cons_succ, List.getElem?_cons_zero]; rfl) (by kernel_rfl) (by kernel_rfl) (by rfl) (fun W hW => ?_) ?_; rotate_left; · (go_simp; try with_reducible rfl)); simp only [Act.put, List.setIfInBounds_toArray, List.set_cons_zero, List.set_cons_succ])
      refine WalkN.done (by kernel_rfl) ?_
      have HBD := Lib.hid hbd
      clear h1 hBd hbd
      go_wp2_with fail
      go_ret2
      exact ⟨_, by rw [HT.out]; rfl, rfl, HBD.out⟩
  · have hnea := ba_size_ne hna
    have HT := Lib.hid (show (decide (a.size = 0) && decide (b.size = 0) && decide (ps.length = 0)) = false from by first | rfl | (simp [hna]; done) | (simp [hna]; rfl))
    clear hna
    go_enter Try.func76, Try.ntmps76
    go_wp2_with fail
    obtain ⟨wd, hwd⟩ : ∃ wd, wd = (w.alloc (.cells #[.int .i64 1, .string a, .string b, .slice ao ps.length c] 72)).drew := ⟨_, rfl⟩
    have hBd : Blk wd w.heap.size #[.int .i64 1, .string a, .string b, .slice ao ps.length c] 72 := by rw [hwd]; exact (Blk.made w #[.int .i64 1, .string a, .string b, .slice ao ps.length c] 72).drew
    have hbd : Below w.heap.size w wd := by rw [hwd]; exact ((Below.refl _ _).alloc (Nat.le_refl _) _).drew
    refine region_walkN (Ext wd) (by rw [← hwd]; exact Ext.refl _) (by kernel_rfl) (by kernel_rfl) (fun _ _ d _ _ h => by cases d <;> exact h) ?_
    rw [← hwd]
    clear hwd hbk
    have h1 : ∀ W, Ext wd W → ∀ i, W.cell? ⟨w.heap.size, i, none⟩ = (#[.int .i64 1, .string a, .string b, .slice ao ps.length c] : Array Value)[i]? := fun W h => (hBd.below h).cells
    ((refine WalkN.take 0 _ ?_ (by simp only [List.getElem?_toArray, List.getElem?_cons_zero]; rfl) (by kernel_rfl) (by kernel_rfl) (by rfl) (fun W hW => ?_) ?_; rotate_left; · (go_simp; try with_reducible rfl)); simp only [Act.put, List.setIfInBounds_toArray, List.set_cons_zero, List.set_cons_succ]); ((refine WalkN.take 1 _ ?_ (by simp only [List.getElem?_toArray, List.getElem?_cons_succ, List.getElem?_cons_zero]; rfl) (by kernel_rfl) (by kernel_rfl) (by rfl) (fun W hW => ?_) ?_; rotate_left; · (go_simp; try with_reducible rfl)); simp only [Act.put, List.setIfInBounds_toArray, List.set_cons_zero, List.set_cons_succ]); ((refine WalkN.take 2 _ ?_ (by simp only [List.getElem?_toArray, List.getElem?_cons_succ, List.getElem?_cons_zero]; rfl) (by kernel_rfl) (by kernel_rfl) (by rfl) (fun W hW => ?_) ?_; rotate_left; · (go_simp; try with_reducible rfl)); simp only [Act.put, List.setIfInBounds_toArray, List.set_cons_zero, List.set_cons_succ]); ((refine WalkN.take 3 _ ?_ (by simp only [List.getElem?_toArray, List.getElem?_cons_succ, List.getElem?_cons_zero]; rfl) (by kernel_rfl) (by kernel_rfl) (by rfl) (fun W hW => ?_) ?_; rotate_left; · (go_simp; try with_reducible rfl)); simp only [Act.put, List.setIfInBounds_toArray, List.set_cons_zero, List.set_cons_succ])
    (refine WalkN.skip 4 _ (by simp only [List.getElem?_toArray, List.getElem?_cons_succ, List.getElem?_cons_zero]; rfl) (by kernel_rfl) (by kernel_rfl) (by rfl) ?_; simp only [Act.put, List.setIfInBounds_toArray, List.set_cons_zero, List.set_cons_succ]); (refine WalkN.skip 5 _ (by simp only [List.getElem?_toArray, List.getElem?_cons_succ, List.getElem?_cons_zero]; rfl) (by kernel_rfl) (by kernel_rfl) (by rfl) ?_; simp only [Act.put, List.setIfInBounds_toArray, List.set_cons_zero, List.set_cons_succ]); (refine WalkN.skip 6 _ (by simp only [List.getElem?_toArray, List.getElem?_cons_succ, List.getElem?_cons_zero]; rfl) (by kernel_rfl) (by kernel_rfl) (by rfl) ?_; simp only [Act.put, List.setIfInBounds_toArray, List.set_cons_zero, List.set_cons_succ])
    ((refine WalkN.take 7 _ ?_ (by simp only [List.getElem?_toArray, List.getElem?_cons_succ, List.getElem?_cons_zero]; rfl) (by kernel_rfl) (by kernel_rfl) (by rfl) (fun W hW => ?_) ?_; rotate_left; · (go_simp; try with_reducible rfl)); simp only [Act.put, List.setIfInBounds_toArray, List.set_cons_zero, List.set_cons_succ]); ((refine WalkN.take 8 _ ?_ (by simp only [List.getElem?_toArray, List.getElem?_cons_succ, List.getElem?_cons_zero]; rfl) (by kernel_rfl) (by kernel_rfl) (by rfl) (fun W hW => ?_) ?_; rotate_left; · (go_simp; try with_reducible rfl)); simp only [Act.put, List.setIfInBounds_toArray, List.set_cons_zero, List.set_cons_succ])
    (refine WalkN.skip 9 _ (by simp only [List.getElem?_toArray, List.getElem?_cons_succ, List.getElem?_cons_zero]; rfl) (by kernel_rfl) (by kernel_rfl) (by rfl) ?_; simp only [Act.put, List.setIfInBounds_toArray, List.set_cons_zero, List.set_cons_succ]); (refine WalkN.skip 10 _ (by simp only [List.getElem?_toArray, List.getElem?_cons_succ, List.getElem?_cons_zero]; rfl) (by kernel_rfl) (by kernel_rfl) (by rfl) ?_; simp only [Act.put, List.setIfInBounds_toArray, List.set_cons_zero, List.set_cons_succ]); (refine WalkN.skip 11 _ (by simp only [List.getElem?_toArray, List.getElem?_cons_succ, List.getElem?_cons_zero]; rfl) (by kernel_rfl) (by kernel_rfl) (by rfl) ?_; simp only [Act.put, List.setIfInBounds_toArray, List.set_cons_zero, List.set_cons_succ]); (refine WalkN.skip 12 _ (by simp only [List.getElem?_toArray, List.getElem?_cons_succ, List.getElem?_cons_zero]; rfl) (by kernel_rfl) (by kernel_rfl) (by rfl) ?_; simp only [Act.put, List.setIfInBounds_toArray, List.set_cons_zero, List.set_cons_succ])
    ((refine WalkN.take 13 _ ?_ (by simp only [List.getElem?_toArray, List.getElem?_cons_succ, List.getElem?_cons_zero]; rfl) (by kernel_rfl) (by kernel_rfl) (by rfl) (fun W hW => ?_) ?_; rotate_left; · (go_simp; try with_reducible rfl)); simp only [Act.put, List.setIfInBounds_toArray, List.set_cons_zero, List.set_cons_succ]); ((refine WalkN.take 14 _ ?_ (by simp only [List.getElem?_toArray, List.getElem?_cons_succ, List.getElem?_cons_zero]; rfl) (by kernel_rfl) (by kernel_rfl) (by rfl) (fun W hW => ?_) ?_; rotate_left; · (go_simp; try with_reducible rfl)); simp only [Act.put, List.setIfInBounds_toArray, List.set_cons_zero, List.set_cons_succ]); ((refine WalkN.take 15 _ ?_ (by simp only [List.getElem?_toArray, List.getElem?_cons_succ, List.getElem?_cons_zero]; rfl) (by kernel_rfl) (by kernel_rfl) (by rfl) (fun W hW => ?_) ?_; rotate_left; · (go_simp; try with_reducible rfl)); simp only [Act.put, List.setIfInBounds_toArray, List.set_cons_zero, List.set_cons_succ])
    refine WalkN.done (by kernel_rfl) ?_
    have HBD := Lib.hid hbd
    clear h1 hBd hbd
    go_wp2_with fail
    go_ret2
    exact ⟨_, by rw [HT.out]; rfl, rfl, HBD.out⟩

set_option maxRecDepth 100000 in
set_option maxHeartbeats 4000000 in
theorem text_leaf2 (a b : ByteArray) (ps : List RT) (d : Nat) (ao : Option Addr) (c : Nat) (w : World) (ha : a.size ≤ 140737488351232) : Calls Try.prog 76 #[.agg #[.int .i64 2, .string a, .string b, .slice ao ps.length c], .int .i64 d] w fun e w' => ∃ s : ByteArray, e = .returned (.tuple #[.string s, .bool (ownB a && decide (b.size = 0) && decide (ps.length = 0))]) ∧ s = a ∧ Below w.heap.size w w' := by
  have hbk := (Blk.made w #[.int .i64 2, .string a, .string b, .slice ao ps.length c] 72).cells
  have HOWa := Lib.hid (fun W => own_any a (by unfold maxLen; omega) W)
  clear ha
  cases hoa : ownB a with
  | true =>
    simp only [hoa] at HOWa
    by_cases hnb : b.size = 0
    · obtain rfl := ba_size_eq hnb
      clear hnb
      by_cases hlp : ps.length = 0
      · have hp0 : ((ps.length : Int) == 0) = true := by rw [beq_iff_eq]; omega
        have HT := Lib.hid (show (true && decide ((⟨#[]⟩ : ByteArray).size = 0) && decide (ps.length = 0)) = true from by first | rfl | (simp [hlp]; done) | (simp [hlp]; rfl))
        clear hlp
        go_enter Try.func76, Try.ntmps76
        go_wp2_with fail
        obtain ⟨wd, hwd⟩ : ∃ wd, wd = (w.alloc (.cells #[.int .i64 2, .string a, .string ⟨#[]⟩, .slice ao ps.length c] 72)).drew := ⟨_, rfl⟩
        have hBd : Blk wd w.heap.size #[.int .i64 2, .string a, .string ⟨#[]⟩, .slice ao ps.length c] 72 := by rw [hwd]; exact (Blk.made w #[.int .i64 2, .string a, .string ⟨#[]⟩, .slice ao ps.length c] 72).drew
        have hbd : Below w.heap.size w wd := by rw [hwd]; exact ((Below.refl _ _).alloc (Nat.le_refl _) _).drew
        refine region_walkN (Ext wd) (by rw [← hwd]; exact Ext.refl _) (by kernel_rfl) (by kernel_rfl) (fun _ _ d _ _ h => by cases d <;> exact h) ?_
        rw [← hwd]
        clear hwd hbk
        have h1 : ∀ W, Ext wd W → ∀ i, W.cell? ⟨w.heap.size, i, none⟩ = (#[.int .i64 2, .string a, .string ⟨#[]⟩, .slice ao ps.length c] : Array Value)[i]? := fun W h => (hBd.below h).cells
        ((refine WalkN.take 0 _ ?_ (by simp only [List.getElem?_toArray, List.getElem?_cons_zero]; rfl) (by kernel_rfl) (by kernel_rfl) (by rfl) (fun W hW => ?_) ?_; rotate_left; · (go_simp; try with_reducible rfl)); simp only [Act.put, List.setIfInBounds_toArray, List.set_cons_zero, List.set_cons_succ]); ((refine WalkN.take 1 _ ?_ (by simp only [List.getElem?_toArray, List.getElem?_cons_succ, List.getElem?_cons_zero]; rfl) (by kernel_rfl) (by kernel_rfl) (by rfl) (fun W hW => ?_) ?_; rotate_left; · (go_simp; try with_reducible rfl)); simp only [Act.put, List.setIfInBounds_toArray, List.set_cons_zero, List.set_cons_succ]); ((refine WalkN.take 2 _ ?_ (by simp only [List.getElem?_toArray, List.getElem?_cons_succ, List.getElem?_cons_zero]; rfl) (by kernel_rfl) (by kernel_rfl) (by rfl) (fun W hW => ?_) ?_; rotate_left; · (go_simp; try with_reducible rfl)); simp only [Act.put, List.setIfInBounds_toArray, List.set_cons_zero, List.set_cons_succ]); ((refine WalkN.take 3 _ ?_ (by simp only [List.getElem?_toArray, List.getElem?_cons_succ, List.getElem?_cons_zero]; rfl) (by kernel_rfl) (by kernel_rfl) (by rfl) (fun W hW => ?_) ?_; rotate_left; · (go_simp; try with_reducible rfl)); simp only [Act.put, List.setIfInBounds_toArray, List.set_cons_zero, List.set_cons_succ])
        refine WalkN.one 4 (by kernel_rfl) ?_
        refine ⟨_, (by simp only [List.getElem?_toArray, List.getElem?_cons_succ, List.getElem?_cons_zero]; rfl), by rfl, fun K hK => ?_⟩
        go_simp
        refine (HOWa.out _).mono ?_
        rintro e w2 ⟨rfl, h2⟩
        have h3 := h2.symm
        subst h3
        clear h2
        refine hK.out _ _ (Ext.refl _) ?_
        clear hK HOWa
        ((refine WalkN.take 5 _ ?_ (by simp only [List.getElem?_toArray, List.getElem?_cons_succ, List.getElem?_cons_zero]; rfl) (by kernel_rfl) (by kernel_rfl) (by rfl) (fun W hW => ?_) ?_; rotate_left; · (go_simp; try with_reducible rfl)); simp only [Act.put, List.setIfInBounds_toArray, List.set_cons_zero, List.set_cons_succ])
        ((refine WalkN.take 6 _ ?_ (by simp only [List.getElem?_toArray, List.getElem?_cons_succ, List.getElem?_cons_zero]; rfl) (by kernel_rfl) (by kernel_rfl) (by rfl) (fun W hW => ?_) ?_; rotate_left; · (go_simp; try with_reducible rfl)); simp only [Act.put, List.setIfInBounds_toArray, List.set_cons_zero, List.set_cons_succ]); ((refine WalkN.take 7 _ ?_ (by simp only [List.getElem?_toArray, List.getElem?_cons_succ, List.getElem?_cons_zero]; rfl) (by kernel_rfl) (by kernel_rfl) (by rfl) (fun W hW => ?_) ?_; rotate_left; · (go_simp; try with_reducible rfl)); simp only [Act.put, List.setIfInBounds_toArray, List.set_cons_zero, List.set_cons_succ]); ((refine WalkN.take 8 _ ?_ (by simp only [List.getElem?_toArray, List.getElem?_cons_succ, List.getElem?_cons_zero]; rfl) (by kernel_rfl) (by kernel_rfl) (by rfl) (fun W hW => ?_) ?_; rotate_left; · (go_simp; try with_reducible rfl)); simp only [Act.put, List.setIfInBounds_toArray, List.set_cons_zero, List.set_cons_succ])
        ((refine WalkN.take 9 _ ?_ (by simp only [List.getElem?_toArray, List.getElem?_cons_succ, List.getElem?_cons_zero]; rfl) (by kernel_rfl) (by kernel_rfl) (by rfl) (fun W hW => ?_) ?_; rotate_left; · (go_simp; try with_reducible rfl)); simp only [Act.put, List.setIfInBounds_toArray, List.set_cons_zero, List.set_cons_succ]); ((refine WalkN.take 10 _ ?_ (by simp only [List.getElem?_toArray, List.getElem?_cons_succ, List.getElem?_cons_zero]; rfl) (by kernel_rfl) (by kernel_rfl) (by rfl) (fun W hW => ?_) ?_; rotate_left; · (go_simp; try with_reducible rfl)); simp only [Act.put, List.setIfInBounds_toArray, List.set_cons_zero, List.set_cons_succ])
        ((refine WalkN.take 11 _ ?_ (by simp only [List.getElem?_toArray, List.getElem?_cons_succ, List.getElem?_cons_zero]; rfl) (by kernel_rfl) (by kernel_rfl) (by rfl) (fun W hW => ?_) ?_; rotate_left; · (go_simp; try with_reducible rfl)); simp only [Act.put, List.setIfInBounds_toArray, List.set_cons_zero, List.set_cons_succ]); ((refine WalkN.take 12 _ ?_ (by simp only [List.getElem?_toArray, List.getElem?_cons_succ, List.getElem?_cons_zero]; rfl) (by kernel_rfl) (by kernel_rfl) (by rfl) (fun W hW => ?_) ?_; rotate_left; · (go_simp; try with_reducible rfl)); simp only [Act.put, List.setIfInBounds_toArray, List.set_cons_zero, List.set_cons_succ]); ((refine WalkN.take 13 _ ?_ (by simp only [List.getElem?_toArray, List.getElem?_cons_succ, List.getElem?_cons_zero]; rfl) (by kernel_rfl) (by kernel_rfl) (by rfl) (fun W hW => ?_) ?_; rotate_left; · (go_simp; try with_reducible rfl)); simp only [Act.put, List.setIfInBounds_toArray, List.set_cons_zero, List.set_cons_succ]); ((refine WalkN.take 14 _ ?_ (by simp only [List.getElem?_toArray, List.getElem?_cons_succ, List.getElem?_cons_zero]; rfl) (by kernel_rfl) (by kernel_rfl) (by rfl) (fun W hW => ?_) ?_; rotate_left; · (go_simp; try with_reducible rfl)); simp only [Act.put, List.setIfInBounds_toArray, List.set_cons_zero, List.set_cons_succ])
        ((refine WalkN.take 15 _ ?_ (by simp only [List.getElem?_toArray, List.getElem?_cons_succ, List.getElem?_cons_zero]; rfl) (by kernel_rfl) (by kernel_rfl) (by rfl) (fun W hW => ?_) ?_; rotate_left; · (go_simp; try with_reducible rfl)); simp only [Act.put, List.setIfInBounds_toArray, List.set_cons_zero, List.set_cons_succ]); ((refine WalkN.take 16 _ ?_ (by simp only [List.getElem?_toArray, List.getElem?_cons_succ, List.getElem?_cons_zero]; rfl) (by kernel_rfl) (by kernel_rfl) (by rfl) (fun W hW => ?_) ?_; rotate_left; · (go_simp; try with_reducible rfl)); simp only [Act.put, List.setIfInBounds_toArray, List.set_cons_zero, List.set_cons_succ]); ((refine WalkN.take 17 _ ?_ (by simp only [List.getElem?_toArray, List.getElem?_cons_succ, List.getElem?_cons_zero]; rfl) (by kernel_rfl) (by kernel_rfl) (by rfl) (fun W hW => ?_) ?_; rotate_left; · (go_simp; try with_reducible rfl)); simp only [Act.put, List.setIfInBounds_toArray, List.set_cons_zero, List.set_cons_succ])
        refine WalkN.done (by kernel_rfl) ?_
        have HBD := Lib.hid hbd
        clear h1 hBd hbd
        go_wp2_with fail
        go_ret2
        exact ⟨_, by rw [HT.out]; rfl, rfl, HBD.out⟩
      · have hp0 : ((ps.length : Int) == 0) = false := by rw [beq_eq_false_iff_ne]; omega
        have HT := Lib.hid (show (true && decide ((⟨#[]⟩ : ByteArray).size = 0) && decide (ps.length = 0)) = false from by first | rfl | (simp [hlp]; done) | (simp [hlp]; rfl))
        clear hlp
        go_enter Try.func76, Try.ntmps76
        go_wp2_with fail
        obtain ⟨wd, hwd⟩ : ∃ wd, wd = (w.alloc (.cells #[.int .i64 2, .string a, .string ⟨#[]⟩, .slice ao ps.length c] 72)).drew := ⟨_, rfl⟩
        have hBd : Blk wd w.heap.size #[.int .i64 2, .string a, .string ⟨#[]⟩, .slice ao ps.length c] 72 := by rw [hwd]; exact (Blk.made w #[.int .i64 2, .string a, .string ⟨#[]⟩, .slice ao ps.length c] 72).drew
        have hbd : Below w.heap.size w wd := by rw [hwd]; exact ((Below.refl _ _).alloc (Nat.le_refl _) _).drew
        refine region_walkN (Ext wd) (by rw [← hwd]; exact Ext.refl _) (by kernel_rfl) (by kernel_rfl) (fun _ _ d _ _ h => by cases d <;> exact h) ?_
        rw [← hwd]
        clear hwd hbk
        have h1 : ∀ W, Ext wd W → ∀ i, W.cell? ⟨w.heap.size, i, none⟩ = (#[.int .i64 2, .string a, .string ⟨#[]⟩, .slice ao ps.length c] : Array Value)[i]? := fun W h => (hBd.below h).cells
        ((refine WalkN.take 0 _ ?_ (by simp only [List.getElem?_toArray, List.getElem?_cons_zero]; rfl) (by kernel_rfl) (by kernel_rfl) (by rfl) (fun W hW => ?_) ?_; rotate_left; · (go_simp; try with_reducible rfl)); simp only [Act.put, List.setIfInBounds_toArray, List.set_cons_zero, List.set_cons_succ]); ((refine WalkN.take 1 _ ?_ (by simp only [List.getElem?_toArray, List.getElem?_cons_succ, List.getElem?_cons_zero]; rfl) (by kernel_rfl) (by kernel_rfl) (by rfl) (fun W hW => ?_) ?_; rotate_left; · (go_simp; try with_reducible rfl)); simp only [Act.put, List.setIfInBounds_toArray, List.set_cons_zero, List.set_cons_succ]); ((refine WalkN.take 2 _ ?_ (by simp only [List.getElem?_toArray, List.getElem?_cons_succ, List.getElem?_cons_zero]; rfl) (by kernel_rfl) (by kernel_rfl) (by rfl) (fun W hW => ?_) ?_; rotate_left; · (go_simp; try with_reducible rfl)); simp only [Act.put, List.setIfInBounds_toArray, List.set_cons_zero, List.set_cons_succ]); ((refine WalkN.take 3 _ ?_ (by simp only [List.getElem?_toArray, List.getElem?_cons_succ, List.getElem?_cons_zero]; rfl) (by kernel_rfl) (by kernel_rfl) (by rfl) (fun W hW => ?_) ?_; rotate_left; · (go_simp; try with_reducible rfl)); simp only [Act.put, List.setIfInBounds_toArray, List.set_cons_zero, List.set_cons_succ])
        refine WalkN.one 4 (by kernel_rfl) ?_
        refine ⟨_, (by simp only [List.getElem?_toArray, List.getElem?_cons_succ, List.getElem?_cons_zero]; rfl), by rfl, fun K hK => ?_⟩
        go_simp
        refine (HOWa.out _).mono ?_
        rintro e w2 ⟨rfl, h2⟩
        have h3 := h2.symm
        subst h3
        clear h2
        refine hK.out _ _ (Ext.refl _) ?_
        clear hK HOWa
        ((refine WalkN.take 5 _ ?_ (by simp only [List.getElem?_toArray, List.getElem?_cons_succ, List.getElem?_cons_zero]; rfl) (by kernel_rfl) (by kernel_rfl) (by rfl) (fun W hW => ?_) ?_; rotate_left; · (go_simp; try with_reducible rfl)); simp only [Act.put, List.setIfInBounds_toArray, List.set_cons_zero, List.set_cons_succ])
        ((refine WalkN.take 6 _ ?_ (by simp only [List.getElem?_toArray, List.getElem?_cons_succ, List.getElem?_cons_zero]; rfl) (by kernel_rfl) (by kernel_rfl) (by rfl) (fun W hW => ?_) ?_; rotate_left; · (go_simp; try with_reducible rfl)); simp only [Act.put, List.setIfInBounds_toArray, List.set_cons_zero, List.set_cons_succ]); ((refine WalkN.take 7 _ ?_ (by simp only [List.getElem?_toArray, List.getElem?_cons_succ, List.getElem?_cons_zero]; rfl) (by kernel_rfl) (by kernel_rfl) (by rfl) (fun W hW => ?_) ?_; rotate_left; · (go_simp; try with_reducible rfl)); simp only [Act.put, List.setIfInBounds_toArray, List.set_cons_zero, List.set_cons_succ]); ((refine WalkN.take 8 _ ?_ (by simp only [List.getElem?_toArray, List.getElem?_cons_succ, List.getElem?_cons_zero]; rfl) (by kernel_rfl) (by kernel_rfl) (by rfl) (fun W hW => ?_) ?_; rotate_left; · (go_simp; try with_reducible rfl)); simp only [Act.put, List.setIfInBounds_toArray, List.set_cons_zero, List.set_cons_succ])
        ((refine WalkN.take 9 _ ?_ (by simp only [List.getElem?_toArray, List.getElem?_cons_succ, List.getElem?_cons_zero]; rfl) (by kernel_rfl) (by kernel_rfl) (by rfl) (fun W hW => ?_) ?_; rotate_left; · (go_simp; try with_reducible rfl)); simp only [Act.put, List.setIfInBounds_toArray, List.set_cons_zero, List.set_cons_succ]); ((refine WalkN.take 10 _ ?_ (by simp only [List.getElem?_toArray, List.getElem?_cons_succ, List.getElem?_cons_zero]; rfl) (by kernel_rfl) (by kernel_rfl) (by rfl) (fun W hW => ?_) ?_; rotate_left; · (go_simp; try with_reducible rfl)); simp only [Act.put, List.setIfInBounds_toArray, List.set_cons_zero, List.set_cons_succ])
        ((refine WalkN.take 11 _ ?_ (by simp only [List.getElem?_toArray, List.getElem?_cons_succ, List.getElem?_cons_zero]; rfl) (by kernel_rfl) (by kernel_rfl) (by rfl) (fun W hW => ?_) ?_; rotate_left; · (go_simp; try with_reducible rfl)); simp only [Act.put, List.setIfInBounds_toArray, List.set_cons_zero, List.set_cons_succ]); ((refine WalkN.take 12 _ ?_ (by simp only [List.getElem?_toArray, List.getElem?_cons_succ, List.getElem?_cons_zero]; rfl) (by kernel_rfl) (by kernel_rfl) (by rfl) (fun W hW => ?_) ?_; rotate_left; · (go_simp; try with_reducible rfl)); simp only [Act.put, List.setIfInBounds_toArray, List.set_cons_zero, List.set_cons_succ]); ((refine WalkN.take 13 _ ?_ (by simp only [List.getElem?_toArray, List.getElem?_cons_succ, List.getElem?_cons_zero]; rfl) (by kernel_rfl) (by kernel_rfl) (by rfl) (fun W hW => ?_) ?_; rotate_left; · (go_simp; try with_reducible rfl)); simp only [Act.put, List.setIfInBounds_toArray, List.set_cons_zero, List.set_cons_succ]); ((refine WalkN.take 14 _ ?_ (by simp only [List.getElem?_toArray, List.getElem?_cons_succ, List.getElem?_cons_zero]; rfl) (by kernel_rfl) (by kernel_rfl) (by rfl) (fun W hW => ?_) ?_; rotate_left; · (go_simp; try with_reducible rfl)); simp only [Act.put, List.setIfInBounds_toArray, List.set_cons_zero, List.set_cons_succ])
        ((refine WalkN.take 15 _ ?_ (by simp only [List.getElem?_toArray, List.getElem?_cons_succ, List.getElem?_cons_zero]; rfl) (by kernel_rfl) (by kernel_rfl) (by rfl) (fun W hW => ?_) ?_; rotate_left; · (go_simp; try with_reducible rfl)); simp only [Act.put, List.setIfInBounds_toArray, List.set_cons_zero, List.set_cons_succ]); ((refine WalkN.take 16 _ ?_ (by simp only [List.getElem?_toArray, List.getElem?_cons_succ, List.getElem?_cons_zero]; rfl) (by kernel_rfl) (by kernel_rfl) (by rfl) (fun W hW => ?_) ?_; rotate_left; · (go_simp; try with_reducible rfl)); simp only [Act.put, List.setIfInBounds_toArray, List.set_cons_zero, List.set_cons_succ]); ((refine WalkN.take 17 _ ?_ (by simp only [List.getElem?_toArray, List.getElem?_cons_succ, List.getElem?_cons_zero]; rfl) (by kernel_rfl) (by kernel_rfl) (by rfl) (fun W hW => ?_) ?_; rotate_left; · (go_simp; try with_reducible rfl)); simp only [Act.put, List.setIfInBounds_toArray, List.set_cons_zero, List.set_cons_succ])
        refine WalkN.done (by kernel_rfl) ?_
        have HBD := Lib.hid hbd
        clear h1 hBd hbd
        go_wp2_with fail
        go_ret2
        exact ⟨_, by rw [HT.out]; rfl, rfl, HBD.out⟩
    · have hneb := ba_size_ne hnb
      have HT := Lib.hid (show (true && decide (b.size = 0) && decide (ps.length = 0)) = false from by first | rfl | (simp [hnb]; done) | (simp [hnb]; rfl))
      clear hnb
      go_enter Try.func76, Try.ntmps76
      go_wp2_with fail
      obtain ⟨wd, hwd⟩ : ∃ wd, wd = (w.alloc (.cells #[.int .i64 2, .string a, .string b, .slice ao ps.length c] 72)).drew := ⟨_, rfl⟩
      have hBd : Blk wd w.heap.size #[.int .i64 2, .string a, .string b, .slice ao ps.length c] 72 := by rw [hwd]; exact (Blk.made w #[.int .i64 2, .string a, .string b, .slice ao ps.length c] 72).drew
      have hbd : Below w.heap.size w wd := by rw [hwd]; exact ((Below.refl _ _).alloc (Nat.le_refl _) _).drew
      refine region_walkN (Ext wd) (by rw [← hwd]; exact Ext.refl _) (by kernel_rfl) (by kernel_rfl) (fun _ _ d _ _ h => by cases d <;> exact h) ?_
      rw [← hwd]
      clear hwd hbk
      have h1 : ∀ W, Ext wd W → ∀ i, W.cell? ⟨w.heap.size, i, none⟩ = (#[.int .i64 2, .string a, .string b, .slice ao ps.length c] : Array Value)[i]? := fun W h => (hBd.below h).cells
      ((refine WalkN.take 0 _ ?_ (by simp only [List.getElem?_toArray, List.getElem?_cons_zero]; rfl) (by kernel_rfl) (by kernel_rfl) (by rfl) (fun W hW => ?_) ?_; rotate_left; · (go_simp; try with_reducible rfl)); simp only [Act.put, List.setIfInBounds_toArray, List.set_cons_zero, List.set_cons_succ]); ((refine WalkN.take 1 _ ?_ (by simp only [List.getElem?_toArray, List.getElem?_cons_succ, List.getElem?_cons_zero]; rfl) (by kernel_rfl) (by kernel_rfl) (by rfl) (fun W hW => ?_) ?_; rotate_left; · (go_simp; try with_reducible rfl)); simp only [Act.put, List.setIfInBounds_toArray, List.set_cons_zero, List.set_cons_succ]); ((refine WalkN.take 2 _ ?_ (by simp only [List.getElem?_toArray, List.getElem?_cons_succ, List.getElem?_cons_zero]; rfl) (by kernel_rfl) (by kernel_rfl) (by rfl) (fun W hW => ?_) ?_; rotate_left; · (go_simp; try with_reducible rfl)); simp only [Act.put, List.setIfInBounds_toArray, List.set_cons_zero, List.set_cons_succ]); ((refine WalkN.take 3 _ ?_ (by simp only [List.getElem?_toArray, List.getElem?_cons_succ, List.getElem?_cons_zero]; rfl) (by kernel_rfl) (by kernel_rfl) (by rfl) (fun W hW => ?_) ?_; rotate_left; · (go_simp; try with_reducible rfl)); simp only [Act.put, List.setIfInBounds_toArray, List.set_cons_zero, List.set_cons_succ])
      refine WalkN.one 4 (by kernel_rfl) ?_
      refine ⟨_, (by simp only [List.getElem?_toArray, List.getElem?_cons_succ, List.getElem?_cons_zero]; rfl), by rfl, fun K hK => ?_⟩
      go_simp
      refine (HOWa.out _).mono ?_
      rintro e w2 ⟨rfl, h2⟩
      have h3 := h2.symm
      subst h3
      clear h2
      refine hK.out _ _ (Ext.refl _) ?_
      clear hK HOWa
      ((refine WalkN.take 5 _ ?_ (by simp only [List.getElem?_toArray, List.getElem?_cons_succ, List.getElem?_cons_zero]; rfl) (by kernel_rfl) (by kernel_rfl) (by rfl) (fun W hW => ?_) ?_; rotate_left; · (go_simp; try with_reducible rfl)); simp only [Act.put, List.setIfInBounds_toArray, List.set_cons_zero, List.set_cons_succ])
      ((refine WalkN.take 6 _ ?_ (by simp only [List.getElem?_toArray, List.getElem?_cons_succ, List.getElem?_cons_zero]; rfl) (by kernel_rfl) (by kernel_rfl) (by rfl) (fun W hW => ?_) ?_; rotate_left; · (go_simp; try with_reducible rfl)); simp only [Act.put, List.setIfInBounds_toArray, List.set_cons_zero, List.set_cons_succ]); ((refine WalkN.take 7 _ ?_ (by simp only [List.getElem?_toArray, List.getElem?_cons_succ, List.getElem?_cons_zero]; rfl) (by kernel_rfl) (by kernel_rfl) (by rfl) (fun W hW => ?_) ?_; rotate_left; · (go_simp; try with_reducible rfl)); simp only [Act.put, List.setIfInBounds_toArray, List.set_cons_zero, List.set_cons_succ]); ((refine WalkN.take 8 _ ?_ (by simp only [List.getElem?_toArray, List.getElem?_cons_succ, List.getElem?_cons_zero]; rfl) (by kernel_rfl) (by kernel_rfl) (by rfl) (fun W hW => ?_) ?_; rotate_left; · (go_simp; try with_reducible rfl)); simp only [Act.put, List.setIfInBounds_toArray, List.set_cons_zero, List.set_cons_succ])
      ((refine WalkN.take 9 _ ?_ (by simp only [List.getElem?_toArray, List.getElem?_cons_succ, List.getElem?_cons_zero]; rfl) (by kernel_rfl) (by kernel_rfl) (by rfl) (fun W hW => ?_) ?_; rotate_left; · (go_simp; try with_reducible rfl)); simp only [Act.put, List.setIfInBounds_toArray, List.set_cons_zero, List.set_cons_succ]); ((refine WalkN.take 10 _ ?_ (by simp only [List.getElem?_toArray, List.getElem?_cons_succ, List.getElem?_cons_zero]; rfl) (by kernel_rfl) (by kernel_rfl) (by rfl) (fun W hW => ?_) ?_; rotate_left; · (go_simp; try with_reducible rfl)); simp only [Act.put, List.setIfInBounds_toArray, List.set_cons_zero, List.set_cons_succ])
      (refine WalkN.skip 11 _ (by simp only [List.getElem?_toArray, List.getElem?_cons_succ, List.getElem?_cons_zero]; rfl) (by kernel_rfl) (by kernel_rfl) (by rfl) ?_; simp only [Act.put, List.setIfInBounds_toArray, List.set_cons_zero, List.set_cons_succ]); (refine WalkN.skip 12 _ (by simp only [List.getElem?_toArray, List.getElem?_cons_succ, List.getElem?_cons_zero]; rfl) (by kernel_rfl) (by kernel_rfl) (by rfl) ?_; simp only [Act.put, List.setIfInBounds_toArray, List.set_cons_zero, List.set_cons_succ]); (refine WalkN.skip 13 _ (by simp only [List.getElem?_toArray, List.getElem?_cons_succ, List.getElem?_cons_zero]; rfl) (by kernel_rfl) (by kernel_rfl) (by rfl) ?_; simp only [Act.put, List.setIfInBounds_toArray, List.set_cons_zero, List.set_cons_succ]); (refine WalkN.skip 14 _ (by simp only [List.getElem?_toArray, List.getElem?_cons_succ, List.getElem?_cons_zero]; rfl) (by kernel_rfl) (by kernel_rfl) (by rfl) ?_; simp only [Act.put, List.setIfInBounds_toArray, List.set_cons_zero, List.set_cons_succ])
      ((refine WalkN.take 15 _ ?_ (by simp only [List.getElem?_toArray, List.getElem?_cons_succ, List.getElem?_cons_zero]; rfl) (by kernel_rfl) (by kernel_rfl) (by rfl) (fun W hW => ?_) ?_; rotate_left; · (go_simp; try with_reducible rfl)); simp only [Act.put, List.setIfInBounds_toArray, List.set_cons_zero, List.set_cons_succ]); ((refine WalkN.take 16 _ ?_ (by simp only [List.getElem?_toArray, List.getElem?_cons_succ, List.getElem?_cons_zero]; rfl) (by kernel_rfl) (by kernel_rfl) (by rfl) (fun W hW => ?_) ?_; rotate_left; · (go_simp; try with_reducible rfl)); simp only [Act.put, List.setIfInBounds_toArray, List.set_cons_zero, List.set_cons_succ]); ((refine WalkN.take 17 _ ?_ (by simp only [List.getElem?_toArray, List.getElem?_cons_succ, List.getElem?_cons_zero]; rfl) (by kernel_rfl) (by kernel_rfl) (by rfl) (fun W hW => ?_) ?_; rotate_left; · (go_simp; try with_reducible rfl)); simp only [Act.put, List.setIfInBounds_toArray, List.set_cons_zero, List.set_cons_succ])
      refine WalkN.done (by kernel_rfl) ?_
      have HBD := Lib.hid hbd
      clear h1 hBd hbd
      go_wp2_with fail
      go_ret2
      exact ⟨_, by rw [HT.out]; rfl, rfl, HBD.out⟩
  | false =>
    simp only [hoa] at HOWa
    have HT := Lib.hid (show (false && decide (b.size = 0) && decide (ps.length = 0)) = false from by first | rfl | (simp; done) | (simp; rfl))
    go_enter Try.func76, Try.ntmps76
    go_wp2_with fail
    obtain ⟨wd, hwd⟩ : ∃ wd, wd = (w.alloc (.cells #[.int .i64 2, .string a, .string b, .slice ao ps.length c] 72)).drew := ⟨_, rfl⟩
    have hBd : Blk wd w.heap.size #[.int .i64 2, .string a, .string b, .slice ao ps.length c] 72 := by rw [hwd]; exact (Blk.made w #[.int .i64 2, .string a, .string b, .slice ao ps.length c] 72).drew
    have hbd : Below w.heap.size w wd := by rw [hwd]; exact ((Below.refl _ _).alloc (Nat.le_refl _) _).drew
    refine region_walkN (Ext wd) (by rw [← hwd]; exact Ext.refl _) (by kernel_rfl) (by kernel_rfl) (fun _ _ d _ _ h => by cases d <;> exact h) ?_
    rw [← hwd]
    clear hwd hbk
    have h1 : ∀ W, Ext wd W → ∀ i, W.cell? ⟨w.heap.size, i, none⟩ = (#[.int .i64 2, .string a, .string b, .slice ao ps.length c] : Array Value)[i]? := fun W h => (hBd.below h).cells
    ((refine WalkN.take 0 _ ?_ (by simp only [List.getElem?_toArray, List.getElem?_cons_zero]; rfl) (by kernel_rfl) (by kernel_rfl) (by rfl) (fun W hW => ?_) ?_; rotate_left; · (go_simp; try with_reducible rfl)); simp only [Act.put, List.setIfInBounds_toArray, List.set_cons_zero, List.set_cons_succ]); ((refine WalkN.take 1 _ ?_ (by simp only [List.getElem?_toArray, List.getElem?_cons_succ, List.getElem?_cons_zero]; rfl) (by kernel_rfl) (by kernel_rfl) (by rfl) (fun W hW => ?_) ?_; rotate_left; · (go_simp; try with_reducible rfl)); simp only [Act.put, List.setIfInBounds_toArray, List.set_cons_zero, List.set_cons_succ]); ((refine WalkN.take 2 _ ?_ (by simp only [List.getElem?_toArray, List.getElem?_cons_succ, List.getElem?_cons_zero]; rfl) (by kernel_rfl) (by kernel_rfl) (by rfl) (fun W hW => ?_) ?_; rotate_left; · (go_simp; try with_reducible rfl)); simp only [Act.put, List.setIfInBounds_toArray, List.set_cons_zero, List.set_cons_succ]); ((refine WalkN.take 3 _ ?_ (by simp only [List.getElem?_toArray, List.getElem?_cons_succ, List.getElem?_cons_zero]; rfl) (by kernel_rfl) (by kernel_rfl) (by rfl) (fun W hW => ?_) ?_; rotate_left; · (go_simp; try with_reducible rfl)); simp only [Act.put, List.setIfInBounds_toArray, List.set_cons_zero, List.set_cons_succ])
    refine WalkN.one 4 (by kernel_rfl) ?_
    refine ⟨_, (by simp only [List.getElem?_toArray, List.getElem?_cons_succ, List.getElem?_cons_zero]; rfl), by rfl, fun K hK => ?_⟩
    go_simp
    refine (HOWa.out _).mono ?_
    rintro e w2 ⟨rfl, h2⟩
    have h3 := h2.symm
    subst h3
    clear h2
    refine hK.out _ _ (Ext.refl _) ?_
    clear hK HOWa
    ((refine WalkN.take 5 _ ?_ (by simp only [List.getElem?_toArray, List.getElem?_cons_succ, List.getElem?_cons_zero]; rfl) (by kernel_rfl) (by kernel_rfl) (by rfl) (fun W hW => ?_) ?_; rotate_left; · (go_simp; try with_reducible rfl)); simp only [Act.put, List.setIfInBounds_toArray, List.set_cons_zero, List.set_cons_succ])
    (refine WalkN.skip 6 _ (by simp only [List.getElem?_toArray, List.getElem?_cons_succ, List.getElem?_cons_zero]; rfl) (by kernel_rfl) (by kernel_rfl) (by rfl) ?_; simp only [Act.put, List.setIfInBounds_toArray, List.set_cons_zero, List.set_cons_succ]); (refine WalkN.skip 7 _ (by simp only [List.getElem?_toArray, List.getElem?_cons_succ, List.getElem?_cons_zero]; rfl) (by kernel_rfl) (by kernel_rfl) (by rfl) ?_; simp only [Act.put, List.setIfInBounds_toArray, List.set_cons_zero, List.set_cons_succ]); (refine WalkN.skip 8 _ (by simp only [List.getElem?_toArray, List.getElem?_cons_succ, List.getElem?_cons_zero]; rfl) (by kernel_rfl) (by kernel_rfl) (by rfl) ?_; simp only [Act.put, List.setIfInBounds_toArray, List.set_cons_zero, List.set_cons_succ])
    ((refine WalkN.take 9 _ ?_ (by simp only [List.getElem?_toArray, List.getElem?_cons_succ, List.getElem?_cons_zero]; rfl) (by kernel_rfl) (by kernel_rfl) (by rfl) (fun W hW => ?_) ?_; rotate_left; · (go_simp; try with_reducible rfl)); simp only [Act.put, List.setIfInBounds_toArray, List.set_cons_zero, List.set_cons_succ]); ((refine WalkN.take 10 _ ?_ (by simp only [List.getElem?_toArray, List.getElem?_cons_succ, List.getElem?_cons_zero]; rfl) (by kernel_rfl) (by kernel_rfl) (by rfl) (fun W hW => ?_) ?_; rotate_left; · (go_simp; try with_reducible rfl)); simp only [Act.put, List.setIfInBounds_toArray, List.set_cons_zero, List.set_cons_succ])
    (refine WalkN.skip 11 _ (by simp only [List.getElem?_toArray, List.getElem?_cons_succ, List.getElem?_cons_zero]; rfl) (by kernel_rfl) (by kernel_rfl) (by rfl) ?_; simp only [Act.put, List.setIfInBounds_toArray, List.set_cons_zero, List.set_cons_succ]); (refine WalkN.skip 12 _ (by simp only [List.getElem?_toArray, List.getElem?_cons_succ, List.getElem?_cons_zero]; rfl) (by kernel_rfl) (by kernel_rfl) (by rfl) ?_; simp only [Act.put, List.setIfInBounds_toArray, List.set_cons_zero, List.set_cons_succ]); (refine WalkN.skip 13 _ (by simp only [List.getElem?_toArray, List.getElem?_cons_succ, List.getElem?_cons_zero]; rfl) (by kernel_rfl) (by kernel_rfl) (by rfl) ?_; simp only [Act.put, List.setIfInBounds_toArray, List.set_cons_zero, List.set_cons_succ]); (refine WalkN.skip 14 _ (by simp only [List.getElem?_toArray, List.getElem?_cons_succ, List.getElem?_cons_zero]; rfl) (by kernel_rfl) (by kernel_rfl) (by rfl) ?_; simp only [Act.put, List.setIfInBounds_toArray, List.set_cons_zero, List.set_cons_succ])
    ((refine WalkN.take 15 _ ?_ (by simp only [List.getElem?_toArray, List.getElem?_cons_succ, List.getElem?_cons_zero]; rfl) (by kernel_rfl) (by kernel_rfl) (by rfl) (fun W hW => ?_) ?_; rotate_left; · (go_simp; try with_reducible rfl)); simp only [Act.put, List.setIfInBounds_toArray, List.set_cons_zero, List.set_cons_succ]); ((refine WalkN.take 16 _ ?_ (by simp only [List.getElem?_toArray, List.getElem?_cons_succ, List.getElem?_cons_zero]; rfl) (by kernel_rfl) (by kernel_rfl) (by rfl) (fun W hW => ?_) ?_; rotate_left; · (go_simp; try with_reducible rfl)); simp only [Act.put, List.setIfInBounds_toArray, List.set_cons_zero, List.set_cons_succ]); ((refine WalkN.take 17 _ ?_ (by simp only [List.getElem?_toArray, List.getElem?_cons_succ, List.getElem?_cons_zero]; rfl) (by kernel_rfl) (by kernel_rfl) (by rfl) (fun W hW => ?_) ?_; rotate_left; · (go_simp; try with_reducible rfl)); simp only [Act.put, List.setIfInBounds_toArray, List.set_cons_zero, List.set_cons_succ])
    refine WalkN.done (by kernel_rfl) ?_
    have HBD := Lib.hid hbd
    clear h1 hBd hbd
    go_wp2_with fail
    go_ret2
    exact ⟨_, by rw [HT.out]; rfl, rfl, HBD.out⟩

set_option maxRecDepth 100000 in
set_option maxHeartbeats 4000000 in
theorem text_leaf3 (a b : ByteArray) (ps : List RT) (d : Nat) (ao : Option Addr) (c : Nat) (w : World) (ha : a.size ≤ 140737488351232) (hb : b.size ≤ 140737488351232) : Calls Try.prog 76 #[.agg #[.int .i64 3, .string a, .string b, .slice ao ps.length c], .int .i64 d] w fun e w' => ∃ s : ByteArray, e = .returned (.tuple #[.string s, .bool (ownB a && ownB b && decide (ps.length = 0))]) ∧ s = (a ++ ⟨#[45, 62]⟩) ++ b ∧ Below w.heap.size w w' := by
  have hbk := (Blk.made w #[.int .i64 3, .string a, .string b, .slice ao ps.length c] 72).cells
  have HOWa := Lib.hid (fun W => own_any a (by unfold maxLen; omega) W)
  have HOWb := Lib.hid (fun W => own_any b (by unfold maxLen; omega) W)
  have hs1 : ¬ (9223372036854775807 < a.size + 2) := by omega
  have hs2 : ¬ (9223372036854775807 < a.size + 2 + b.size) := by omega
  clear ha hb
  cases hoa : ownB a with
  | true =>
    simp only [hoa] at HOWa
    cases hob : ownB b with
    | true =>
      simp only [hob] at HOWb
      by_cases hlp : ps.length = 0
      · have hp0 : ((ps.length : Int) == 0) = true := by rw [beq_iff_eq]; omega
        have HT := Lib.hid (show (true && true && decide (ps.length = 0)) = true from by first | rfl | (simp [hlp]; done) | (simp [hlp]; rfl))
        clear hlp
        go_enter Try.func76, Try.ntmps76
        go_wp2_with fail
        obtain ⟨wd, hwd⟩ : ∃ wd, wd = (w.alloc (.cells #[.int .i64 3, .string a, .string b, .slice ao ps.length c] 72)).drew := ⟨_, rfl⟩
        have hBd : Blk wd w.heap.size #[.int .i64 3, .string a, .string b, .slice ao ps.length c] 72 := by rw [hwd]; exact (Blk.made w #[.int .i64 3, .string a, .string b, .slice ao ps.length c] 72).drew
        have hbd : Below w.heap.size w wd := by rw [hwd]; exact ((Below.refl _ _).alloc (Nat.le_refl _) _).drew
        refine region_walkN (Ext wd) (by rw [← hwd]; exact Ext.refl _) (by kernel_rfl) (by kernel_rfl) (fun _ _ d _ _ h => by cases d <;> exact h) ?_
        rw [← hwd]
        clear hwd hbk
        have h1 : ∀ W, Ext wd W → ∀ i, W.cell? ⟨w.heap.size, i, none⟩ = (#[.int .i64 3, .string a, .string b, .slice ao ps.length c] : Array Value)[i]? := fun W h => (hBd.below h).cells
        ((refine WalkN.take 0 _ ?_ (by simp only [List.getElem?_toArray, List.getElem?_cons_zero]; rfl) (by kernel_rfl) (by kernel_rfl) (by rfl) (fun W hW => ?_) ?_; rotate_left; · (go_simp; try with_reducible rfl)); simp only [Act.put, List.setIfInBounds_toArray, List.set_cons_zero, List.set_cons_succ]); ((refine WalkN.take 1 _ ?_ (by simp only [List.getElem?_toArray, List.getElem?_cons_succ, List.getElem?_cons_zero]; rfl) (by kernel_rfl) (by kernel_rfl) (by rfl) (fun W hW => ?_) ?_; rotate_left; · (go_simp; try with_reducible rfl)); simp only [Act.put, List.setIfInBounds_toArray, List.set_cons_zero, List.set_cons_succ]); ((refine WalkN.take 2 _ ?_ (by simp only [List.getElem?_toArray, List.getElem?_cons_succ, List.getElem?_cons_zero]; rfl) (by kernel_rfl) (by kernel_rfl) (by rfl) (fun W hW => ?_) ?_; rotate_left; · (go_simp; try with_reducible rfl)); simp only [Act.put, List.setIfInBounds_toArray, List.set_cons_zero, List.set_cons_succ]); ((refine WalkN.take 3 _ ?_ (by simp only [List.getElem?_toArray, List.getElem?_cons_succ, List.getElem?_cons_zero]; rfl) (by kernel_rfl) (by kernel_rfl) (by rfl) (fun W hW => ?_) ?_; rotate_left; · (go_simp; try with_reducible rfl)); simp only [Act.put, List.setIfInBounds_toArray, List.set_cons_zero, List.set_cons_succ]); ((refine WalkN.take 4 _ ?_ (by simp only [List.getElem?_toArray, List.getElem?_cons_succ, List.getElem?_cons_zero]; rfl) (by kernel_rfl) (by kernel_rfl) (by rfl) (fun W hW => ?_) ?_; rotate_left; · (go_simp; try with_reducible rfl)); simp only [Act.put, List.setIfInBounds_toArray, List.set_cons_zero, List.set_cons_succ]); ((refine WalkN.take 5 _ ?_ (by simp only [List.getElem?_toArray, List.getElem?_cons_succ, List.getElem?_cons_zero]; rfl) (by kernel_rfl) (by kernel_rfl) (by rfl) (fun W hW => ?_) ?_; rotate_left; · (go_simp; try with_reducible rfl)); simp only [Act.put, List.setIfInBounds_toArray, List.set_cons_zero, List.set_cons_succ]); ((refine WalkN.take 6 _ ?_ (by simp only [List.getElem?_toArray, List.getElem?_cons_succ, List.getElem?_cons_zero]; rfl) (by kernel_rfl) (by kernel_rfl) (by rfl) (fun W hW => ?_) ?_; rotate_left; · (go_simp; try with_reducible rfl)); simp only [Act.put, List.setIfInBounds_toArray, List.set_cons_zero, List.set_cons_succ]); ((refine WalkN.take 7 _ ?_ (by simp only [List.getElem?_toArray, List.getElem?_cons_succ, List.getElem?_cons_zero]; rfl) (by kernel_rfl) (by kernel_rfl) (by rfl) (fun W hW => ?_) ?_; rotate_left; · (go_simp; try with_reducible rfl)); simp only [Act.put, List.setIfInBounds_toArray, List.set_cons_zero, List.set_cons_succ])
        refine WalkN.one 8 (by kernel_rfl) ?_
        refine ⟨_, (by simp only [List.getElem?_toArray, List.getElem?_cons_succ, List.getElem?_cons_zero]; rfl), by rfl, fun K hK => ?_⟩
        go_simp
        refine (HOWa.out _).mono ?_
        rintro e w2 ⟨rfl, h2⟩
        have h3 := h2.symm
        subst h3
        clear h2
        refine hK.out _ _ (Ext.refl _) ?_
        clear hK HOWa
        ((refine WalkN.take 9 _ ?_ (by simp only [List.getElem?_toArray, List.getElem?_cons_succ, List.getElem?_cons_zero]; rfl) (by kernel_rfl) (by kernel_rfl) (by rfl) (fun W hW => ?_) ?_; rotate_left; · (go_simp; try with_reducible rfl)); simp only [Act.put, List.setIfInBounds_toArray, List.set_cons_zero, List.set_cons_succ])
        ((refine WalkN.take 10 _ ?_ (by simp only [List.getElem?_toArray, List.getElem?_cons_succ, List.getElem?_cons_zero]; rfl) (by kernel_rfl) (by kernel_rfl) (by rfl) (fun W hW => ?_) ?_; rotate_left; · (go_simp; try with_reducible rfl)); simp only [Act.put, List.setIfInBounds_toArray, List.set_cons_zero, List.set_cons_succ]); ((refine WalkN.take 11 _ ?_ (by simp only [List.getElem?_toArray, List.getElem?_cons_succ, List.getElem?_cons_zero]; rfl) (by kernel_rfl) (by kernel_rfl) (by rfl) (fun W hW => ?_) ?_; rotate_left; · (go_simp; try with_reducible rfl)); simp only [Act.put, List.setIfInBounds_toArray, List.set_cons_zero, List.set_cons_succ])
        refine WalkN.one 12 (by kernel_rfl) ?_
        refine ⟨_, (by simp only [List.getElem?_toArray, List.getElem?_cons_succ, List.getElem?_cons_zero]; rfl), by rfl, fun K hK => ?_⟩
        go_simp
        refine (HOWb.out _).mono ?_
        rintro e w2 ⟨rfl, h2⟩
        have h3 := h2.symm
        subst h3
        clear h2
        refine hK.out _ _ (Ext.refl _) ?_
        clear hK HOWb
        ((refine WalkN.take 13 _ ?_ (by simp only [List.getElem?_toArray, List.getElem?_cons_succ, List.getElem?_cons_zero]; rfl) (by kernel_rfl) (by kernel_rfl) (by rfl) (fun W hW => ?_) ?_; rotate_left; · (go_simp; try with_reducible rfl)); simp only [Act.put, List.setIfInBounds_toArray, List.set_cons_zero, List.set_cons_succ]); ((refine WalkN.take 14 _ ?_ (by simp only [List.getElem?_toArray, List.getElem?_cons_succ, List.getElem?_cons_zero]; rfl) (by kernel_rfl) (by kernel_rfl) (by rfl) (fun W hW => ?_) ?_; rotate_left; · (go_simp; try with_reducible rfl)); simp only [Act.put, List.setIfInBounds_toArray, List.set_cons_zero, List.set_cons_succ])
        ((refine WalkN.take 15 _ ?_ (by simp only [List.getElem?_toArray, List.getElem?_cons_succ, List.getElem?_cons_zero]; rfl) (by kernel_rfl) (by kernel_rfl) (by rfl) (fun W hW => ?_) ?_; rotate_left; · (go_simp; try with_reducible rfl)); simp only [Act.put, List.setIfInBounds_toArray, List.set_cons_zero, List.set_cons_succ]); ((refine WalkN.take 16 _ ?_ (by simp only [List.getElem?_toArray, List.getElem?_cons_succ, List.getElem?_cons_zero]; rfl) (by kernel_rfl) (by kernel_rfl) (by rfl) (fun W hW => ?_) ?_; rotate_left; · (go_simp; try with_reducible rfl)); simp only [Act.put, List.setIfInBounds_toArray, List.set_cons_zero, List.set_cons_succ]); ((refine WalkN.take 17 _ ?_ (by simp only [List.getElem?_toArray, List.getElem?_cons_succ, List.getElem?_cons_zero]; rfl) (by kernel_rfl) (by kernel_rfl) (by rfl) (fun W hW => ?_) ?_; rotate_left; · (go_simp; try with_reducible rfl)); simp only [Act.put, List.setIfInBounds_toArray, List.set_cons_zero, List.set_cons_succ]); ((refine WalkN.take 18 _ ?_ (by simp only [List.getElem?_toArray, List.getElem?_cons_succ, List.getElem?_cons_zero]; rfl) (by kernel_rfl) (by kernel_rfl) (by rfl) (fun W hW => ?_) ?_; rotate_left; · (go_simp; try with_reducible rfl)); simp only [Act.put, List.setIfInBounds_toArray, List.set_cons_zero, List.set_cons_succ])
        ((refine WalkN.take 19 _ ?_ (by simp only [List.getElem?_toArray, List.getElem?_cons_succ, List.getElem?_cons_zero]; rfl) (by kernel_rfl) (by kernel_rfl) (by rfl) (fun W hW => ?_) ?_; rotate_left; · (go_simp; try with_reducible rfl)); simp only [Act.put, List.setIfInBounds_toArray, List.set_cons_zero, List.set_cons_succ]); ((refine WalkN.take 20 _ ?_ (by simp only [List.getElem?_toArray, List.getElem?_cons_succ, List.getElem?_cons_zero]; rfl) (by kernel_rfl) (by kernel_rfl) (by rfl) (fun W hW => ?_) ?_; rotate_left; · (go_simp; try with_reducible rfl)); simp only [Act.put, List.setIfInBounds_toArray, List.set_cons_zero, List.set_cons_succ]); ((refine WalkN.take 21 _ ?_ (by simp only [List.getElem?_toArray, List.getElem?_cons_succ, List.getElem?_cons_zero]; rfl) (by kernel_rfl) (by kernel_rfl) (by rfl) (fun W hW => ?_) ?_; rotate_left; · (go_simp; try with_reducible rfl)); simp only [Act.put, List.setIfInBounds_toArray, List.set_cons_zero, List.set_cons_succ])
        refine WalkN.done (by kernel_rfl) ?_
        have HBD := Lib.hid hbd
        clear h1 hBd hbd
        go_wp2_with fail
        go_ret2
        exact ⟨_, by rw [HT.out]; rfl, rfl, HBD.out⟩
      · have hp0 : ((ps.length : Int) == 0) = false := by rw [beq_eq_false_iff_ne]; omega
        have HT := Lib.hid (show (true && true && decide (ps.length = 0)) = false from by first | rfl | (simp [hlp]; done) | (simp [hlp]; rfl))
        clear hlp
        go_enter Try.func76, Try.ntmps76
        go_wp2_with fail
        obtain ⟨wd, hwd⟩ : ∃ wd, wd = (w.alloc (.cells #[.int .i64 3, .string a, .string b, .slice ao ps.length c] 72)).drew := ⟨_, rfl⟩
        have hBd : Blk wd w.heap.size #[.int .i64 3, .string a, .string b, .slice ao ps.length c] 72 := by rw [hwd]; exact (Blk.made w #[.int .i64 3, .string a, .string b, .slice ao ps.length c] 72).drew
        have hbd : Below w.heap.size w wd := by rw [hwd]; exact ((Below.refl _ _).alloc (Nat.le_refl _) _).drew
        refine region_walkN (Ext wd) (by rw [← hwd]; exact Ext.refl _) (by kernel_rfl) (by kernel_rfl) (fun _ _ d _ _ h => by cases d <;> exact h) ?_
        rw [← hwd]
        clear hwd hbk
        have h1 : ∀ W, Ext wd W → ∀ i, W.cell? ⟨w.heap.size, i, none⟩ = (#[.int .i64 3, .string a, .string b, .slice ao ps.length c] : Array Value)[i]? := fun W h => (hBd.below h).cells
        ((refine WalkN.take 0 _ ?_ (by simp only [List.getElem?_toArray, List.getElem?_cons_zero]; rfl) (by kernel_rfl) (by kernel_rfl) (by rfl) (fun W hW => ?_) ?_; rotate_left; · (go_simp; try with_reducible rfl)); simp only [Act.put, List.setIfInBounds_toArray, List.set_cons_zero, List.set_cons_succ]); ((refine WalkN.take 1 _ ?_ (by simp only [List.getElem?_toArray, List.getElem?_cons_succ, List.getElem?_cons_zero]; rfl) (by kernel_rfl) (by kernel_rfl) (by rfl) (fun W hW => ?_) ?_; rotate_left; · (go_simp; try with_reducible rfl)); simp only [Act.put, List.setIfInBounds_toArray, List.set_cons_zero, List.set_cons_succ]); ((refine WalkN.take 2 _ ?_ (by simp only [List.getElem?_toArray, List.getElem?_cons_succ, List.getElem?_cons_zero]; rfl) (by kernel_rfl) (by kernel_rfl) (by rfl) (fun W hW => ?_) ?_; rotate_left; · (go_simp; try with_reducible rfl)); simp only [Act.put, List.setIfInBounds_toArray, List.set_cons_zero, List.set_cons_succ]); ((refine WalkN.take 3 _ ?_ (by simp only [List.getElem?_toArray, List.getElem?_cons_succ, List.getElem?_cons_zero]; rfl) (by kernel_rfl) (by kernel_rfl) (by rfl) (fun W hW => ?_) ?_; rotate_left; · (go_simp; try with_reducible rfl)); simp only [Act.put, List.setIfInBounds_toArray, List.set_cons_zero, List.set_cons_succ]); ((refine WalkN.take 4 _ ?_ (by simp only [List.getElem?_toArray, List.getElem?_cons_succ, List.getElem?_cons_zero]; rfl) (by kernel_rfl) (by kernel_rfl) (by rfl) (fun W hW => ?_) ?_; rotate_left; · (go_simp; try with_reducible rfl)); simp only [Act.put, List.setIfInBounds_toArray, List.set_cons_zero, List.set_cons_succ]); ((refine WalkN.take 5 _ ?_ (by simp only [List.getElem?_toArray, List.getElem?_cons_succ, List.getElem?_cons_zero]; rfl) (by kernel_rfl) (by kernel_rfl) (by rfl) (fun W hW => ?_) ?_; rotate_left; · (go_simp; try with_reducible rfl)); simp only [Act.put, List.setIfInBounds_toArray, List.set_cons_zero, List.set_cons_succ]); ((refine WalkN.take 6 _ ?_ (by simp only [List.getElem?_toArray, List.getElem?_cons_succ, List.getElem?_cons_zero]; rfl) (by kernel_rfl) (by kernel_rfl) (by rfl) (fun W hW => ?_) ?_; rotate_left; · (go_simp; try with_reducible rfl)); simp only [Act.put, List.setIfInBounds_toArray, List.set_cons_zero, List.set_cons_succ]); ((refine WalkN.take 7 _ ?_ (by simp only [List.getElem?_toArray, List.getElem?_cons_succ, List.getElem?_cons_zero]; rfl) (by kernel_rfl) (by kernel_rfl) (by rfl) (fun W hW => ?_) ?_; rotate_left; · (go_simp; try with_reducible rfl)); simp only [Act.put, List.setIfInBounds_toArray, List.set_cons_zero, List.set_cons_succ])
        refine WalkN.one 8 (by kernel_rfl) ?_
        refine ⟨_, (by simp only [List.getElem?_toArray, List.getElem?_cons_succ, List.getElem?_cons_zero]; rfl), by rfl, fun K hK => ?_⟩
        go_simp
        refine (HOWa.out _).mono ?_
        rintro e w2 ⟨rfl, h2⟩
        have h3 := h2.symm
        subst h3
        clear h2
        refine hK.out _ _ (Ext.refl _) ?_
        clear hK HOWa
        ((refine WalkN.take 9 _ ?_ (by simp only [List.getElem?_toArray, List.getElem?_cons_succ, List.getElem?_cons_zero]; rfl) (by kernel_rfl) (by kernel_rfl) (by rfl) (fun W hW => ?_) ?_; rotate_left; · (go_simp; try with_reducible rfl)); simp only [Act.put, List.setIfInBounds_toArray, List.set_cons_zero, List.set_cons_succ])
        ((refine WalkN.take 10 _ ?_ (by simp only [List.getElem?_toArray, List.getElem?_cons_succ, List.getElem?_cons_zero]; rfl) (by kernel_rfl) (by kernel_rfl) (by rfl) (fun W hW => ?_) ?_; rotate_left; · (go_simp; try with_reducible rfl)); simp only [Act.put, List.setIfInBounds_toArray, List.set_cons_zero, List.set_cons_succ]); ((refine WalkN.take 11 _ ?_ (by simp only [List.getElem?_toArray, List.getElem?_cons_succ, List.getElem?_cons_zero]; rfl) (by kernel_rfl) (by kernel_rfl) (by rfl) (fun W hW => ?_) ?_; rotate_left; · (go_simp; try with_reducible rfl)); simp only [Act.put, List.setIfInBounds_toArray, List.set_cons_zero, List.set_cons_succ])
        refine WalkN.one 12 (by kernel_rfl) ?_
        refine ⟨_, (by simp only [List.getElem?_toArray, List.getElem?_cons_succ, List.getElem?_cons_zero]; rfl), by rfl, fun K hK => ?_⟩
        go_simp
        refine (HOWb.out _).mono ?_
        rintro e w2 ⟨rfl, h2⟩
        have h3 := h2.symm
        subst h3
        clear h2
        refine hK.out _ _ (Ext.refl _) ?_
        clear hK HOWb
        ((refine WalkN.take 13 _ ?_ (by simp only [List.getElem?_toArray, List.getElem?_cons_succ, List.getElem?_cons_zero]; rfl) (by kernel_rfl) (by kernel_rfl) (by rfl) (fun W hW => ?_) ?_; rotate_left; · (go_simp; try with_reducible rfl)); simp only [Act.put, List.setIfInBounds_toArray, List.set_cons_zero, List.set_cons_succ]); ((refine WalkN.take 14 _ ?_ (by simp only [List.getElem?_toArray, List.getElem?_cons_succ, List.getElem?_cons_zero]; rfl) (by kernel_rfl) (by kernel_rfl) (by rfl) (fun W hW => ?_) ?_; rotate_left; · (go_simp; try with_reducible rfl)); simp only [Act.put, List.setIfInBounds_toArray, List.set_cons_zero, List.set_cons_succ])
        ((refine WalkN.take 15 _ ?_ (by simp only [List.getElem?_toArray, List.getElem?_cons_succ, List.getElem?_cons_zero]; rfl) (by kernel_rfl) (by kernel_rfl) (by rfl) (fun W hW => ?_) ?_; rotate_left; · (go_simp; try with_reducible rfl)); simp only [Act.put, List.setIfInBounds_toArray, List.set_cons_zero, List.set_cons_succ]); ((refine WalkN.take 16 _ ?_ (by simp only [List.getElem?_toArray, List.getElem?_cons_succ, List.getElem?_cons_zero]; rfl) (by kernel_rfl) (by kernel_rfl) (by rfl) (fun W hW => ?_) ?_; rotate_left; · (go_simp; try with_reducible rfl)); simp only [Act.put, List.setIfInBounds_toArray, List.set_cons_zero, List.set_cons_succ]); ((refine WalkN.take 17 _ ?_ (by simp only [List.getElem?_toArray, List.getElem?_cons_succ, List.getElem?_cons_zero]; rfl) (by kernel_rfl) (by kernel_rfl) (by rfl) (fun W hW => ?_) ?_; rotate_left; · (go_simp; try with_reducible rfl)); simp only [Act.put, List.setIfInBounds_toArray, List.set_cons_zero, List.set_cons_succ]); ((refine WalkN.take 18 _ ?_ (by simp only [List.getElem?_toArray, List.getElem?_cons_succ, List.getElem?_cons_zero]; rfl) (by kernel_rfl) (by kernel_rfl) (by rfl) (fun W hW => ?_) ?_; rotate_left; · (go_simp; try with_reducible rfl)); simp only [Act.put, List.setIfInBounds_toArray, List.set_cons_zero, List.set_cons_succ])
        ((refine WalkN.take 19 _ ?_ (by simp only [List.getElem?_toArray, List.getElem?_cons_succ, List.getElem?_cons_zero]; rfl) (by kernel_rfl) (by kernel_rfl) (by rfl) (fun W hW => ?_) ?_; rotate_left; · (go_simp; try with_reducible rfl)); simp only [Act.put, List.setIfInBounds_toArray, List.set_cons_zero, List.set_cons_succ]); ((refine WalkN.take 20 _ ?_ (by simp only [List.getElem?_toArray, List.getElem?_cons_succ, List.getElem?_cons_zero]; rfl) (by kernel_rfl) (by kernel_rfl) (by rfl) (fun W hW => ?_) ?_; rotate_left; · (go_simp; try with_reducible rfl)); simp only [Act.put, List.setIfInBounds_toArray, List.set_cons_zero, List.set_cons_succ]); ((refine WalkN.take 21 _ ?_ (by simp only [List.getElem?_toArray, List.getElem?_cons_succ, List.getElem?_cons_zero]; rfl) (by kernel_rfl) (by kernel_rfl) (by rfl) (fun W hW => ?_) ?_; rotate_left; · (go_simp; try with_reducible rfl)); simp only [Act.put, List.setIfInBounds_toArray, List.set_cons_zero, List.set_cons_succ])
        refine WalkN.done (by kernel_rfl) ?_
        have HBD := Lib.hid hbd
        clear h1 hBd hbd
        go_wp2_with fail
        go_ret2
        exact ⟨_, by rw [HT.out]; rfl, rfl, HBD.out⟩
    | false =>
      simp only [hob] at HOWb
      have HT := Lib.hid (show (true && false && decide (ps.length = 0)) = false from by first | rfl | (simp; done) | (simp; rfl))
      go_enter Try.func76, Try.ntmps76
      go_wp2_with fail
      obtain ⟨wd, hwd⟩ : ∃ wd, wd = (w.alloc (.cells #[.int .i64 3, .string a, .string b, .slice ao ps.length c] 72)).drew := ⟨_, rfl⟩
      have hBd : Blk wd w.heap.size #[.int .i64 3, .string a, .string b, .slice ao ps.length c] 72 := by rw [hwd]; exact (Blk.made w #[.int .i64 3, .string a, .string b, .slice ao ps.length c] 72).drew
      have hbd : Below w.heap.size w wd := by rw [hwd]; exact ((Below.refl _ _).alloc (Nat.le_refl _) _).drew
      refine region_walkN (Ext wd) (by rw [← hwd]; exact Ext.refl _) (by kernel_rfl) (by kernel_rfl) (fun _ _ d _ _ h => by cases d <;> exact h) ?_
      rw [← hwd]
      clear hwd hbk
      have h1 : ∀ W, Ext wd W → ∀ i, W.cell? ⟨w.heap.size, i, none⟩ = (#[.int .i64 3, .string a, .string b, .slice ao ps.length c] : Array Value)[i]? := fun W h => (hBd.below h).cells
      ((refine WalkN.take 0 _ ?_ (by simp only [List.getElem?_toArray, List.getElem?_cons_zero]; rfl) (by kernel_rfl) (by kernel_rfl) (by rfl) (fun W hW => ?_) ?_; rotate_left; · (go_simp; try with_reducible rfl)); simp only [Act.put, List.setIfInBounds_toArray, List.set_cons_zero, List.set_cons_succ]); ((refine WalkN.take 1 _ ?_ (by simp only [List.getElem?_toArray, List.getElem?_cons_succ, List.getElem?_cons_zero]; rfl) (by kernel_rfl) (by kernel_rfl) (by rfl) (fun W hW => ?_) ?_; rotate_left; · (go_simp; try with_reducible rfl)); simp only [Act.put, List.setIfInBounds_toArray, List.set_cons_zero, List.set_cons_succ]); ((refine WalkN.take 2 _ ?_ (by simp only [List.getElem?_toArray, List.getElem?_cons_succ, List.getElem?_cons_zero]; rfl) (by kernel_rfl) (by kernel_rfl) (by rfl) (fun W hW => ?_) ?_; rotate_left; · (go_simp; try with_reducible rfl)); simp only [Act.put, List.setIfInBounds_toArray, List.set_cons_zero, List.set_cons_succ]); ((refine WalkN.take 3 _ ?_ (by simp only [List.getElem?_toArray, List.getElem?_cons_succ, List.getElem?_cons_zero]; rfl) (by kernel_rfl) (by kernel_rfl) (by rfl) (fun W hW => ?_) ?_; rotate_left; · (go_simp; try with_reducible rfl)); simp only [Act.put, List.setIfInBounds_toArray, List.set_cons_zero, List.set_cons_succ]); ((refine WalkN.take 4 _ ?_ (by simp only [List.getElem?_toArray, List.getElem?_cons_succ, List.getElem?_cons_zero]; rfl) (by kernel_rfl) (by kernel_rfl) (by rfl) (fun W hW => ?_) ?_; rotate_left; · (go_simp; try with_reducible rfl)); simp only [Act.put, List.setIfInBounds_toArray, List.set_cons_zero, List.set_cons_succ]); ((refine WalkN.take 5 _ ?_ (by simp only [List.getElem?_toArray, List.getElem?_cons_succ, List.getElem?_cons_zero]; rfl) (by kernel_rfl) (by kernel_rfl) (by rfl) (fun W hW => ?_) ?_; rotate_left; · (go_simp; try with_reducible rfl)); simp only [Act.put, List.setIfInBounds_toArray, List.set_cons_zero, List.set_cons_succ]); ((refine WalkN.take 6 _ ?_ (by simp only [List.getElem?_toArray, List.getElem?_cons_succ, List.getElem?_cons_zero]; rfl) (by kernel_rfl) (by kernel_rfl) (by rfl) (fun W hW => ?_) ?_; rotate_left; · (go_simp; try with_reducible rfl)); simp only [Act.put, List.setIfInBounds_toArray, List.set_cons_zero, List.set_cons_succ]); ((refine WalkN.take 7 _ ?_ (by simp only [List.getElem?_toArray, List.getElem?_cons_succ, List.getElem?_cons_zero]; rfl) (by kernel_rfl) (by kernel_rfl) (by rfl) (fun W hW => ?_) ?_; rotate_left; · (go_simp; try with_reducible rfl)); simp only [Act.put, List.setIfInBounds_toArray, List.set_cons_zero, List.set_cons_succ])
      refine WalkN.one 8 (by kernel_rfl) ?_
      refine ⟨_, (by simp only [List.getElem?_toArray, List.getElem?_cons_succ, List.getElem?_cons_zero]; rfl), by rfl, fun K hK => ?_⟩
      go_simp
      refine (HOWa.out _).mono ?_
      rintro e w2 ⟨rfl, h2⟩
      have h3 := h2.symm
      subst h3
      clear h2
      refine hK.out _ _ (Ext.refl _) ?_
      clear hK HOWa
      ((refine WalkN.take 9 _ ?_ (by simp only [List.getElem?_toArray, List.getElem?_cons_succ, List.getElem?_cons_zero]; rfl) (by kernel_rfl) (by kernel_rfl) (by rfl) (fun W hW => ?_) ?_; rotate_left; · (go_simp; try with_reducible rfl)); simp only [Act.put, List.setIfInBounds_toArray, List.set_cons_zero, List.set_cons_succ])
      ((refine WalkN.take 10 _ ?_ (by simp only [List.getElem?_toArray, List.getElem?_cons_succ, List.getElem?_cons_zero]; rfl) (by kernel_rfl) (by kernel_rfl) (by rfl) (fun W hW => ?_) ?_; rotate_left; · (go_simp; try with_reducible rfl)); simp only [Act.put, List.setIfInBounds_toArray, List.set_cons_zero, List.set_cons_succ]); ((refine WalkN.take 11 _ ?_ (by simp only [List.getElem?_toArray, List.getElem?_cons_succ, List.getElem?_cons_zero]; rfl) (by kernel_rfl) (by kernel_rfl) (by rfl) (fun W hW => ?_) ?_; rotate_left; · (go_simp; try with_reducible rfl)); simp only [Act.put, List.setIfInBounds_toArray, List.set_cons_zero, List.set_cons_succ])
      refine WalkN.one 12 (by kernel_rfl) ?_
      refine ⟨_, (by simp only [List.getElem?_toArray, List.getElem?_cons_succ, List.getElem?_cons_zero]; rfl), by rfl, fun K hK => ?_⟩
      go_simp
      refine (HOWb.out _).mono ?_
      rintro e w2 ⟨rfl, h2⟩
      have h3 := h2.symm
      subst h3
      clear h2
      refine hK.out _ _ (Ext.refl _) ?_
      clear hK HOWb
      ((refine WalkN.take 13 _ ?_ (by simp only [List.getElem?_toArray, List.getElem?_cons_succ, List.getElem?_cons_zero]; rfl) (by kernel_rfl) (by kernel_rfl) (by rfl) (fun W hW => ?_) ?_; rotate_left; · (go_simp; try with_reducible rfl)); simp only [Act.put, List.setIfInBounds_toArray, List.set_cons_zero, List.set_cons_succ]); ((refine WalkN.take 14 _ ?_ (by simp only [List.getElem?_toArray, List.getElem?_cons_succ, List.getElem?_cons_zero]; rfl) (by kernel_rfl) (by kernel_rfl) (by rfl) (fun W hW => ?_) ?_; rotate_left; · (go_simp; try with_reducible rfl)); simp only [Act.put, List.setIfInBounds_toArray, List.set_cons_zero, List.set_cons_succ])
      (refine WalkN.skip 15 _ (by simp only [List.getElem?_toArray, List.getElem?_cons_succ, List.getElem?_cons_zero]; rfl) (by kernel_rfl) (by kernel_rfl) (by rfl) ?_; simp only [Act.put, List.setIfInBounds_toArray, List.set_cons_zero, List.set_cons_succ]); (refine WalkN.skip 16 _ (by simp only [List.getElem?_toArray, List.getElem?_cons_succ, List.getElem?_cons_zero]; rfl) (by kernel_rfl) (by kernel_rfl) (by rfl) ?_; simp only [Act.put, List.setIfInBounds_toArray, List.set_cons_zero, List.set_cons_succ]); (refine WalkN.skip 17 _ (by simp only [List.getElem?_toArray, List.getElem?_cons_succ, List.getElem?_cons_zero]; rfl) (by kernel_rfl) (by kernel_rfl) (by rfl) ?_; simp only [Act.put, List.setIfInBounds_toArray, List.set_cons_zero, List.set_cons_succ]); (refine WalkN.skip 18 _ (by simp only [List.getElem?_toArray, List.getElem?_cons_succ, List.getElem?_cons_zero]; rfl) (by kernel_rfl) (by kernel_rfl) (by rfl) ?_; simp only [Act.put, List.setIfInBounds_toArray, List.set_cons_zero, List.set_cons_succ])
      ((refine WalkN.take 19 _ ?_ (by simp only [List.getElem?_toArray, List.getElem?_cons_succ, List.getElem?_cons_zero]; rfl) (by kernel_rfl) (by kernel_rfl) (by rfl) (fun W hW => ?_) ?_; rotate_left; · (go_simp; try with_reducible rfl)); simp only [Act.put, List.setIfInBounds_toArray, List.set_cons_zero, List.set_cons_succ]); ((refine WalkN.take 20 _ ?_ (by simp only [List.getElem?_toArray, List.getElem?_cons_succ, List.getElem?_cons_zero]; rfl) (by kernel_rfl) (by kernel_rfl) (by rfl) (fun W hW => ?_) ?_; rotate_left; · (go_simp; try with_reducible rfl)); simp only [Act.put, List.setIfInBounds_toArray, List.set_cons_zero, List.set_cons_succ]); ((refine WalkN.take 21 _ ?_ (by simp only [List.getElem?_toArray, List.getElem?_cons_succ, List.getElem?_cons_zero]; rfl) (by kernel_rfl) (by kernel_rfl) (by rfl) (fun W hW => ?_) ?_; rotate_left; · (go_simp; try with_reducible rfl)); simp only [Act.put, List.setIfInBounds_toArray, List.set_cons_zero, List.set_cons_succ])
      refine WalkN.done (by kernel_rfl) ?_
      have HBD := Lib.hid hbd
      clear h1 hBd hbd
      go_wp2_with fail
      go_ret2
      exact ⟨_, by rw [HT.out]; rfl, rfl, HBD.out⟩
  | false =>
    simp only [hoa] at HOWa
    have HT := Lib.hid (show (false && ownB b && decide (ps.length = 0)) = false from by first | rfl | (simp; done) | (simp; rfl))
    go_enter Try.func76, Try.ntmps76
    go_wp2_with fail
    obtain ⟨wd, hwd⟩ : ∃ wd, wd = (w.alloc (.cells #[.int .i64 3, .string a, .string b, .slice ao ps.length c] 72)).drew := ⟨_, rfl⟩
    have hBd : Blk wd w.heap.size #[.int .i64 3, .string a, .string b, .slice ao ps.length c] 72 := by rw [hwd]; exact (Blk.made w #[.int .i64 3, .string a, .string b, .slice ao ps.length c] 72).drew
    have hbd : Below w.heap.size w wd := by rw [hwd]; exact ((Below.refl _ _).alloc (Nat.le_refl _) _).drew
    refine region_walkN (Ext wd) (by rw [← hwd]; exact Ext.refl _) (by kernel_rfl) (by kernel_rfl) (fun _ _ d _ _ h => by cases d <;> exact h) ?_
    rw [← hwd]
    clear hwd hbk
    have h1 : ∀ W, Ext wd W → ∀ i, W.cell? ⟨w.heap.size, i, none⟩ = (#[.int .i64 3, .string a, .string b, .slice ao ps.length c] : Array Value)[i]? := fun W h => (hBd.below h).cells
    ((refine WalkN.take 0 _ ?_ (by simp only [List.getElem?_toArray, List.getElem?_cons_zero]; rfl) (by kernel_rfl) (by kernel_rfl) (by rfl) (fun W hW => ?_) ?_; rotate_left; · (go_simp; try with_reducible rfl)); simp only [Act.put, List.setIfInBounds_toArray, List.set_cons_zero, List.set_cons_succ]); ((refine WalkN.take 1 _ ?_ (by simp only [List.getElem?_toArray, List.getElem?_cons_succ, List.getElem?_cons_zero]; rfl) (by kernel_rfl) (by kernel_rfl) (by rfl) (fun W hW => ?_) ?_; rotate_left; · (go_simp; try with_reducible rfl)); simp only [Act.put, List.setIfInBounds_toArray, List.set_cons_zero, List.set_cons_succ]); ((refine WalkN.take 2 _ ?_ (by simp only [List.getElem?_toArray, List.getElem?_cons_succ, List.getElem?_cons_zero]; rfl) (by kernel_rfl) (by kernel_rfl) (by rfl) (fun W hW => ?_) ?_; rotate_left; · (go_simp; try with_reducible rfl)); simp only [Act.put, List.setIfInBounds_toArray, List.set_cons_zero, List.set_cons_succ]); ((refine WalkN.take 3 _ ?_ (by simp only [List.getElem?_toArray, List.getElem?_cons_succ, List.getElem?_cons_zero]; rfl) (by kernel_rfl) (by kernel_rfl) (by rfl) (fun W hW => ?_) ?_; rotate_left; · (go_simp; try with_reducible rfl)); simp only [Act.put, List.setIfInBounds_toArray, List.set_cons_zero, List.set_cons_succ]); ((refine WalkN.take 4 _ ?_ (by simp only [List.getElem?_toArray, List.getElem?_cons_succ, List.getElem?_cons_zero]; rfl) (by kernel_rfl) (by kernel_rfl) (by rfl) (fun W hW => ?_) ?_; rotate_left; · (go_simp; try with_reducible rfl)); simp only [Act.put, List.setIfInBounds_toArray, List.set_cons_zero, List.set_cons_succ]); ((refine WalkN.take 5 _ ?_ (by simp only [List.getElem?_toArray, List.getElem?_cons_succ, List.getElem?_cons_zero]; rfl) (by kernel_rfl) (by kernel_rfl) (by rfl) (fun W hW => ?_) ?_; rotate_left; · (go_simp; try with_reducible rfl)); simp only [Act.put, List.setIfInBounds_toArray, List.set_cons_zero, List.set_cons_succ]); ((refine WalkN.take 6 _ ?_ (by simp only [List.getElem?_toArray, List.getElem?_cons_succ, List.getElem?_cons_zero]; rfl) (by kernel_rfl) (by kernel_rfl) (by rfl) (fun W hW => ?_) ?_; rotate_left; · (go_simp; try with_reducible rfl)); simp only [Act.put, List.setIfInBounds_toArray, List.set_cons_zero, List.set_cons_succ]); ((refine WalkN.take 7 _ ?_ (by simp only [List.getElem?_toArray, List.getElem?_cons_succ, List.getElem?_cons_zero]; rfl) (by kernel_rfl) (by kernel_rfl) (by rfl) (fun W hW => ?_) ?_; rotate_left; · (go_simp; try with_reducible rfl)); simp only [Act.put, List.setIfInBounds_toArray, List.set_cons_zero, List.set_cons_succ])
    refine WalkN.one 8 (by kernel_rfl) ?_
    refine ⟨_, (by simp only [List.getElem?_toArray, List.getElem?_cons_succ, List.getElem?_cons_zero]; rfl), by rfl, fun K hK => ?_⟩
    go_simp
    refine (HOWa.out _).mono ?_
    rintro e w2 ⟨rfl, h2⟩
    have h3 := h2.symm
    subst h3
    clear h2
    refine hK.out _ _ (Ext.refl _) ?_
    clear hK HOWa
    ((refine WalkN.take 9 _ ?_ (by simp only [List.getElem?_toArray, List.getElem?_cons_succ, List.getElem?_cons_zero]; rfl) (by kernel_rfl) (by kernel_rfl) (by rfl) (fun W hW => ?_) ?_; rotate_left; · (go_simp; try with_reducible rfl)); simp only [Act.put, List.setIfInBounds_toArray, List.set_cons_zero, List.set_cons_succ])
    (refine WalkN.skip 10 _ (by simp only [List.getElem?_toArray, List.getElem?_cons_succ, List.getElem?_cons_zero]; rfl) (by kernel_rfl) (by kernel_rfl) (by rfl) ?_; simp only [Act.put, List.setIfInBounds_toArray, List.set_cons_zero, List.set_cons_succ]); (refine WalkN.skip 11 _ (by simp only [List.getElem?_toArray, List.getElem?_cons_succ, List.getElem?_cons_zero]; rfl) (by kernel_rfl) (by kernel_rfl) (by rfl) ?_; simp only [Act.put, List.setIfInBounds_toArray, List.set_cons_zero, List.set_cons_succ]); (refine WalkN.skip 12 _ (by simp only [List.getElem?_toArray, List.getElem?_cons_succ, List.getElem?_cons_zero]; rfl) (by kernel_rfl) (by kernel_rfl) (by rfl) ?_; simp only [Act.put, List.setIfInBounds_toArray, List.set_cons_zero, List.set_cons_succ])
    ((refine WalkN.take 13 _ ?_ (by simp only [List.getElem?_toArray, List.getElem?_cons_succ, List.getElem?_cons_zero]; rfl) (by kernel_rfl) (by kernel_rfl) (by rfl) (fun W hW => ?_) ?_; rotate_left; · (go_simp; try with_reducible rfl)); simp only [Act.put, List.setIfInBounds_toArray, List.set_cons_zero, List.set_cons_succ]); ((refine WalkN.take 14 _ ?_ (by simp only [List.getElem?_toArray, List.getElem?_cons_succ, List.getElem?_cons_zero]; rfl) (by kernel_rfl) (by kernel_rfl) (by rfl) (fun W hW => ?_) ?_; rotate_left; · (go_simp; try with_reducible rfl)); simp only [Act.put, List.setIfInBounds_toArray, List.set_cons_zero, List.set_cons_succ])
    (refine WalkN.skip 15 _ (by simp only [List.getElem?_toArray, List.getElem?_cons_succ, List.getElem?_cons_zero]; rfl) (by kernel_rfl) (by kernel_rfl) (by rfl) ?_; simp only [Act.put, List.setIfInBounds_toArray, List.set_cons_zero, List.set_cons_succ]); (refine WalkN.skip 16 _ (by simp only [List.getElem?_toArray, List.getElem?_cons_succ, List.getElem?_cons_zero]; rfl) (by kernel_rfl) (by kernel_rfl) (by rfl) ?_; simp only [Act.put, List.setIfInBounds_toArray, List.set_cons_zero, List.set_cons_succ]); (refine WalkN.skip 17 _ (by simp only [List.getElem?_toArray, List.getElem?_cons_succ, List.getElem?_cons_zero]; rfl) (by kernel_rfl) (by kernel_rfl) (by rfl) ?_; simp only [Act.put, List.setIfInBounds_toArray, List.set_cons_zero, List.set_cons_succ]); (refine WalkN.skip 18 _ (by simp only [List.getElem?_toArray, List.getElem?_cons_succ, List.getElem?_cons_zero]; rfl) (by kernel_rfl) (by kernel_rfl) (by rfl) ?_; simp only [Act.put, List.setIfInBounds_toArray, List.set_cons_zero, List.set_cons_succ])
    ((refine WalkN.take 19 _ ?_ (by simp only [List.getElem?_toArray, List.getElem?_cons_succ, List.getElem?_cons_zero]; rfl) (by kernel_rfl) (by kernel_rfl) (by rfl) (fun W hW => ?_) ?_; rotate_left; · (go_simp; try with_reducible rfl)); simp only [Act.put, List.setIfInBounds_toArray, List.set_cons_zero, List.set_cons_succ]); ((refine WalkN.take 20 _ ?_ (by simp only [List.getElem?_toArray, List.getElem?_cons_succ, List.getElem?_cons_zero]; rfl) (by kernel_rfl) (by kernel_rfl) (by rfl) (fun W hW => ?_) ?_; rotate_left; · (go_simp; try with_reducible rfl)); simp only [Act.put, List.setIfInBounds_toArray, List.set_cons_zero, List.set_cons_succ]); ((refine WalkN.take 21 _ ?_ (by simp only [List.getElem?_toArray, List.getElem?_cons_succ, List.getElem?_cons_zero]; rfl) (by kernel_rfl) (by kernel_rfl) (by rfl) (fun W hW => ?_) ?_; rotate_left; · (go_simp; try with_reducible rfl)); simp only [Act.put, List.setIfInBounds_toArray, List.set_cons_zero, List.set_cons_succ])
    refine WalkN.done (by kernel_rfl) ?_
    have HBD := Lib.hid hbd
    clear h1 hBd hbd
    go_wp2_with fail
    go_ret2
    exact ⟨_, by rw [HT.out]; rfl, rfl, HBD.out⟩

end Go.Proofs.Ytipddhcfcehcaaa
