/- Lemmas for the claim, no condition. -/
import Derived.Test.YtjdigpfipmckhaaGreatYReWalks0
import Derived.Test.YtjdigpfipmckhaaGreatYReWalks8
import Derived.Test.YtjdigpfipmckhaaGreatYReWalks11
namespace Go.Proofs.YtjdigpfipmckhaaGreat
open Go Go.RowKit Go.Maps
def M3 (b1 b2 b3 x : Nat) : Prop := x = b1 ∨ x = b2 ∨ x = b3
def tyL (ts : List TyS) : List (ByteArray × Bool) := ts.map fun t => (t.name, true)
theorem tyL_take {l : List TyS} {i : Nat} (hi : i < l.length) : tyL (l.take (i + 1)) = tyL (l.take i) ++ [(l[i].name, true)] := by
  rw [List.take_succ_eq_append_getElem hi]
  simp only [tyL, List.map_append, List.map_cons, List.map_nil]
theorem refsOf_le (ts : List TyS) (i : Nat) : (refsOf (ts.take i)).length ≤ (refsOf ts).length := by
  conv => rhs; rw [← List.take_append_drop i ts, refsOf_append, List.length_append]
  omega
theorem tyL_fresh {ts : List TyS} (h : uniqOk ts = true) {i : Nat} (hi : i < ts.length) : ∀ p ∈ tyL (ts.take i), p.1 ≠ ts[i].name := by
  intro p hp e
  obtain ⟨t, ht, rfl⟩ := List.mem_map.1 hp
  obtain ⟨m, hm, rfl⟩ := List.getElem_of_mem ht
  rw [List.length_take] at hm
  rw [List.getElem_take] at e
  exact (uniq_at h hi).1 m (by omega) hi (by omega) e
theorem ref_fresh {ts : List TyS} (h : uniqOk ts = true) {i : Nat} (hi : i < ts.length) : ∀ j (hj : j < ts[i].rels.length), lookA (refsOf (ts.take i) ++ relsOf ts[i].name (ts[i].rels.take j)) ⟨ts[i].name, ts[i].rels[j].1⟩ = none := by
  intro j hj
  refine look_none_iff.2 fun p hp e => ?_
  rcases List.mem_append.1 hp with hp | hp
  · obtain ⟨t, ht, hp⟩ := List.mem_flatMap.1 hp
    obtain ⟨r, hr, rfl⟩ := List.mem_map.1 hp
    obtain ⟨m, hm, rfl⟩ := List.getElem_of_mem ht
    rw [List.length_take] at hm
    injection e with e1 e2
    rw [List.getElem_take] at e1
    exact (uniq_at h hi).1 m (by omega) hi (by omega) e1
  · obtain ⟨r, hr, rfl⟩ := List.mem_map.1 hp
    injection e with e1 e2
    obtain ⟨m, hm, rfl⟩ := List.getElem_of_mem hr
    rw [List.length_take] at hm
    rw [List.getElem_take] at e2
    exact fresh_of (uniq_at h hi).2 j m (by omega) hj (by omega) e2
theorem Same.sub {S : Nat → Prop} {B : Nat} (hS : ∀ x, S x → x < B) {a b : World} (h : Below B a b) : Same S a b := fun x hx => h.block x (hS x hx)
structure BkO (S : Nat → Prop) (B : Nat) (w : World) (b1 b2 b3 : Nat) (ts : List TyS) : Prop where
  R : BkR S w b1 (refsOf ts)
  T : Mp Tryz.prog 9 Value.string bV w b2 (tyL ts)
  W : BkW w B b3 (refsOf ts)
  lo : B ≤ b1 ∧ B ≤ b2 ∧ B ≤ b3 ∧ b1 ≠ b2 ∧ b1 ≠ b3 ∧ b2 ≠ b3
set_option maxRecDepth 100000 in
set_option maxHeartbeats 8000000 in
theorem open_any {S : Nat → Prop} (ts : List TyS) (tv : Value) (w : World) (hS : ∀ x, S x → x < w.heap.size) (h : TysAt S w ts tv) (hok : ∀ t ∈ ts, t.Ok) (hu : uniqOk ts = true) (hsz : (refsOf ts).length ≤ 1099511627776) :
    Calls Tryz.prog 105 #[.agg #[tv]] w fun e w' => ∃ b1 b2 b3, e = .returned (.agg #[.map (some b1), .map (some b2), .map (some b3)]) ∧ BkO S w.heap.size w' b1 b2 b3 ts ∧ Below w.heap.size w w' := by
  obtain ⟨ao, c, rfl, hlc, hcm, hcell⟩ := h.rows
  have HC := Lib.hid hcell
  have HOK := Lib.hid hok
  have HU := Lib.hid hu
  have HSZ := Lib.hid hsz
  have hs0 := (Blk.made w #[.slice ao ts.length c] 24).cells
  have hmm := @run_makeMap Tryz.prog
  clear h hcell hok hu hsz
  go_enter Tryz.func105, Tryz.ntmps105
  go_wp2_with fail
  obtain ⟨w1, hw1⟩ : ∃ x, x = w.alloc (.cells #[.slice ao ts.length c] 24) := ⟨_, rfl⟩
  rw [← hw1]
  obtain ⟨w2, hw2⟩ : ∃ x, x = w1.alloc (.cells #[.map none, .map none, .map none] 184) := ⟨_, rfl⟩
  rw [← hw2]
  obtain ⟨w3, hw3⟩ : ∃ x, x = w2.alloc (.map #[] 0) := ⟨_, rfl⟩
  rw [← hw3]
  obtain ⟨w4, hw4⟩ : ∃ x, x = w3.alloc (.map #[] 0) := ⟨_, rfl⟩
  rw [← hw4]
  obtain ⟨w5, hw5⟩ : ∃ x, x = w4.alloc (.map #[] 0) := ⟨_, rfl⟩
  rw [← hw5]
  obtain ⟨bc, hbc⟩ : ∃ x, x = w.heap.size + 1 + 1 + 1 + 1 + 1 := ⟨_, rfl⟩
  obtain ⟨b3, hb3⟩ : ∃ x, x = w.heap.size + 1 + 1 + 1 + 1 := ⟨_, rfl⟩
  obtain ⟨b2, hb2⟩ : ∃ x, x = w.heap.size + 1 + 1 + 1 := ⟨_, rfl⟩
  obtain ⟨b1, hb1⟩ : ∃ x, x = w.heap.size + 1 + 1 := ⟨_, rfl⟩
  obtain ⟨rc, hrc⟩ : ∃ x, x = w.heap.size + 1 := ⟨_, rfl⟩
  rw [← hbc, ← hb3, ← hb2, ← hb1, ← hrc]
  obtain ⟨w6, hw6⟩ : ∃ x, x = w5.alloc (.cells #[.map (some b1), .map (some b2), .map (some b3)] 184) := ⟨_, rfl⟩
  rw [← hw6]
  have e1 : w1.heap.size = w.heap.size + 1 := by rw [hw1]; simp
  have e2 : w2.heap.size = w.heap.size + 1 + 1 := by rw [hw2]; simp [e1]
  have e3 : w3.heap.size = w.heap.size + 1 + 1 + 1 := by rw [hw3]; simp [e2]
  have e4 : w4.heap.size = w.heap.size + 1 + 1 + 1 + 1 := by rw [hw4]; simp [e3]
  have e5 : w5.heap.size = w.heap.size + 1 + 1 + 1 + 1 + 1 := by rw [hw5]; simp [e4]
  have x01 : Ext w w1 := by rw [hw1]; exact Ext.alloc _ _
  have x12 : Ext w1 w2 := by rw [hw2]; exact Ext.alloc _ _
  have x23 : Ext w2 w3 := by rw [hw3]; exact Ext.alloc _ _
  have x34 : Ext w3 w4 := by rw [hw4]; exact Ext.alloc _ _
  have x45 : Ext w4 w5 := by rw [hw5]; exact Ext.alloc _ _
  have x56 : Ext w5 w6 := by rw [hw6]; exact Ext.alloc _ _
  have hRC : Blk w2 rc #[.map none, .map none, .map none] 184 := by rw [hrc, hw2, ← e1]; exact Blk.made _ _ _
  have hM1 : Mp Tryz.prog 102 r2V rvV w3 b1 [] := by rw [hb1, hw3, ← e2]; exact Mp.made _
  have hM2 : Mp Tryz.prog 9 Value.string bV w4 b2 [] := by rw [hb2, hw4, ← e3]; exact Mp.made _
  have hM3 : Mp Tryz.prog 9 Value.string wvV w5 b3 [] := by rw [hb3, hw5, ← e4]; exact Mp.made _
  have hBC : Blk w6 bc #[.map (some b1), .map (some b2), .map (some b3)] 184 := by rw [hbc, hw6, ← e5]; exact Blk.made _ _ _
  have HLO := Lib.hid (show w.heap.size ≤ rc from by omega)
  have HD := Lib.hid (show w.heap.size ≤ b1 ∧ w.heap.size ≤ b2 ∧ w.heap.size ≤ b3 ∧ b1 ≠ b2 ∧ b1 ≠ b3 ∧ b2 ≠ b3 ∧ ¬ M3 b1 b2 b3 rc ∧ ¬ M3 b1 b2 b3 bc ∧ rc ≠ bc from by unfold M3; omega)
  have HRC := Lib.hid (hRC.below (x23.trans (x34.trans (x45.trans x56))))
  have HBC := Lib.hid hBC
  have HR := Lib.hid (show BkR S w6 b1 [] from ⟨[], hM1.below (x34.trans (x45.trans x56)), rfl, by simp⟩)
  have HM := Lib.hid (hM2.below (x45.trans x56))
  have HW := Lib.hid (show BkW w6 w.heap.size b3 [] from ⟨[], hM3.below x56, ⟨by simp, by simp⟩, fun n => rfl⟩)
  have HX := Lib.hid (show Below w.heap.size w w6 from x01.trans (x12.trans (x23.trans (x34.trans (x45.trans x56)))))
  clear hRC hM1 hM2 hM3 hBC x01 x12 x23 x34 x45 x56 e1 e2 e3 e4 e5 hw1 hw2 hw3 hw4 hw5 hw6 hbc hb1 hb2 hb3 hrc hs0
  go_loopw [18] (fun ii wr => ∃ i : Nat, i ≤ ts.length ∧ ii = .int .i64 i ∧ BkR S wr b1 (refsOf (ts.take i)) ∧ Mp Tryz.prog 9 Value.string bV wr b2 (tyL (ts.take i)) ∧ BkW wr w.heap.size b3 (refsOf (ts.take i)) ∧ QKept 9 (M3 b1 b2 b3) w.heap.size w6 wr) (fun ii _ => ts.length - (intOf ii).toNat)
  case atStart => exact ⟨0, by omega, rfl, HR.out, HM.out, HW.out, Kept.refl _ _⟩
  case round =>
    obtain ⟨i, hi, rfl, hr, hm, hw, hq⟩ := hrel
    have HR1 := Lib.hid hr
    have HM1 := Lib.hid hm
    have HW1 := Lib.hid hw
    have HQ1 := Lib.hid hq
    clear HR HM HW hr hm hw
    by_cases hlt : i < ts.length
    · have hbel : Below w.heap.size w wr := HX.out.trans hq.below
      obtain ⟨bb, off, rsv, hbo, hb, c0, c1, hat2⟩ := HC.out i hlt
      cases hbo
      have d0 := (hbel.cell (p := ⟨bb, off + i * 2, none⟩) (hS _ hb)).trans c0
      have d1 := (hbel.cell (p := ⟨bb, off + i * 2 + 1, none⟩) (hS _ hb)).trans c1
      have HUN := Lib.hid (uniq_at HU.out hlt)
      have hokt := HOK.out _ (List.getElem_mem hlt)
      have HP1 := Lib.hid (refsOf_take hlt)
      have HT1 := Lib.hid (tyL_take hlt)
      have HNF := Lib.hid (ref_fresh HU.out hlt)
      have HLE := Lib.hid (refsOf_le ts (i + 1))
      have HI1 := Lib.hid hlt
      have HTF := Lib.hid (tyL_fresh HU.out hlt)
      generalize ts[i] = t at *
      obtain ⟨tn, rels⟩ := t
      dsimp only at *
      obtain ⟨hon, hor⟩ := hokt
      dsimp only at hon hor
      have HKT := Lib.hid (show tn.size ≤ maxLen from by unfold maxLen; omega)
      have HOR := Lib.hid hor
      obtain ⟨ao2, c2', rfl, hlc3, hcm3, hcell3⟩ := hat2.rows
      have HC3 := Lib.hid hcell3
      obtain ⟨rsv, hrsv⟩ : ∃ v, v = Value.slice ao2 rels.length c2' := ⟨_, rfl⟩
      have hea : Ext wr (wr.alloc (.cells #[.string tn, .slice ao2 rels.length c2'] 95)) := Ext.alloc _ _
      have HTB := Lib.hid (Blk.made wr #[.string tn, .slice ao2 rels.length c2'] 95)
      have hta := HTB.out.cells
      have HBCA := Lib.hid ((HQ1.out.box HBC.out (by decide) HD.out.2.2.2.2.2.2.2.1).below hea)
      have hbca := HBCA.out.cells
      have HSA := Lib.hid (show w.heap.size ≤ (wr.alloc (.cells #[.string tn, .slice ao2 rels.length c2'] 95)).heap.size from Nat.le_trans hbel.size hea.size)
      have HQA := Lib.hid (QKept.next hq (QKept.of (e := 9) (M := M3 b1 b2 b3) hea hbel.size))
      have HNT := Lib.hid (show ¬ M3 b1 b2 b3 wr.heap.size from fun h => by
        have h1 := HR1.out.lt
        have h2 := HM1.out.lt
        have h3 := HW1.out.lt
        rcases h with h | h | h <;> omega)
      have HRA := Lib.hid (HR1.out.same (hea.block _ HR1.out.lt) (Same.sub hS (hea.mono hbel.size)))
      have HWA := Lib.hid (HW1.out.up hea)
      have hMA := HM1.out.below hea
      have hlk := hMA.look strK strV_inj Tryz.underlying181 (Tryz.zeroValue4 _) false (str_key tn HKT.out)
      rw [look_none_iff.2 HTF.out] at hlk
      obtain ⟨wT, hst, hMT, hTT⟩ := hMA.store strK strV_inj Tryz.underlying181 (str_key tn HKT.out) true
      rw [put_miss HTF.out] at hMT
      unfold lookV at hlk
      unfold bV at hlk hst
      have HQT := Lib.hid (QKept.next HQA.out (QKept.turned hTT (.inr (.inl rfl)) HD.out.2.1))
      have HTBT := Lib.hid (hTT.kept.blk HTB.out (fun e => HNT.out (.inr (.inl e))))
      have htt := HTBT.out.cells
      have HBCT := Lib.hid (hTT.kept.blk HBCA.out (fun e => HD.out.2.2.2.2.2.2.2.1 (.inr (.inl e))))
      have HRT := Lib.hid (HRA.out.same (hTT.kept.block _ HD.out.2.2.2.1) (Same.sub hS (hTT.below HD.out.2.1)))
      have HWT := Lib.hid (HWA.out.turned hTT (fun e => HD.out.2.2.2.2.2.1 e.symm) hMA.notCells)
      have HMT := Lib.hid hMT
      clear hMT hTT hMA c0 c1 hat2 hcell3 hbel hq hor hon
      go_wp2_with fail
      clear hlk hst hta hbca d0 d1 htt hlt hea
      generalize wr.heap.size = tb at *
      go_loopw [34] (fun jj wr => ∃ j : Nat, j ≤ rels.length ∧ jj = .int .i64 j ∧ BkR S wr b1 (refsOf (ts.take i) ++ relsOf tn (rels.take j)) ∧ Mp Tryz.prog 9 Value.string bV wr b2 (tyL (ts.take i) ++ [(tn, true)]) ∧ BkW wr w.heap.size b3 (refsOf (ts.take i) ++ relsOf tn (rels.take j)) ∧ QKept 9 (M3 b1 b2 b3) w.heap.size wT wr) (fun jj _ => rels.length - (intOf jj).toNat)
      case atStart => exact ⟨0, by omega, rfl, by rw [List.take_zero]; simpa [relsOf] using HRT.out, HMT.out, by rw [List.take_zero]; simpa [relsOf] using HWT.out, Kept.refl _ _⟩
      case round =>
        obtain ⟨j, hj, rfl, hr, hm, hw, hqj⟩ := hrel
        have HR2 := Lib.hid hr
        have HM2 := Lib.hid hm
        have HW2 := Lib.hid hw
        have HQ2 := Lib.hid hqj
        clear HRT HMT HWT hr hm hw
        by_cases hlt : j < rels.length
        · have hbel : Below w.heap.size w wr := HX.out.trans (HQT.out.below.trans hqj.below)
          obtain ⟨bb, off, pv, hbo, hb, c0, c1, c2, c3, c4, hat2⟩ := HC3.out j hlt
          cases hbo
          have d0 := (hbel.cell (p := ⟨bb, off + j * 5, none⟩) (hS _ hb)).trans c0
          have d1 := (hbel.cell (p := ⟨bb, off + j * 5 + 1, none⟩) (hS _ hb)).trans c1
          have d2 := (hbel.cell (p := ⟨bb, off + j * 5 + 2, none⟩) (hS _ hb)).trans c2
          have d3 := (hbel.cell (p := ⟨bb, off + j * 5 + 3, none⟩) (hS _ hb)).trans c3
          have d4 := (hbel.cell (p := ⟨bb, off + j * 5 + 4, none⟩) (hS _ hb)).trans c4
          obtain ⟨ao3, c3', rfl, -⟩ := hat2.rows
          have hokr := HOR.out _ (List.getElem_mem hlt)
          have HPJ := Lib.hid (relsOf_take (n := tn) hlt)
          have HNJ := Lib.hid (HNF.out j hlt)
          have HJ1 := Lib.hid hlt
          have HWL0 := Lib.hid (show (refsOf (ts.take i) ++ relsOf tn (rels.take j)).length ≤ 1099511627776 from by
            have h1 := HLE.out
            have h2 := HSZ.out
            rw [HP1.out, List.length_append] at h1
            have h3 : (relsOf tn (rels.take j)).length ≤ (relsOf tn rels).length := by simp only [relsOf, List.length_map, List.length_take]; omega
            rw [List.length_append]
            omega)
          generalize rels[j] = x at *
          obtain ⟨xn, p⟩ := x
          dsimp only at *
          have HKX := Lib.hid (show xn.size ≤ maxLen from by have := hokr.1; unfold maxLen; omega)
          have HWL := Lib.hid (show (whereP (refsOf (ts.take i) ++ relsOf tn (rels.take j)) xn).length ≤ 1099511627776 from by
            have := HWL0.out
            unfold whereP
            rw [List.length_map]
            exact Nat.le_trans (List.length_filter_le _ _) this)
          have HAT := Lib.hid (hat2.same (Same.sub hS hbel))
          clear c0 c1 c2 c3 c4 hat2 hokr hb
          obtain ⟨wa, hwa⟩ : ∃ x, x = wr.alloc (.cells #[.string xn, .int .i64 p.k, .string p.a, .string p.b, .slice ao3 p.ps.length c3'] 100) := ⟨_, rfl⟩
          obtain ⟨wb, hwb⟩ : ∃ x, x = wa.alloc (.cells #[.string tn, .string xn] 102) := ⟨_, rfl⟩
          obtain ⟨wc, hwc⟩ : ∃ x, x = wb.alloc (.cells #[.int .i64 0, .string ByteArray.empty, .string ByteArray.empty, .slice none 0 0] 98) := ⟨_, rfl⟩
          have xra : Ext wr wa := by rw [hwa]; exact Ext.alloc _ _
          have xab : Ext wa wb := by rw [hwb]; exact Ext.alloc _ _
          have xbc : Ext wb wc := by rw [hwc]; exact Ext.alloc _ _
          have ea : wa.heap.size = wr.heap.size + 1 := by rw [hwa]; simp
          have HRB0 := Lib.hid (show Blk wa wr.heap.size #[.string xn, .int .i64 p.k, .string p.a, .string p.b, .slice ao3 p.ps.length c3'] 100 from by rw [hwa]; exact Blk.made _ _ _)
          have HFB0 := Lib.hid (show Blk wb (wr.heap.size + 1) #[.string tn, .string xn] 102 from by rw [hwb, ← ea]; exact Blk.made _ _ _)
          have HTBR := Lib.hid (HQ2.out.box HTBT.out (by decide) HNT.out)
          have HBCR := Lib.hid (HQ2.out.box HBCT.out (by decide) HD.out.2.2.2.2.2.2.2.1)
          have t1 := (HTBR.out.below xra).cells
          have t2 := (HTBR.out.below (xra.trans xab)).cells
          have k2 := (HBCR.out.below (xra.trans xab)).cells
          have k3 := (HBCR.out.below (xra.trans (xab.trans xbc))).cells
          have r1 := HRB0.out.cells
          have r2 := (HRB0.out.below xab).cells
          have r3 := (HRB0.out.below (xab.trans xbc)).cells
          have f2 := HFB0.out.cells
          have f3 := (HFB0.out.below xbc).cells
          have hRb := HR2.out.same ((xra.trans xab).block _ HR2.out.lt) (Same.sub hS ((xra.trans xab).mono hbel.size))
          obtain ⟨z, hlk, -, -, hz⟩ := hRb.look ⟨tn, xn⟩ ⟨HKT.out, HKX.out⟩
          rw [HNJ.out] at hlk
          rw [hz HNJ.out] at hlk
          unfold rvV rV r2V at hlk
          dsimp only [RT.k, RT.a, RT.b, Option.isSome] at hlk
          have hRc := HR2.out.same ((xra.trans (xab.trans xbc)).block _ HR2.out.lt) (Same.sub hS ((xra.trans (xab.trans xbc)).mono hbel.size))
          obtain ⟨w4, hst, hR4, hT4⟩ := hRc.store (k := ⟨tn, xn⟩) ⟨HKT.out, HKX.out⟩ (HAT.out.same (Same.sub hS ((xra.trans (xab.trans xbc)).mono hbel.size))) (fun x hx e => by have := HD.out.1; have := hS x hx; omega) HNJ.out
          unfold rV r2V at hst
          dsimp only at hst
          have hsc : w.heap.size ≤ wc.heap.size := Nat.le_trans hbel.size (xra.trans (xab.trans xbc)).size
          have HS4 := Lib.hid (show w.heap.size ≤ w4.heap.size from by rw [hT4.size]; exact hsc)
          have HQ4 := Lib.hid (QKept.next HQ2.out (QKept.next (QKept.of (e := 9) (M := M3 b1 b2 b3) (xra.trans (xab.trans xbc)) hbel.size) (QKept.turned hT4 (.inl rfl) HD.out.1)))
          have HNR := Lib.hid (show ¬ M3 b1 b2 b3 wr.heap.size from fun h => by
            have h1 := HR2.out.lt
            have h2 := HM2.out.lt
            have h3 := HW2.out.lt
            rcases h with h | h | h <;> omega)
          have HBC4 := Lib.hid (HQ4.out.box HBCT.out (by decide) HD.out.2.2.2.2.2.2.2.1)
          have HTB4 := Lib.hid (HQ4.out.box HTBT.out (by decide) HNT.out)
          have HRB4 := Lib.hid (hT4.kept.blk (HRB0.out.below (xab.trans xbc)) (fun e => HNR.out (.inl e)))
          have HBW4 := Lib.hid ((HW2.out.up (xra.trans (xab.trans xbc))).turned hT4 (fun e => HD.out.2.2.2.2.1 e.symm) hRc.notCells)
          have HR4 := Lib.hid hR4
          have HM4 := Lib.hid ((HM2.out.below (xra.trans (xab.trans xbc))).kept hT4.kept (fun e => HD.out.2.2.2.1 e.symm))
          have t4 := HTB4.out.cells
          have r4 := HRB4.out.cells
          have k4 := HBC4.out.cells
          clear hRb hRc hR4 hT4 hsc hz hqj HAT ea xra xab xbc
          subst hwc hwb hwa
          go_wp2_with fail
          clear t1 t2 k2 k3 r1 r2 r3 f2 f3 hlk hst d0 d1 d2 d3 d4
          generalize wr.heap.size = rb at *
          obtain ⟨wd, hwd⟩ : ∃ wd, wd = w4.drew := ⟨_, rfl⟩
          have hbcd : Blk wd bc #[.map (some b1), .map (some b2), .map (some b3)] 184 := by rw [hwd]; exact HBC4.out.drew
          have htbd := (show Blk w4.drew tb _ _ from HTB4.out.drew)
          rw [← hwd] at htbd
          have hrbd : Blk wd rb #[.string xn, .int .i64 p.k, .string p.a, .string p.b, .slice ao3 p.ps.length c3'] 100 := by rw [hwd]; exact HRB4.out.drew
          have hbwd := HBW4.out.up (show Below w4.heap.size w4 wd from by rw [hwd]; exact (Below.refl _ _).drew)
          have hq4d : QKept 9 (· = b3) w.heap.size w4 wd := by rw [hwd]; exact (Kept.refl _ _).drew
          have hszd : w.heap.size ≤ wd.heap.size := by rw [hwd]; exact HS4.out
          obtain ⟨v, -, hov, lw, hM, hR, hL, hl⟩ := hbwd.look xn HKX.out
          have hnb3 : ∀ g, v.ownBlock = some g → g ≠ b3 := hov.notMap hM.notCells
          have hnbc : ∀ g, v.ownBlock = some g → g ≠ bc := hov.notBlk hbcd (by decide)
          have hntb : ∀ g, v.ownBlock = some g → g ≠ tb := hov.notBlk htbd (by decide)
          have hnrb : ∀ g, v.ownBlock = some g → g ≠ rb := hov.notBlk hrbd (by decide)
          refine region_walkL 13 (Kept (fun x => x < wd.heap.size ∧ v.ownBlock ≠ some x) wd) (by rw [← hwd]; exact Kept.refl _ _) (by kernel_rfl) (by kernel_rfl) (fun _ _ d _ _ h => by cases d <;> exact h) ?_
          rw [← hwd]
          clear hwd
          have h1 : ∀ W, Kept (fun x => x < wd.heap.size ∧ v.ownBlock ≠ some x) wd W → ∀ i, W.cell? ⟨bc, i, none⟩ = (#[.map (some b1), .map (some b2), .map (some b3)] : Array Value)[i]? := fun W h => (h.blk hbcd ⟨hbcd.lt, fun e => hnbc _ e rfl⟩).cells
          have h2 : ∀ W, Kept (fun x => x < wd.heap.size ∧ v.ownBlock ≠ some x) wd W → W.cell? ⟨tb, 0, none⟩ = some (.string tn) := fun W h => (h.blk htbd ⟨htbd.lt, fun e => hntb _ e rfl⟩).cells 0
          have h3 : ∀ W, Kept (fun x => x < wd.heap.size ∧ v.ownBlock ≠ some x) wd W → ∀ i, W.cell? ⟨rb, i, none⟩ = (#[.string xn, .int .i64 p.k, .string p.a, .string p.b, .slice ao3 p.ps.length c3'] : Array Value)[i]? := fun W h => (h.blk hrbd ⟨hrbd.lt, fun e => hnrb _ e rfl⟩).cells
          have h4 : ∀ W, Kept (fun x => x < wd.heap.size ∧ v.ownBlock ≠ some x) wd W → (Instr.lookup 182 (.map (some b3)) (.string xn) false).run Tryz.prog W = .ok v W := fun W h => by
            have := (hM.same (h.block b3 ⟨hM.lt, fun e => hnb3 _ e rfl⟩)).look strK strV_inj Tryz.underlying182 (Tryz.zeroValue108 W) false (str_key xn HKX.out)
            rw [this]
            rcases hl with hl | ⟨hl, _, rfl⟩ <;> rw [hl] <;> rfl
          (refine WalkL.tk [0, 1, 2, 3, 4, 5, 6, 7, 8, 9, 10] ?_; (iterate 11 ((refine TkL.c _ ?_ (by simp only [gtA, gtS, gtZ]; rfl) (by kernel_rfl) (by kernel_rfl) (by kernel_rfl) (by rfl) (fun W hW => ?_) ?_; rotate_left; · (go_simp; try with_reducible rfl)); simp only [Act.put, puA, puZ, puS])); refine TkL.n ?_)
          clear h1 h2 h3 h4
          refine WalkL.one 11 (by kernel_rfl) ?_
          refine ⟨_, (by simp only [gtA, gtS, gtZ]; rfl), by rfl, fun K hK => ?_⟩
          go_simp
          have hE1 : Below wd.heap.size wd (wd.alloc (.cells #[.string tn] 9)) := (Below.refl _ _).alloc (Nat.le_refl _) _
          refine hK.out _ _ ((Kept.refl _ _).alloc (fun x hx => hx.1) _) ?_
          clear hK
          refine WalkL.one 12 (by kernel_rfl) ?_
          refine ⟨_, (by simp only [gtA, gtS, gtZ]; rfl), by rfl, fun K hK => ?_⟩
          have hlen : (whereP (refsOf (ts.take i) ++ relsOf tn (rels.take j)) xn).length ≤ 1099511627776 := by have := HWL.out; exact this
          refine wp_ownw textsT (.tmp 65) (.tmp 68) rfl rfl (hov.below hE1) (m := 1) (news := txs [tn]) rfl rfl (fun j u hu => ?_) (txs_one _) (by rw [txs_length, txs_length]; simp only [List.length_cons, List.length_nil]; omega) (by rw [txs_length, txs_length]; simp only [List.length_cons, List.length_nil]; omega) (by simp; omega) (fun v2 w2 hown2 hw2 hg2 => ?_)
          · rw [Addr.add_lit, cell_of_row _ wd.heap.size (0 + j) #[.string tn] 9 (0, 0) (heap_alloc_new wd _), Nat.zero_add]
            simpa [txs] using hu
          have hkg : Kept (fun x => x < wd.heap.size ∧ v.ownBlock ≠ some x) wd w2 := ⟨hg2.os.trans rfl, hg2.tape.trans rfl, hg2.output.trans rfl, Nat.le_trans (by simp) hg2.size, fun x hx => (hg2.block x (by have := hx.1; simp; omega) (fun e => hx.2 e.symm)).trans (Below.heap_alloc wd _ x hx.1)⟩
          have hqg : QKept 9 (· = b3) w.heap.size w4 w2 := QKept.next hq4d (QKept.next (QKept.of hE1 hszd) (QKept.grown (hov.below hE1) hg2 (by simp; omega)))
          refine hK.out _ _ hkg ?_
          clear hK
          simp only [Act.put, puA, puZ, puS]
          rw [← txs_append] at hown2
          obtain ⟨w7, hrun, hbw7, ht7⟩ := BkW.put (k := ⟨tn, xn⟩) (r := p) hM hR hL hl hE1 hg2 hov hown2 hw2 HKX.out
          refine WalkL.last (by kernel_rfl) (by kernel_rfl) ?_
          refine ⟨_, (by simp only [gtA, gtS, gtZ]; rfl), by rfl, fun K hK => ?_⟩
          go_simp
          refine hK.out _ _ ?_
          clear hK
          have HW7 := Lib.hid hbw7
          have HQ47 := Lib.hid (QKept.next hqg (QKept.turned ht7 rfl HD.out.2.2.1))
          clear hrun hbw7 ht7 hqg hkg hown2 hw2 hg2 hE1 hlen hM hR hL hl hov hnb3 hnbc hntb hnrb hbcd htbd hrbd hbwd hq4d hszd
          have HRW := Lib.hid (show BkR S w7 b1 (refsOf (ts.take i) ++ relsOf tn (rels.take (j + 1))) from by
            rw [HPJ.out, ← List.append_assoc]
            exact HR4.out.same (HQ47.out.block b1 (.inr ⟨HD.out.2.2.2.2.1, HR4.out.lt, fun cs => HR4.out.notCells cs _ _⟩)) (Same.sub hS HQ47.out.below))
          have HMW := Lib.hid (HM4.out.same (HQ47.out.block b2 (.inr ⟨HD.out.2.2.2.2.2.1, HM4.out.lt, fun cs => HM4.out.notCells cs _ _⟩)))
          have HWW := Lib.hid (show BkW w7 w.heap.size b3 (refsOf (ts.take i) ++ relsOf tn (rels.take (j + 1))) from by
            rw [HPJ.out, ← List.append_assoc]
            exact HW7.out)
          have HQW := Lib.hid (QKept.next HQ4.out (HQ47.out.mono fun x hx => by
            rcases hx with hx | ⟨h1, h2⟩
            · exact .inl hx
            · exact .inr ⟨fun e => h1 (.inr (.inr e)), h2⟩))
          have hlt2 := HJ1.out
          clear t4 r4 k4
          go_wp2_with fail
          go_roundw
          case rel => exact ⟨j + 1, by omega, by go_num, HRW.out, HMW.out, HWW.out, HQW.out⟩
          case measure => simp [intOf]; omega
        · obtain rfl : j = rels.length := by omega
          have HRW := Lib.hid (show BkR S wr b1 (refsOf (ts.take (i + 1))) from by have := HR2.out; rw [List.take_length] at this; rw [HP1.out]; exact this)
          have HMW := Lib.hid (show Mp Tryz.prog 9 Value.string bV wr b2 (tyL (ts.take (i + 1))) from by rw [HT1.out]; exact HM2.out)
          have HWW := Lib.hid (show BkW wr w.heap.size b3 (refsOf (ts.take (i + 1))) from by have := HW2.out; rw [List.take_length] at this; rw [HP1.out]; exact this)
          have HQW := Lib.hid (QKept.next HQT.out HQ2.out)
          have hlt2 := HI1.out
          clear hqj
          go_wp2_with fail
          go_roundw
          case rel => exact ⟨i + 1, by omega, by go_num, HRW.out, HMW.out, HWW.out, HQW.out⟩
          case measure => simp [intOf]; omega
    · obtain rfl : i = ts.length := by omega
      rw [List.take_length] at HR1 HM1 HW1
      have HRC1 := Lib.hid (HQ1.out.box HRC.out (by decide) HD.out.2.2.2.2.2.2.1)
      have HBC1 := Lib.hid (HQ1.out.box HBC.out (by decide) HD.out.2.2.2.2.2.2.2.1)
      have hlo := HX.out.trans HQ1.out.below
      have hrcw : w.heap.size ≤ rc := HLO.out
      have hs1 := HRC1.out.set_to 0 (.map (some b1)) rfl
      have hs2 := hs1.set_to 1 (.map (some b2)) rfl
      have hs3 := hs2.set_to 2 (.map (some b3)) rfl
      have c1 := HBC1.out.cells
      have c2 := HRC1.out.cells
      have f2 := HRC1.out.free
      have HS3 := Lib.hid hs3
      have hne : ∀ x, x ≠ rc → (((wr.setCell ⟨rc, 0, none⟩ (.map (some b1))).setCell ⟨rc, 1, none⟩ (.map (some b2))).setCell ⟨rc, 2, none⟩ (.map (some b3))).heap[x]? = wr.heap[x]? := fun x hx => by
        rw [Below.heap_setCell _ _ _ x hx, Below.heap_setCell _ _ _ x hx, Below.heap_setCell _ _ _ x hx]
      have HNE := Lib.hid hne
      have HBE := Lib.hid (show Below w.heap.size w (((wr.setCell ⟨rc, 0, none⟩ (.map (some b1))).setCell ⟨rc, 1, none⟩ (.map (some b2))).setCell ⟨rc, 2, none⟩ (.map (some b3))) from ((hlo.setCell hrcw _).setCell hrcw _).setCell hrcw _)
      clear hs1 hs2 hs3 hlo hne hq
      go_wp2_with fail
      refine bodyPost_ret (results_cell_row rfl _ _ rc 184 #[.map (some b1), .map (some b2), .map (some b3)] (0, 0) _ rfl HS3.out Tryz.underlying184 rfl (by kernel_rfl)) rfl ⟨b1, b2, b3, rfl, ⟨HR1.out.same (HNE.out _ fun e => HD.out.2.2.2.2.2.2.1 (.inl e.symm)) (fun x hx => HNE.out x (by have := hS x hx; omega)), HM1.out.same (HNE.out _ fun e => HD.out.2.2.2.2.2.2.1 (.inr (.inl e.symm))), HW1.out.keep (HNE.out _ fun e => HD.out.2.2.2.2.2.2.1 (.inr (.inr e.symm))) (fun x _ _ hx => HNE.out x fun e => by
        obtain ⟨cs, hx⟩ := hx
        have := HRC1.out
        rw [e, show wr.heap[rc]? = _ from HRC1.out] at hx
        injection hx with hx
        injection hx with _ h2 _
        revert h2
        decide), HD.out.1, HD.out.2.1, HD.out.2.2.1, HD.out.2.2.2.1, HD.out.2.2.2.2.1, HD.out.2.2.2.2.2.1⟩, HBE.out⟩
end Go.Proofs.YtjdigpfipmckhaaGreat
