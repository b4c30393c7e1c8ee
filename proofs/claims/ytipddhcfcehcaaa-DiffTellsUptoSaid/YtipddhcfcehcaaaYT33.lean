/- Lemmas for the claim, no condition. -/
import Derived.Test.YtipddhcfcehcaaaYT32
import Derived.Test.YtipddhcfcehcaaaYT31
namespace Go.Proofs.Ytipddhcfcehcaaa
open Go Go.RowKit Go.Maps Go.Shelf

set_option maxRecDepth 100000 in
set_option maxHeartbeats 1000000 in
theorem typ7_at (ts : List TyS) (tv : Value) (n : ByteArray) (w : World) {S : Nat → Prop} (hSw : ∀ b, S b → b < w.heap.size) (h : TysAt S w ts tv) :
    Calls Try.prog 46 #[.agg #[tv], .string n] w fun e w' => ∃ rv, e = .returned (.tuple #[.agg #[.string (tyOr (typF ts n)).name, rv], .bool (typF ts n).isSome]) ∧ RelsAt S w' (tyOr (typF ts n)).rels rv ∧ Ext w w' := by
  obtain ⟨ao, c, rfl, hlc, hcm, hcell⟩ := h.rows
  have HC := Lib.hid hcell
  have HSW := Lib.hid hSw
  obtain ⟨w1, hw1⟩ : ∃ x, x = w.alloc (.cells #[.slice ao ts.length c] 24) := ⟨_, rfl⟩
  obtain ⟨w2, hw2⟩ : ∃ x, x = w1.alloc (.cells #[.string ⟨#[]⟩, .slice none 0 0] 49) := ⟨_, rfl⟩
  have e1 : w1.heap.size = w.heap.size + 1 := by rw [hw1]; simp
  have x01 : Ext w w1 := by rw [hw1]; exact Ext.alloc _ _
  have x12 : Ext w1 w2 := by rw [hw2]; exact Ext.alloc _ _
  have hs2 := (show Blk w2 w.heap.size #[.slice ao ts.length c] 24 from Blk.below (by rw [hw1]; exact Blk.made _ _ _) x12).cells
  have HR := Lib.hid (show Blk w2 (w.heap.size + 1) #[.string ⟨#[]⟩, .slice none 0 0] 49 from by rw [hw2, ← e1]; exact Blk.made _ _ _)
  have HB2 := Lib.hid (show Below w.heap.size w w2 from x01.trans x12)
  subst hw2 hw1
  clear h hcell e1 x01 x12
  go_enter Try.func46, Try.ntmps46
  go_wp2_with fail
  obtain ⟨w2, hw2⟩ : ∃ x, x = (w.alloc (.cells #[.slice ao ts.length c] 24)).alloc (.cells #[.string ⟨#[]⟩, .slice none 0 0] 49) := ⟨_, rfl⟩
  rw [← hw2] at HR HB2 ⊢
  clear hw2 hs2
  obtain ⟨br, hbr⟩ : ∃ x, x = w.heap.size + 1 := ⟨_, rfl⟩
  rw [← hbr] at HR ⊢
  have HBR := Lib.hid (show w.heap.size ≤ br from by omega)
  clear hbr
  go_loopw [11] (fun ii wr => ∃ i : Nat, i ≤ ts.length ∧ ii = .int .i64 i ∧ (∀ j (hj : j < ts.length), j < i → ts[j].name ≠ n) ∧ Blk wr br #[.string ⟨#[]⟩, .slice none 0 0] 49 ∧ Below w.heap.size w wr) (fun ii _ => ts.length - (intOf ii).toNat)
  case atStart => exact ⟨0, by omega, rfl, fun _ _ h => absurd h (by omega), HR.out, HB2.out⟩
  case round =>
    obtain ⟨i, hi, rfl, hall, hblk, hbel⟩ := hrel
    have HALL := Lib.hid hall
    have HRO := Lib.hid hblk
    have HBO := Lib.hid hbel
    clear HR HB2 hall hblk
    by_cases hlt : i < ts.length
    · have HUP := fun h => Lib.hid (upto_succ (p := fun j hj => ts[j].name ≠ n) HALL.out hlt h)
      have HHIT := fun (h : ts[i].name = n) => Lib.hid (typ_hit hlt h HALL.out)
      obtain ⟨b, off, pv2, hbo, hb, c0, c1, hat2⟩ := HC.out i hlt
      cases hbo
      have d0 := (hbel.cell (p := ⟨b, off + i * 2, none⟩) (HSW.out _ hb)).trans c0
      have d1 := (hbel.cell (p := ⟨b, off + i * 2 + 1, none⟩) (HSW.out _ hb)).trans c1
      obtain ⟨ao2, c2', rfl, -, -, -⟩ := hat2.rows
      have HAT := Lib.hid hat2
      have hE := Ext.alloc wr (.cells #[.string ts[i].name, .slice ao2 ts[i].rels.length c2'] 49)
      have HB1 := Lib.hid (show Below w.heap.size w _ from hbel.trans (hE.mono hbel.size))
      have HRT := Lib.hid (HRO.out.below hE)
      have hbx := (Blk.made wr #[.string ts[i].name, .slice ao2 ts[i].rels.length c2'] 49).cells
      have HNE := Lib.hid (show br < wr.heap.size from HRO.out.lt)
      clear c0 c1 hat2 hbel hE
      generalize ts[i] = x at *
      obtain ⟨xn, l⟩ := x
      dsimp only at HAT HB1 HRT hbx HUP HHIT d0 d1
      obtain ⟨wx, hwx⟩ : ∃ x, x = wr.alloc (.cells #[.string xn, .slice ao2 l.length c2'] 49) := ⟨_, rfl⟩
      rw [← hwx] at HB1 HRT hbx
      by_cases he : xn = n
      · have HF := HHIT he
        subst he
        have r3 := HRT.out.cells
        have f3 := HRT.out.free
        have hs1 := HRT.out.set_to 0 (.string xn) rfl
        have hs2 := hs1.set_to 1 (.slice ao2 l.length c2') rfl
        have HS2 := Lib.hid hs2
        have HBE := Lib.hid (show Below w.heap.size w ((wx.setCell ⟨br, 0, none⟩ (.string xn)).setCell ⟨br, 1, none⟩ (.slice ao2 l.length c2')) from ((HB1.out.setCell HBR.out _).setCell HBR.out _))
        have hne : br ≠ wr.heap.size := by have := HNE.out; omega
        clear hs1 hs2 HUP HHIT
        subst hwx
        go_wp2_with fail
        refine bodyPost_ret (v := .tuple #[.agg #[.string xn, .slice ao2 l.length c2'], .bool true]) ?_ rfl ⟨.slice ao2 l.length c2', ?_, ?_, HBE.out⟩
        · rw [results_cell_tmp rfl]
          have hl := run_loadVar_row (P := Try.prog) _ br _ 49 _ _ _ HS2.out Try.underlying49 rfl (by kernel_rfl)
          simp [asAddr, hl, Result.andThen]
        · rw [HF.out]; rfl
        · rw [HF.out]; exact HAT.out.same ((Same.below HBE.out).mono HSW.out)
      · have HN := HUP he
        have hne := ba_beq' he
        rw [← ByteArray.toList_eq, ← ByteArray.toList_eq] at hne
        clear HUP HHIT he
        subst hwx
        go_wp2_with fail
        go_roundw
        case rel => exact ⟨i + 1, by omega, by go_num, HN.out, HRT.out, HB1.out⟩
        case measure => simp [intOf]; omega
    · obtain rfl : i = ts.length := by omega
      have HF := Lib.hid (typ_miss fun j hj => HALL.out j hj hj)
      have r3 := HRO.out.cells
      have f3 := HRO.out.free
      have hs1 := HRO.out.set_to 0 (.string ⟨#[]⟩) rfl
      have hs2 := hs1.set_to 1 (.slice none 0 0) rfl
      have HS2 := Lib.hid hs2
      have HBE := Lib.hid (show Below w.heap.size w ((wr.setCell ⟨br, 0, none⟩ (.string ⟨#[]⟩)).setCell ⟨br, 1, none⟩ (.slice none 0 0)) from (HBO.out.setCell HBR.out _).setCell HBR.out _)
      clear hs1 hs2 hbel
      go_wp2_with fail
      refine bodyPost_ret (v := .tuple #[.agg #[.string ⟨#[]⟩, .slice none 0 0], .bool false]) ?_ rfl ⟨.slice none 0 0, ?_, ?_, HBE.out⟩
      · rw [results_cell_tmp rfl]
        have hl := run_loadVar_row (P := Try.prog) _ br _ 49 _ _ _ HS2.out Try.underlying49 rfl (by kernel_rfl)
        simp [asAddr, hl, Result.andThen]
      · rw [HF.out]; rfl
      · rw [HF.out]; exact ⟨[], rfl, by simp, Sl.nil _ _ _⟩

set_option maxRecDepth 100000 in
set_option maxHeartbeats 4000000 in
theorem find06_at (ts : List TyS) (tv : Value) (ty rel : ByteArray) (w : World) {S : Nat → Prop} (hSw : ∀ b, S b → b < w.heap.size) (h : TysAt S w ts tv) (hu : uniqOk ts = true) :
    Calls Try.prog 28 #[.agg #[tv], .string ty, .string rel] w fun e w' => ∃ z : RV, e = .returned (.tuple #[rvV z, .bool (lookA (refsOf ts) ⟨ty, rel⟩).isSome]) ∧ RTAt S w' z.1 z.2 ∧ (∀ r, lookA (refsOf ts) ⟨ty, rel⟩ = some r → z.1 = r) ∧ (lookA (refsOf ts) ⟨ty, rel⟩ = none → z = (.mk 0 ByteArray.empty ByteArray.empty [], .slice none 0 0)) ∧ Below w.heap.size w w' := by
  obtain ⟨ao, c, rfl, hlc, hcm, hcell⟩ := h.rows
  have HC := Lib.hid hcell
  have HSW := Lib.hid hSw
  have HU := Lib.hid hu
  obtain ⟨w1, hw1⟩ : ∃ x, x = w.alloc (.cells #[.slice ao ts.length c] 24) := ⟨_, rfl⟩
  obtain ⟨w2, hw2⟩ : ∃ x, x = w1.alloc (.cells #[.int .i64 0, .string ⟨#[]⟩, .string ⟨#[]⟩, .slice none 0 0] 72) := ⟨_, rfl⟩
  have e1 : w1.heap.size = w.heap.size + 1 := by rw [hw1]; simp
  have x01 : Ext w w1 := by rw [hw1]; exact Ext.alloc _ _
  have x12 : Ext w1 w2 := by rw [hw2]; exact Ext.alloc _ _
  have hs2 := (show Blk w2 w.heap.size #[.slice ao ts.length c] 24 from Blk.below (by rw [hw1]; exact Blk.made _ _ _) x12).cells
  have HR := Lib.hid (show Blk w2 (w.heap.size + 1) #[.int .i64 0, .string ⟨#[]⟩, .string ⟨#[]⟩, .slice none 0 0] 72 from by rw [hw2, ← e1]; exact Blk.made _ _ _)
  have HB2 := Lib.hid (show Below w.heap.size w w2 from x01.trans x12)
  subst hw2 hw1
  clear h hcell hu e1 x01 x12
  go_enter Try.func28, Try.ntmps28
  go_wp2_with fail
  obtain ⟨w2, hw2⟩ : ∃ x, x = (w.alloc (.cells #[.slice ao ts.length c] 24)).alloc (.cells #[.int .i64 0, .string ⟨#[]⟩, .string ⟨#[]⟩, .slice none 0 0] 72) := ⟨_, rfl⟩
  rw [← hw2] at HR HB2 ⊢
  clear hw2 hs2
  obtain ⟨br, hbr⟩ : ∃ x, x = w.heap.size + 1 := ⟨_, rfl⟩
  rw [← hbr] at HR ⊢
  have HBR := Lib.hid (show w.heap.size ≤ br from by omega)
  clear hbr
  go_loopw [15] (fun ii wr => ∃ i : Nat, i ≤ ts.length ∧ ii = .int .i64 i ∧ (∀ j (hj : j < ts.length), j < i → ts[j].name ≠ ty) ∧ Blk wr br #[.int .i64 0, .string ⟨#[]⟩, .string ⟨#[]⟩, .slice none 0 0] 72 ∧ Below w.heap.size w wr) (fun ii _ => ts.length - (intOf ii).toNat)
  case atStart => exact ⟨0, by omega, rfl, fun _ _ h => absurd h (by omega), HR.out, HB2.out⟩
  case round =>
    rename World => wo
    obtain ⟨i, hi, rfl, hall, hblk, hbel⟩ := hrel
    have HALL := Lib.hid hall
    have HRO := Lib.hid hblk
    have HBO := Lib.hid hbel
    clear HR HB2 hall hblk
    by_cases hlt : i < ts.length
    · have HUP := fun h => Lib.hid (upto_succ (p := fun j hj => ts[j].name ≠ ty) HALL.out hlt h)
      have HMISS := fun (h : ts[i].name = ty) => Lib.hid (fun (hb2 : ∀ j (hj : j < ts[i].rels.length), ts[i].rels[j].1 ≠ rel) => refs_miss HU.out hlt h hb2)
      have HHIT := fun (h : ts[i].name = ty) => Lib.hid (fun k hk hr hb2 => refs_hit (k := k) (rel := rel) hlt h HALL.out hk hr hb2)
      obtain ⟨b, off, pv2, hbo, hb, c0, c1, hat2⟩ := HC.out i hlt
      cases hbo
      have d0 := (hbel.cell (p := ⟨b, off + i * 2, none⟩) (HSW.out _ hb)).trans c0
      have d1 := (hbel.cell (p := ⟨b, off + i * 2 + 1, none⟩) (HSW.out _ hb)).trans c1
      obtain ⟨ao2, c2', rfl, hlc2, hcm2, hcell2⟩ := hat2.rows
      have HC2 := Lib.hid hcell2
      have hb1 := hbel.alloc hbel.size (.cells #[.string ts[i].name, .slice ao2 ts[i].rels.length c2'] 49)
      have HB1 := Lib.hid hb1
      have HRT := Lib.hid (HRO.out.below (Ext.alloc wo (.cells #[.string ts[i].name, .slice ao2 ts[i].rels.length c2'] 49)))
      have hbx := (Blk.made wo #[.string ts[i].name, .slice ao2 ts[i].rels.length c2'] 49).cells
      clear c0 c1 hat2 hcell2 hb1 hbel
      generalize ts[i] = x at *
      obtain ⟨xn, l⟩ := x
      dsimp only at *
      by_cases he : xn = ty
      · have HM := HMISS he
        have HH := HHIT he
        subst he
        clear HUP HMISS HHIT
        go_wp2_with fail
        obtain ⟨wq, hwq⟩ : ∃ x, x = wo.alloc (.cells #[.string xn, .slice ao2 l.length c2'] 49) := ⟨_, rfl⟩
        rw [← hwq] at HB1 HRT ⊢
        clear hwq hbx d0 d1
        go_loopw [26] (fun kk wr => ∃ k : Nat, k ≤ l.length ∧ kk = .int .i64 k ∧ (∀ j (hj : j < l.length), j < k → l[j].1 ≠ rel) ∧ Blk wr br #[.int .i64 0, .string ⟨#[]⟩, .string ⟨#[]⟩, .slice none 0 0] 72 ∧ Below w.heap.size w wr) (fun kk _ => l.length - (intOf kk).toNat)
        case atStart => exact ⟨0, by omega, rfl, fun _ _ h => absurd h (by omega), HRT.out, HB1.out⟩
        case round =>
          obtain ⟨k, hk, rfl, hall2, hblk, hbel⟩ := hrel
          have HALL2 := Lib.hid hall2
          have HRR := Lib.hid hblk
          have HBQ := Lib.hid hbel
          clear HRT HB1 hall2 hblk
          by_cases hlt2 : k < l.length
          · have HUP2 := fun h => Lib.hid (upto_succ (p := fun j hj => l[j].1 ≠ rel) HALL2.out hlt2 h)
            have HFND := fun (h : l[k].1 = rel) => Lib.hid (HH.out k hlt2 h HALL2.out)
            obtain ⟨b2, off2, pv3, hbo, hb2, c0, c1, c2, c3, c4, hat3⟩ := HC2.out k hlt2
            cases hbo
            have d0 := (hbel.cell (p := ⟨b2, off2 + k * 5, none⟩) (HSW.out _ hb2)).trans c0
            have d1 := (hbel.cell (p := ⟨b2, off2 + k * 5 + 1, none⟩) (HSW.out _ hb2)).trans c1
            have d2 := (hbel.cell (p := ⟨b2, off2 + k * 5 + 2, none⟩) (HSW.out _ hb2)).trans c2
            have d3 := (hbel.cell (p := ⟨b2, off2 + k * 5 + 3, none⟩) (HSW.out _ hb2)).trans c3
            have d4 := (hbel.cell (p := ⟨b2, off2 + k * 5 + 4, none⟩) (HSW.out _ hb2)).trans c4
            obtain ⟨ao3, c3', rfl, -⟩ := hat3.rows
            obtain ⟨wx, hwx⟩ : ∃ x, x = wr.alloc (.cells #[.string l[k].1, .int .i64 l[k].2.k, .string l[k].2.a, .string l[k].2.b, .slice ao3 l[k].2.ps.length c3'] 82) := ⟨_, rfl⟩
            have xrx : Ext wr wx := by rw [hwx]; exact Ext.alloc _ _
            have hbx := (show Blk wx wr.heap.size #[.string l[k].1, .int .i64 l[k].2.k, .string l[k].2.a, .string l[k].2.b, .slice ao3 l[k].2.ps.length c3'] 82 from by rw [hwx]; exact Blk.made _ _ _).cells
            have HRX := Lib.hid (HRR.out.below xrx)
            have HBX := Lib.hid (show Below w.heap.size w wx from HBQ.out.trans (xrx.mono HBQ.out.size))
            have HAT := Lib.hid hat3
            have hne : br ≠ wr.heap.size := by have := HRR.out.lt; omega
            clear c0 c1 c2 c3 c4 hat3 xrx hbel
            generalize l[k] = y at *
            obtain ⟨yn, p⟩ := y
            dsimp only at *
            by_cases he2 : yn = rel
            · have HF := HFND he2
              subst he2
              have r3 := HRX.out.cells
              have f3 := HRX.out.free
              have hs1 := HRX.out.set_to 0 (.int .i64 p.k) rfl
              have hs2 := hs1.set_to 1 (.string p.a) rfl
              have hs3 := hs2.set_to 2 (.string p.b) rfl
              have hs4 := hs3.set_to 3 (.slice ao3 p.ps.length c3') rfl
              have HS4 := Lib.hid hs4
              have HBE := Lib.hid (show Below w.heap.size w ((((wx.setCell ⟨br, 0, none⟩ (.int .i64 p.k)).setCell ⟨br, 1, none⟩ (.string p.a)).setCell ⟨br, 2, none⟩ (.string p.b)).setCell ⟨br, 3, none⟩ (.slice ao3 p.ps.length c3')) from (((HBX.out.setCell HBR.out _).setCell HBR.out _).setCell HBR.out _).setCell HBR.out _)
              clear hs1 hs2 hs3 hs4 HUP2 HFND
              subst hwx
              go_wp2_with fail
              refine bodyPost_ret (v := .tuple #[.agg #[.int .i64 p.k, .string p.a, .string p.b, .slice ao3 p.ps.length c3'], .bool true]) ?_ rfl ⟨(p, .slice ao3 p.ps.length c3'), ?_, ?_, fun r hr => ?_, fun hr => ?_, HBE.out⟩
              · rw [results_cell_tmp rfl]
                have hl := run_loadVar_row (P := Try.prog) _ br _ 72 _ _ _ HS4.out Try.underlying72 rfl (by kernel_rfl)
                simp [asAddr, hl, Result.andThen]
              · unfold rvV rV
                rw [HF.out]; rfl
              · exact HAT.out.same ((Same.below HBE.out).mono HSW.out)
              · rw [HF.out] at hr; cases hr; rfl
              · rw [HF.out] at hr; cases hr
            · have HN := HUP2 he2
              have hne2 := ba_beq' he2
              rw [← ByteArray.toList_eq, ← ByteArray.toList_eq] at hne2
              clear HUP2 HFND he2
              subst hwx
              go_wp2_with fail
              go_roundw
              case rel => exact ⟨k + 1, by omega, by go_num, HN.out, HRX.out, HBX.out⟩
              case measure => simp [intOf]; omega
          · obtain rfl : k = l.length := by omega
            have HF := Lib.hid (HM.out fun j hj => HALL2.out j hj hj)
            have r3 := HRR.out.cells
            have f3 := HRR.out.free
            have hs1 := HRR.out.set_to 0 (.int .i64 0) rfl
            have hs2 := hs1.set_to 1 (.string ⟨#[]⟩) rfl
            have hs3 := hs2.set_to 2 (.string ⟨#[]⟩) rfl
            have hs4 := hs3.set_to 3 (.slice none 0 0) rfl
            have HS4 := Lib.hid hs4
            have HBE := Lib.hid (show Below w.heap.size w ((((wr.setCell ⟨br, 0, none⟩ (.int .i64 0)).setCell ⟨br, 1, none⟩ (.string ⟨#[]⟩)).setCell ⟨br, 2, none⟩ (.string ⟨#[]⟩)).setCell ⟨br, 3, none⟩ (.slice none 0 0)) from (((HBQ.out.setCell HBR.out _).setCell HBR.out _).setCell HBR.out _).setCell HBR.out _)
            clear hs1 hs2 hs3 hs4 hbel
            go_wp2_with fail
            refine bodyPost_ret (v := .tuple #[.agg #[.int .i64 0, .string ⟨#[]⟩, .string ⟨#[]⟩, .slice none 0 0], .bool false]) ?_ rfl ⟨(.mk 0 ByteArray.empty ByteArray.empty [], .slice none 0 0), ?_, ?_, fun r hr => ?_, fun hr => rfl, HBE.out⟩
            · rw [results_cell_tmp rfl]
              have hl := run_loadVar_row (P := Try.prog) _ br _ 72 _ _ _ HS4.out Try.underlying72 rfl (by kernel_rfl)
              simp [asAddr, hl, Result.andThen]
            · rw [HF.out]; rfl
            · exact RTAt.nil _ _ _ _ _
            · rw [HF.out] at hr; cases hr
      · have HN := HUP he
        have hne := ba_beq' he
        rw [← ByteArray.toList_eq, ← ByteArray.toList_eq] at hne
        clear HUP HMISS HHIT he
        go_wp2_with fail
        go_roundw
        case rel => exact ⟨i + 1, by omega, by go_num, HN.out, HRT.out, HB1.out⟩
        case measure => simp [intOf]; omega
    · obtain rfl : i = ts.length := by omega
      have HF := Lib.hid (refs_out (rel := rel) fun j hj => HALL.out j hj hj)
      have r3 := HRO.out.cells
      have f3 := HRO.out.free
      have hs1 := HRO.out.set_to 0 (.int .i64 0) rfl
      have hs2 := hs1.set_to 1 (.string ⟨#[]⟩) rfl
      have hs3 := hs2.set_to 2 (.string ⟨#[]⟩) rfl
      have hs4 := hs3.set_to 3 (.slice none 0 0) rfl
      have HS4 := Lib.hid hs4
      have HBE := Lib.hid (show Below w.heap.size w ((((wo.setCell ⟨br, 0, none⟩ (.int .i64 0)).setCell ⟨br, 1, none⟩ (.string ⟨#[]⟩)).setCell ⟨br, 2, none⟩ (.string ⟨#[]⟩)).setCell ⟨br, 3, none⟩ (.slice none 0 0)) from (((HBO.out.setCell HBR.out _).setCell HBR.out _).setCell HBR.out _).setCell HBR.out _)
      clear hs1 hs2 hs3 hs4 hbel
      go_wp2_with fail
      refine bodyPost_ret (v := .tuple #[.agg #[.int .i64 0, .string ⟨#[]⟩, .string ⟨#[]⟩, .slice none 0 0], .bool false]) ?_ rfl ⟨(.mk 0 ByteArray.empty ByteArray.empty [], .slice none 0 0), ?_, ?_, fun r hr => ?_, fun hr => rfl, HBE.out⟩
      · rw [results_cell_tmp rfl]
        have hl := run_loadVar_row (P := Try.prog) _ br _ 72 _ _ _ HS4.out Try.underlying72 rfl (by kernel_rfl)
        simp [asAddr, hl, Result.andThen]
      · rw [HF.out]; rfl
      · exact RTAt.nil _ _ _ _ _
      · rw [HF.out] at hr; cases hr

/-- A rule in old memory (below n, as in w0), or at S. -/
def ElR7 (n : Nat) (w0 : World) (S : Nat → Prop) (w : World) (x : (ByteArray × RT) × Value) : Prop := ∀ W, (∀ b, b < n → W.heap[b]? = w0.heap[b]?) → Same S w W → RTAt (fun b => b < n ∨ S b) W x.1.2 x.2
/-- A type's relations in old memory, or at S. -/
def ElT7 (n : Nat) (w0 : World) (S : Nat → Prop) (w : World) (x : TyS × Value) : Prop := ∀ W, (∀ b, b < n → W.heap[b]? = w0.heap[b]?) → Same S w W → RelsAt (fun b => b < n ∨ S b) W x.1.rels x.2
section
variable {n : Nat} {w0 : World}
theorem ElR7.same {S : Nat → Prop} {w w' : World} {x : (ByteArray × RT) × Value} (h : ElR7 n w0 S w x) (hs : Same S w w') : ElR7 n w0 S w' x := fun W hW hS => h W hW fun b hb => (hS b hb).trans (hs b hb)
theorem ElR7.mono {S S' : Nat → Prop} {w : World} {x : (ByteArray × RT) × Value} (h : ElR7 n w0 S w x) (hs : ∀ b, S b → S' b) : ElR7 n w0 S' w x := fun W hW hS => (h W hW fun b hb => hS b (hs b hb)).mono fun b hb => hb.imp id (hs b)
theorem ElT7.same {S : Nat → Prop} {w w' : World} {x : TyS × Value} (h : ElT7 n w0 S w x) (hs : Same S w w') : ElT7 n w0 S w' x := fun W hW hS => h W hW fun b hb => (hS b hb).trans (hs b hb)
theorem ElT7.mono {S S' : Nat → Prop} {w : World} {x : TyS × Value} (h : ElT7 n w0 S w x) (hs : ∀ b, S b → S' b) : ElT7 n w0 S' w x := fun W hW hS => (h W hW fun b hb => hS b (hs b hb)).mono fun b hb => hb.imp id (hs b)
theorem ElR7.old {S : Nat → Prop} {w : World} {x : (ByteArray × RT) × Value} (h : RTAt (· < n) w0 x.1.2 x.2) : ElR7 n w0 S w x := fun W hW _ => (h.same hW).mono fun b hb => .inl hb
theorem ElT7.old {S : Nat → Prop} {w : World} {x : TyS × Value} (h : RelsAt (· < n) w0 x.1.rels x.2) : ElT7 n w0 S w x := fun W hW _ => (h.same hW).mono fun b hb => .inl hb
end
abbrev TyBox7 (n : Nat) (w0 : World) := Box (α := (ByteArray × RT) × Value) 49 82 5 (ElR7 n w0) relC
abbrev ScBox7 (n : Nat) (w0 : World) := Box (α := TyS × Value) 24 49 2 (ElT7 n w0) tyC
section
variable {n : Nat} {w0 : World} {rp lo n0 : Nat} {pre : List Value} {w w' w7 : World} {pv v7 : Value}
theorem TyBox7.keep {q : List ((ByteArray × RT) × Value)} (h : TyBox7 n w0 rp lo pre w q pv) (hk : Kept (fun b => b < w.heap.size ∧ lo ≤ b) w w') (hr : w'.heap[rp]? = w.heap[rp]?) : TyBox7 n w0 rp lo pre w' q pv :=
  Box.keep (El := ElR7 n w0) (fun h hs => h.same hs) (fun h hs => h.mono hs) h hk hr
theorem ScBox7.keep {q : List (TyS × Value)} (h : ScBox7 n w0 rp lo pre w q pv) (hk : Kept (fun b => b < w.heap.size ∧ lo ≤ b) w w') (hr : w'.heap[rp]? = w.heap[rp]?) : ScBox7 n w0 rp lo pre w' q pv :=
  Box.keep (El := ElT7 n w0) (fun h hs => h.same hs) (fun h hs => h.mono hs) h hk hr
theorem TyBox7.add {q : List ((ByteArray × RT) × Value)} {x : (ByteArray × RT) × Value} (h : TyBox7 n w0 rp lo pre w q pv) (hrl : rp < lo) (hk : ∀ b, b < w.heap.size → pv.ownBlock ≠ some b → w7.heap[b]? = w.heap[b]?) (hz : w.heap.size ≤ w7.heap.size)
    (ho : Own w7 lo 82 5 v7 (q.flatMap relC ++ relC x)) (hb : ∀ g, v7.ownBlock = some g → pv.ownBlock = some g ∨ w.heap.size ≤ g) (hr : ElR7 n w0 (fun b => n0 ≤ b ∧ b < w.heap.size) w x) (hn0 : lo ≤ n0) (hpv : ∀ g, pv.ownBlock = some g → g < n0) :
    TyBox7 n w0 rp lo pre (w7.setCell ⟨rp, pre.length, none⟩ v7) (q ++ [x]) v7 :=
  Box.add (El := ElR7 n w0) (fun h hs => h.same hs) (fun h hs => h.mono hs) h hrl hk hz ho hb hr hn0 hpv
theorem ScBox7.add {q : List (TyS × Value)} {x : TyS × Value} (h : ScBox7 n w0 rp lo pre w q pv) (hrl : rp < lo) (hk : ∀ b, b < w.heap.size → pv.ownBlock ≠ some b → w7.heap[b]? = w.heap[b]?) (hz : w.heap.size ≤ w7.heap.size)
    (ho : Own w7 lo 49 2 v7 (q.flatMap tyC ++ tyC x)) (hb : ∀ g, v7.ownBlock = some g → pv.ownBlock = some g ∨ w.heap.size ≤ g) (hr : ElT7 n w0 (fun b => n0 ≤ b ∧ b < w.heap.size) w x) (hn0 : lo ≤ n0) (hpv : ∀ g, pv.ownBlock = some g → g < n0) :
    ScBox7 n w0 rp lo pre (w7.setCell ⟨rp, pre.length, none⟩ v7) (q ++ [x]) v7 :=
  Box.add (El := ElT7 n w0) (fun h hs => h.same hs) (fun h hs => h.mono hs) h hrl hk hz ho hb hr hn0 hpv
/-- What a box of relations holds is a type's relations. -/
theorem TyBox7.el {q : List ((ByteArray × RT) × Value)} {nm : ByteArray} {m : Nat} (h : TyBox7 n w0 rp lo pre w q pv) (hm : m ≤ lo) : ElT7 n w0 (fun b => m ≤ b ∧ b < w.heap.size) w ((⟨nm, q.map (·.1)⟩ : TyS), pv) := fun W hW hS =>
  ⟨q, rfl, fun x hx => (h.parts x hx W hW fun b hb => hS b ⟨Nat.le_trans hm hb.1.1, hb.1.2⟩).mono fun b hb => hb.imp id fun k => ⟨Nat.le_trans hm k.1.1, k.1.2⟩,
    (h.row.sl.same fun b hb => hS b ⟨Nat.le_trans hm hb.1, hb.2⟩).mono fun b hb => .inr ⟨Nat.le_trans hm hb.1, hb.2⟩⟩
/-- What a box of types holds is a schema. -/
theorem ScBox7.tys {q : List (TyS × Value)} (h : ScBox7 n w0 rp lo pre w q pv) (hb : Below n w0 w) (hn : n ≤ w.heap.size) : TysAt (fun b => b < n ∨ (lo ≤ b ∧ b < w.heap.size)) w (q.map (·.1)) pv :=
  ⟨q, rfl, fun x hx => (h.parts x hx w (fun b hb' => hb.block b hb') (fun _ _ => rfl)).mono fun b hb => hb.imp id fun k => k.1, h.row.sl.mono fun b hb => .inr hb⟩
end
/-- Find, of a type that is there. -/
theorem look_typ {us : List TyS} (hc : chk06 us = 0) {n : ByteArray} {u : TyS} (h : typF us n = some u) (r : ByteArray) : lookA (refsOf us) ⟨n, r⟩ = lookA u.rels r := by
  obtain ⟨hu, rfl⟩ := typ_some h
  cases hl : lookA u.rels r with
  | some q => exact lookA_of_nodup (refs_nodup hc) (p := (⟨u.name, r⟩, q)) (refs_mem.2 ⟨u, hu, (r, q), look_mem hl, rfl⟩)
  | none =>
    refine look_none_iff.2 fun p hp e => ?_
    obtain ⟨t, ht, x, hx, rfl⟩ := refs_mem.1 hp
    injection e with e1 e2
    obtain rfl := uniq_eq (chk_uq hc) ht hu e1
    subst e2
    rw [lookA_of_nodup (uq_rels (chk_uq hc) ht) hx] at hl
    cases hl
theorem look_own {ts : List TyS} (hc : chk06 ts = 0) {t : TyS} (ht : t ∈ ts) (r : ByteArray) : lookA (refsOf ts) ⟨t.name, r⟩ = lookA t.rels r := look_typ hc (typ_mem (uq_names (chk_uq hc)) ht) r

end Go.Proofs.Ytipddhcfcehcaaa
namespace Go.Proofs.Ytipddhcfcehcaaa
open Go Go.RowKit Go.Maps

set_option maxRecDepth 100000 in
set_option maxHeartbeats 3000000 in
theorem apply_ok (ts us : List TyS) (tv uv lv : Value) (cs : List Ch) (w : World) (ht : TysAt (· < w.heap.size) w ts tv) (hu : TysAt (· < w.heap.size) w us uv) (k1 : SOk ts) (k2 : SOk us) (u1 : uniqOk ts = true) (u2 : uniqOk us = true) (hl : Sl (· < w.heap.size) w 3 lv (chcs cs)) (HD : ∀ W, Ext w W → Calls Try.prog 17 #[.agg #[tv], .agg #[uv]] W fun e W' => ∃ v, e = .returned (.tuple #[v, .int .i64 0]) ∧ Sl (· < W'.heap.size) W' 3 v (chcs cs) ∧ Ext W W') :
    Calls Try.prog 19 #[.agg #[tv], lv, .agg #[uv]] w fun e w' => ∃ sv, e = .returned (.tuple #[.agg #[sv], .int .i64 0]) ∧ TysAt (fun b => w.heap.size ≤ b ∧ b < w'.heap.size) w' (appL ts us) sv ∧ Ext w w' := by
  have HL := Lib.hid hl
  have HT := Lib.hid ht
  have HU := Lib.hid hu
  have HK1 := Lib.hid k1
  have HK2 := Lib.hid k2
  have HU1 := Lib.hid u1
  have HU2 := Lib.hid u2
  obtain ⟨aol, nl, cl, rfl, -, -, -⟩ := hl.len
  obtain ⟨aot, ct, rfl, hct1, hct2, hrt⟩ := ht.rows
  obtain ⟨aou, cu, rfl, hcu1, hcu2, hru⟩ := hu.rows
  have HRT := Lib.hid hrt
  have HRU := Lib.hid hru
  clear hl ht hu k1 k2 u1 u2 hrt hru
  obtain ⟨wa, hwa⟩ : ∃ x, x = w.alloc (.cells #[.slice aot ts.length ct] 24) := ⟨_, rfl⟩
  obtain ⟨wc, hwc⟩ : ∃ x, x = wa.alloc (.cells #[.slice aou us.length cu] 24) := ⟨_, rfl⟩
  obtain ⟨wb, hwb⟩ : ∃ x, x = wc.alloc (.cells #[.slice none 0 0] 24) := ⟨_, rfl⟩
  have ea : wa.heap.size = w.heap.size + 1 := by rw [hwa]; simp
  have ec : wc.heap.size = w.heap.size + 1 + 1 := by rw [hwc]; simp [ea]
  have xa : Ext w wa := by rw [hwa]; exact Ext.alloc _ _
  have xc : Ext wa wc := by rw [hwc]; exact Ext.alloc _ _
  have xb : Ext wc wb := by rw [hwb]; exact Ext.alloc _ _
  have HA := Lib.hid (show Blk wb w.heap.size #[.slice aot ts.length ct] 24 from Blk.below (by rw [hwa]; exact Blk.made _ _ _) (xc.trans xb))
  have HB := Lib.hid (show Blk wb (w.heap.size + 1) #[.slice aou us.length cu] 24 from Blk.below (by rw [hwc, ← ea]; exact Blk.made _ _ _) xb)
  have HR := Lib.hid (show Blk wb (w.heap.size + 1 + 1) #[.slice none 0 0] 24 from by rw [hwb, ← ec]; exact Blk.made _ _ _)
  have HX := Lib.hid (show Ext w wb from xa.trans (xc.trans xb))
  have HDC := Lib.hid (HD wb HX.out)
  clear xa xc xb ea ec HD
  subst hwb hwc hwa
  go_enter Try.func19, Try.ntmps19
  go_wp2_with fail
  refine HDC.out.mono ?_
  rintro e w1 ⟨v1, rfl, hs1, hb1⟩
  have HX1 := Lib.hid (show Ext w w1 from HX.out.trans hb1)
  have HA1 := Lib.hid (HA.out.below hb1)
  have HB1 := Lib.hid (HB.out.below hb1)
  have HR1 := Lib.hid (HR.out.below hb1)
  have HEQ := Lib.hid (equalC_any v1 _ cs cs w1 hs1 (HL.out.up HX1.out))
  rw [decide_eq_true rfl] at HEQ
  obtain ⟨ao1, n1, c1, rfl, -, -, -⟩ := hs1.len
  clear hb1 hs1 HDC HX HA HB HR HL
  go_wp2_with fail
  refine HEQ.out.mono ?_
  rintro e w2 ⟨rfl, hb2⟩
  obtain ⟨wq, hwq⟩ : ∃ x, x = w2.alloc (.cells #[.slice none 0 0] 24) := ⟨_, rfl⟩
  have xq : Ext w1 wq := Ext.trans hb2 (by rw [hwq]; exact Ext.alloc _ _)
  have HX := Lib.hid (show Ext w wq from HX1.out.trans xq)
  have HA := Lib.hid (HA1.out.below xq)
  have HB := Lib.hid (HB1.out.below xq)
  have HR := Lib.hid (HR1.out.below xq)
  have HRP := Lib.hid (show w.heap.size + 1 + 1 + 1 ≤ w2.heap.size from by have := HR1.out.lt; have := hb2.size; omega)
  have HO := Lib.hid (show ScBox w2.heap.size (w2.heap.size + 1) [] wq [] (.slice none 0 0) from ⟨by rw [hwq]; exact Blk.made _ _ _, Own.nil _ _ _ _, by simp⟩)
  have ab := HA.out.cells
  clear hb2 xq HEQ HX1 HA1 HB1 HR1
  subst hwq
  go_wp2_with fail
  generalize w2.alloc (.cells #[.slice none 0 0] 24) = wb at *
  generalize w2.heap.size = rp at *
  clear ab
  go_loopw [37] (fun iv wr => ∃ (i : Nat) (q : List (TyS × Value)) (ov : Value), i ≤ ts.length ∧ iv = .int .i64 i ∧ q.map (·.1) = (ts.take i).filterMap (appF us) ∧ ScBox rp (rp + 1) [] wr q ov ∧ Below rp wb wr ∧ Ext w wr) (fun iv _ => ts.length - (intOf iv).toNat)
  case atStart => exact ⟨0, [], .slice none 0 0, by omega, rfl, rfl, HO.out, Below.refl _ _, HX.out⟩
  case round =>
    obtain ⟨i, q, ov, hi, rfl, hq, hbx, hbe, hxw⟩ := hrel
    have HQ := Lib.hid hq
    have HBX := Lib.hid hbx
    have HBE := Lib.hid hbe
    have HXW := Lib.hid hxw
    obtain ⟨aov, kv, cv, rfl, -, -, -⟩ := hbx.row.sl.len
    have HPO := Lib.hid (show ∀ g, Value.ownBlock (.slice aov kv cv) = some g → rp + 1 ≤ g ∧ g < wr.heap.size from hbx.row.block)
    have HLQ := Lib.hid (show q.length ≤ 4000000 from by
      have h1 := congrArg List.length hq
      rw [List.length_map] at h1
      have h2 := fm_len (appF us) (ts.take i)
      rw [List.length_take] at h2
      have := HK1.out.tl
      omega)
    clear HO HX hq hbx hbe
    by_cases hlt : i < ts.length
    · obtain ⟨bl, offl, rvl, haol, hbb, d0, d1, hrtl⟩ := HRT.out i hlt
      have d0 := hxw.cell (a := ⟨bl, offl + i * 2, none⟩) d0
      have d1 := hxw.cell (a := ⟨bl, offl + i * 2 + 1, none⟩) d1
      have HFS := Lib.hid (fm_snoc (appF us) hlt)
      have HSL := Lib.hid (And.intro (uq_rels HU1.out (List.getElem_mem hlt)) (rels_le (List.getElem_mem hlt)))
      subst haol
      generalize ts[i] = x at *
      obtain ⟨nm, rl⟩ := x
      dsimp only at d0 d1 hrtl HSL
      obtain ⟨aor, cr, rfl, -, -, -⟩ := hrtl.rows
      have HRTL := Lib.hid hrtl
      obtain ⟨wp, hwp⟩ : ∃ x, x = wr.alloc (.cells #[.string nm, .slice aor rl.length cr] 49) := ⟨_, rfl⟩
      have xp : Ext wr wp := by rw [hwp]; exact Ext.alloc _ _
      have hpb : Blk wp wr.heap.size #[.string nm, .slice aor rl.length cr] 49 := by rw [hwp]; exact Blk.made _ _ _
      have HPB0 := Lib.hid hpb
      have pb := hpb.cells
      have HXP := Lib.hid (show Ext w wp from hxw.trans xp)
      have HBP := Lib.hid (HBX.out.keep (Below.kept xp fun b hb => hb.1) (xp.block _ HBX.out.box.lt))
      have HEP := Lib.hid (show Below rp wb wp from HBE.out.trans (Below.mono xp (by have := HBX.out.box.lt; omega)))
      have HIX := Lib.hid (tyIdx_any us _ nm wp (HU.out.up HXP.out))
      have mb := (show Blk wp (w.heap.size + 1) #[.slice aou us.length cu] 24 from (HEP.out.block _ (by have := HRP.out; omega)).trans HB.out).cells
      clear hxw hrtl xp hpb HBX HBE HXW
      subst hwp
      go_wp2_with fail
      refine HIX.out.mono ?_
      rintro e w2 ⟨k, rfl, hk, hb2⟩
      have HPB := Lib.hid (HPB0.out.below hb2).cells
      have HB2 := Lib.hid (HBP.out.keep (Below.kept hb2 fun b hb => hb.1) (hb2.block _ HBP.out.box.lt))
      have HX2 := Lib.hid (show Ext w w2 from HXP.out.trans hb2)
      have HE2 := Lib.hid (show Below rp wb w2 from HEP.out.trans (Below.mono hb2 (by have := HBP.out.box.lt; omega)))
      have HP2 := Lib.hid (show (∀ g, Value.ownBlock (.slice aov kv cv) = some g → g < wr.heap.size) ∧ True ∧ wr.heap.size < w2.heap.size from ⟨fun g e => (HPO.out g e).2, trivial, (HPB0.out.below hb2).lt⟩)
      generalize wr.alloc (.cells #[.string nm, .slice aor rl.length cr] 49) = wp at *
      clear HIX HBP HEP HXP HPB0 hb2 pb mb d0 d1
      rcases idx_typ (uq_names HU2.out) hk with ⟨j, hj, rfl, hlk⟩ | ⟨rfl, hlk⟩
      · obtain ⟨bm, offm, rv5, haom, hbm, e0, e1, hrt⟩ := HRU.out j hj
        subst haom
        have HFX := Lib.hid (show appF us ⟨nm, rl⟩ = some ⟨nm, mrgR rl us[j].rels⟩ from by unfold appF; rw [hlk]; rfl)
        have HSU := Lib.hid (And.intro (uq_rels HU2.out (List.getElem_mem hj)) (And.intro (rels_le (List.getElem_mem hj)) (HK2.out.sz _ (List.getElem_mem hj))))
        generalize us[j] = y at *
        obtain ⟨un, ru⟩ := y
        dsimp only at e0 e1 hrt HFX HSU
        obtain ⟨aou5, cu5, rfl, -, -, -⟩ := hrt.rows
        have hge : (0 : Int) ≤ (j : Int) := by omega
        have hjl : (j : Int) < (us.length : Int) := by omega
        clear hk hlk
        go_wp2_with fail
        obtain ⟨wd, hwd⟩ : ∃ wd, wd = w2.drew := ⟨_, rfl⟩
        have X2d : Ext w2 wd := by rw [hwd]; exact Ext.drew w2
        have HBd := Lib.hid (HB2.out.keep (Below.kept X2d fun b hb => hb.1) (X2d.block _ HB2.out.box.lt))
        have HXd := Lib.hid (show Ext w wd from HX2.out.trans X2d)
        have HEd := Lib.hid (show Below rp wb wd from HE2.out.trans (Below.mono X2d (by have := HB2.out.box.lt; omega)))
        have HPd := Lib.hid (show ∀ g, Value.ownBlock (.slice aov kv cv) = some g → rp + 1 ≤ g ∧ g < wd.heap.size from HBd.out.row.block)
        have HZd := Lib.hid (show rp + 1 ≤ wd.heap.size from HBd.out.box.lt)
        have HD2 := Lib.hid (show w2.heap.size ≤ wd.heap.size from X2d.size)
        have HCP := Lib.hid (merged_any nm un rl ru _ _ wd (HRTL.out.up HXd.out) (hrt.up HXd.out) HSL.out.1 HSU.out.1 HSU.out.2.2 (Nat.le_trans HSL.out.2 HK1.out.lr) (Nat.le_trans HSU.out.2.1 HK2.out.lr))
        refine region_walkL 12 (Kept (fun b => b < wd.heap.size ∧ Value.ownBlock (.slice aov kv cv) ≠ some b) wd) (by rw [← hwd]; exact Kept.refl _ _) (by kernel_rfl) (by kernel_rfl) (fun _ _ d _ _ h => by cases d <;> exact h) ?_
        rw [← hwd]
        have hov : ∀ W, Kept (fun b => b < wd.heap.size ∧ Value.ownBlock (.slice aov kv cv) ≠ some b) wd W → W.cell? ⟨rp, 0, none⟩ = some (.slice aov kv cv) := fun W h => Kept.cellq h ⟨HBd.out.box.lt, fun e => by have := (HPd.out _ e).1; dsimp only at this; omega⟩ (HBd.out.box.cells 0)
        have h80 : ∀ W, Kept (fun b => b < wd.heap.size ∧ Value.ownBlock (.slice aov kv cv) ≠ some b) wd W → W.cell? ⟨wr.heap.size, 0, none⟩ = some (.string nm) := fun W h => Kept.cellq h ⟨Nat.lt_of_lt_of_le HP2.out.2.2 HD2.out, fun e => by have := HP2.out.1 _ e; dsimp only at this; omega⟩ (X2d.cell (a := ⟨wr.heap.size, 0, none⟩) (HPB.out 0))
        have h81 : ∀ W, Kept (fun b => b < wd.heap.size ∧ Value.ownBlock (.slice aov kv cv) ≠ some b) wd W → W.cell? ⟨wr.heap.size, 1, none⟩ = some (.slice aor rl.length cr) := fun W h => Kept.cellq h ⟨Nat.lt_of_lt_of_le HP2.out.2.2 HD2.out, fun e => by have := HP2.out.1 _ e; dsimp only at this; omega⟩ (X2d.cell (a := ⟨wr.heap.size, 1, none⟩) (HPB.out 1))
        have h30 : ∀ W, Kept (fun b => b < wd.heap.size ∧ Value.ownBlock (.slice aov kv cv) ≠ some b) wd W → W.cell? ⟨w.heap.size + 1, 0, none⟩ = some (.slice (some ⟨bm, offm, none⟩) us.length cu) := fun W h => Kept.cellq h ⟨by have := HZd.out; have := HRP.out; show w.heap.size + 1 < _; omega, fun e => by have := (HPd.out _ e).1; have := HRP.out; dsimp only at *; omega⟩ (Blk.cells ((HEd.out.block (w.heap.size + 1) (by have := HRP.out; omega)).trans HB.out) 0)
        have hm0 : ∀ W, Kept (fun b => b < wd.heap.size ∧ Value.ownBlock (.slice aov kv cv) ≠ some b) wd W → W.cell? ⟨bm, offm + j * 2, none⟩ = some (.string un) := fun W h => Kept.cellq h ⟨by have := HZd.out; have := HRP.out; show bm < _; omega, fun e => by have := (HPd.out _ e).1; have := HRP.out; dsimp only at *; omega⟩ (HXd.out.cell (a := ⟨bm, offm + j * 2, none⟩) e0)
        have hm1 : ∀ W, Kept (fun b => b < wd.heap.size ∧ Value.ownBlock (.slice aov kv cv) ≠ some b) wd W → W.cell? ⟨bm, offm + j * 2 + 1, none⟩ = some (.slice aou5 ru.length cu5) := fun W h => Kept.cellq h ⟨by have := HZd.out; have := HRP.out; show bm < _; omega, fun e => by have := (HPd.out _ e).1; have := HRP.out; dsimp only at *; omega⟩ (HXd.out.cell (a := ⟨bm, offm + j * 2 + 1, none⟩) e1)

        clear hwd X2d
        ((refine WalkL.take 0 _ ?_ (by simp only [List.getElem?_toArray, List.getElem?_cons_zero]; rfl) (by kernel_rfl) (by kernel_rfl) (by kernel_rfl) (by rfl) (fun W hW => ?_) ?_; rotate_left; · (go_simp; try with_reducible rfl)); simp only [Act.put, List.setIfInBounds_toArray, List.set_cons_zero, List.set_cons_succ]); ((refine WalkL.take 1 _ ?_ (by simp only [List.getElem?_toArray, List.getElem?_cons_succ, List.getElem?_cons_zero]; rfl) (by kernel_rfl) (by kernel_rfl) (by kernel_rfl) (by rfl) (fun W hW => ?_) ?_; rotate_left; · (go_simp; try with_reducible rfl)); simp only [Act.put, List.setIfInBounds_toArray, List.set_cons_zero, List.set_cons_succ]); ((refine WalkL.take 2 _ ?_ (by simp only [List.getElem?_toArray, List.getElem?_cons_succ, List.getElem?_cons_zero]; rfl) (by kernel_rfl) (by kernel_rfl) (by kernel_rfl) (by rfl) (fun W hW => ?_) ?_; rotate_left; · (go_simp; try with_reducible rfl)); simp only [Act.put, List.setIfInBounds_toArray, List.set_cons_zero, List.set_cons_succ]); ((refine WalkL.take 3 _ ?_ (by simp only [List.getElem?_toArray, List.getElem?_cons_succ, List.getElem?_cons_zero]; rfl) (by kernel_rfl) (by kernel_rfl) (by kernel_rfl) (by rfl) (fun W hW => ?_) ?_; rotate_left; · (go_simp; try with_reducible rfl)); simp only [Act.put, List.setIfInBounds_toArray, List.set_cons_zero, List.set_cons_succ]); ((refine WalkL.take 4 _ ?_ (by simp only [List.getElem?_toArray, List.getElem?_cons_succ, List.getElem?_cons_zero]; rfl) (by kernel_rfl) (by kernel_rfl) (by kernel_rfl) (by rfl) (fun W hW => ?_) ?_; rotate_left; · (go_simp; try with_reducible rfl)); simp only [Act.put, List.setIfInBounds_toArray, List.set_cons_zero, List.set_cons_succ]); ((refine WalkL.take 5 _ ?_ (by simp only [List.getElem?_toArray, List.getElem?_cons_succ, List.getElem?_cons_zero]; rfl) (by kernel_rfl) (by kernel_rfl) (by kernel_rfl) (by rfl) (fun W hW => ?_) ?_; rotate_left; · (go_simp; try with_reducible rfl)); simp only [Act.put, List.setIfInBounds_toArray, List.set_cons_zero, List.set_cons_succ]); ((refine WalkL.take 6 _ ?_ (by simp only [List.getElem?_toArray, List.getElem?_cons_succ, List.getElem?_cons_zero]; rfl) (by kernel_rfl) (by kernel_rfl) (by kernel_rfl) (by rfl) (fun W hW => ?_) ?_; rotate_left; · (go_simp; try with_reducible rfl)); simp only [Act.put, List.setIfInBounds_toArray, List.set_cons_zero, List.set_cons_succ]); ((refine WalkL.take 7 _ ?_ (by simp only [List.getElem?_toArray, List.getElem?_cons_succ, List.getElem?_cons_zero]; rfl) (by kernel_rfl) (by kernel_rfl) (by kernel_rfl) (by rfl) (fun W hW => ?_) ?_; rotate_left; · (go_simp; try with_reducible rfl)); simp only [Act.put, List.setIfInBounds_toArray, List.set_cons_zero, List.set_cons_succ])
        refine WalkL.one 8 (by kernel_rfl) ?_
        refine ⟨_, (by simp only [List.getElem?_toArray, List.getElem?_cons_succ, List.getElem?_cons_zero]; rfl), by rfl, fun K hK => ?_⟩
        go_simp
        refine HCP.out.mono ?_
        rintro e w5 ⟨v5, rfl, hat5, hb5⟩
        have hk5 : Kept (fun b => b < wd.heap.size ∧ Value.ownBlock (.slice aov kv cv) ≠ some b) wd w5 := Below.kept hb5 fun b hb => hb.1
        refine hK.out _ _ hk5 ?_
        clear hK
        obtain ⟨ao5, n5, c5, rfl⟩ : ∃ ao n c, v5 = Value.slice ao n c := by
          obtain ⟨ao5, c5, e, -⟩ := hat5.rows
          exact ⟨ao5, _, c5, e⟩
        have HB5 := Lib.hid (HBd.out.keep (Below.kept hb5 fun b hb => hb.1) (hb5.block _ HBd.out.box.lt))
        have HX5 := Lib.hid (show Ext w w5 from HXd.out.trans hb5)
        have HE5 := Lib.hid (show Below rp wb w5 from HEd.out.trans (Below.mono hb5 (by have := HZd.out; omega)))
        have HAT := Lib.hid hat5
        have HZ5 := Lib.hid (show wd.heap.size ≤ w5.heap.size from hb5.size)
        clear hat5 hb5 HCP
        refine WalkL.one 9 (by kernel_rfl) ?_
        refine ⟨_, (by simp only [List.getElem?_toArray, List.getElem?_cons_succ, List.getElem?_cons_zero]; rfl), by rfl, fun K hK => ?_⟩
        go_simp
        have X6 := Lib.hid (Ext.alloc w5 (.cells #[.string nm, .slice ao5 n5 c5] 49))
        have hk6 := hk5.trans (Below.kept X6.out fun b (hb : b < wd.heap.size ∧ Value.ownBlock (.slice aov kv cv) ≠ some b) => Nat.lt_of_lt_of_le hb.1 HZ5.out)
        refine hK.out _ _ hk6 ?_
        clear hK
        refine WalkL.one 10 (by kernel_rfl) ?_
        refine ⟨_, (by simp only [List.getElem?_toArray, List.getElem?_cons_succ, List.getElem?_cons_zero]; rfl), by rfl, fun K hK => ?_⟩
        refine wp_ownw tysT (.tmp 49) (.tmp 57) rfl rfl (HB5.out.row.below X6.out) rfl (m := 1) (news := [.string nm, .slice ao5 n5 c5]) rfl (fun j u hu => ?_) (by simp [Value.oneCell']) (by have := HLQ.out; rw [flat_length tyC_length]; simp; omega) (by have := HLQ.out; rw [flat_length tyC_length]; simp; omega) (by have := HZd.out; have := HZ5.out; simp; omega) (fun v7 w7 hown7 hb7 hgr7 => ?_)
        · rw [Addr.add_lit, cell_of_row _ w5.heap.size (0 + j) #[.string nm, .slice ao5 n5 c5] 49 (0, 0) (heap_alloc_new w5 _)]
          simpa using hu
        have hk57 : ∀ b, b < w5.heap.size → Value.ownBlock (.slice aov kv cv) ≠ some b → w7.heap[b]? = w5.heap[b]? := fun b h1 h2 => (hgr7.block b (Nat.lt_of_lt_of_le h1 X6.out.size) (fun e => h2 e.symm)).trans (X6.out.block b h1)
        have hz57 : w5.heap.size ≤ w7.heap.size := Nat.le_trans X6.out.size hgr7.size
        have hk57' : Kept (fun b => b < w5.heap.size ∧ Value.ownBlock (.slice aov kv cv) ≠ some b) w5 w7 := ⟨hgr7.os.trans X6.out.os, hgr7.tape.trans X6.out.tape, hgr7.output.trans X6.out.output, hz57, fun b hb => hk57 b hb.1 hb.2⟩
        have hk7 := hk5.trans (hk57'.mono fun b (hb : b < wd.heap.size ∧ Value.ownBlock (.slice aov kv cv) ≠ some b) => ⟨Nat.lt_of_lt_of_le hb.1 HZ5.out, hb.2⟩)
        refine hK.out _ _ hk7 ?_
        clear hK
        simp only [Act.put, List.setIfInBounds_toArray, List.set_cons_zero, List.set_cons_succ]
        have HADD := Lib.hid (HB5.out.add (n0 := wd.heap.size) (x := ((⟨nm, mrgR rl ru⟩ : TyS), .slice ao5 n5 c5)) (Nat.lt_succ_self _) hk57 hz57 hown7 (fun g hg => (hb7 g hg).imp id (fun h => Nat.le_trans X6.out.size h)) HAT.out HZd.out (fun g hg => (HPd.out g hg).2))
        have HLOW := Lib.hid (show Below rp wb (w7.setCell ⟨rp, 0, none⟩ v7) from (HE5.out.trans (hk57'.below fun b hb => ⟨by have := HZd.out; have := HZ5.out; omega, fun e => by have := (HPd.out _ e).1; omega⟩)).setCell (Nat.le_refl _) _)
        have HLX := Lib.hid (show Below w.heap.size w (w7.setCell ⟨rp, 0, none⟩ v7) from (Below.trans HX5.out (hk57'.below fun b (hb : b < w.heap.size) => ⟨by have := HZd.out; have := HZ5.out; have := HRP.out; omega, fun e => by have := (HPd.out _ e).1; have := HRP.out; omega⟩)).setCell (by have := HRP.out; show w.heap.size ≤ rp; omega) _)
        have hrp7 : Blk w7 rp #[.slice aov kv cv] 24 := (hk57 _ HB5.out.box.lt (fun e => by have := (HPd.out _ e).1; omega)).trans HB5.out.box
        obtain ⟨ao7, k7, c7, rfl, -, -, -⟩ := hown7.sl.len
        have f7 := hrp7.free
        have g7 := hrp7.cells 0
        clear hk5 hk6 hk57 hz57 hk57' hown7 hb7 hgr7 hrp7 X6 hov
        ((refine WalkL.take 11 _ ?_ (by simp only [List.getElem?_toArray, List.getElem?_cons_succ, List.getElem?_cons_zero]; rfl) (by kernel_rfl) (by kernel_rfl) (by kernel_rfl) (by rfl) (fun W hW => ?_) ?_; rotate_left; · (go_simp; try with_reducible rfl)); simp only [Act.put, List.setIfInBounds_toArray, List.set_cons_zero, List.set_cons_succ])
        refine WalkL.last (by kernel_rfl) (by kernel_rfl) ?_
        refine ⟨_, (by simp only [List.getElem?_toArray, List.getElem?_cons_succ, List.getElem?_cons_zero]; rfl), by rfl, fun K hK => ?_⟩
        go_simp
        refine hK.out _ _ ?_
        clear hK hk7 f7 g7 HBd HXd HEd HPd HZd HB5 HX5 HE5 HAT HZ5
        generalize w7.setCell ⟨rp, 0, none⟩ (.slice ao7 k7 c7) = w8 at *
        go_wp2_with fail

        go_roundw
        case rel => exact ⟨i + 1, _, _, by omega, by go_num, by rw [List.map_append, HQ.out, HFS.out, HFX.out]; rfl, HADD.out, HLOW.out, HLX.out⟩
        case measure => simp [intOf]; omega
      · have HFX := Lib.hid (show appF us ⟨nm, rl⟩ = none from by unfold appF; rw [hlk]; rfl)
        clear hk hlk
        go_wp2_with fail
        go_roundw
        case rel => exact ⟨i + 1, q, _, by omega, by go_num, by rw [HQ.out, HFS.out, HFX.out]; simp, HB2.out, HE2.out, HX2.out⟩
        case measure => simp [intOf]; omega
    · obtain rfl : i = ts.length := by omega
      clear hxw
      have mb := (show Blk wr (w.heap.size + 1) #[.slice aou us.length cu] 24 from (HBE.out.block _ (by have := HRP.out; omega)).trans HB.out).cells
      rw [List.take_length] at HQ
      go_wp2_with fail
      clear mb
      go_loopw [64] (fun iv wr => ∃ (i : Nat) (q : List (TyS × Value)) (ov : Value), i ≤ us.length ∧ iv = .int .i64 i ∧ q.map (·.1) = ts.filterMap (appF us) ++ (us.take i).filter (fun u => (typF ts u.name).isNone) ∧ ScBox rp (rp + 1) [] wr q ov ∧ Below rp wb wr ∧ Ext w wr) (fun iv _ => us.length - (intOf iv).toNat)
      case atStart => exact ⟨0, q, _, by omega, rfl, by rw [HQ.out]; simp, HBX.out, HBE.out, HXW.out⟩
      case round =>
        obtain ⟨i, q, ov, hi, rfl, hq, hbx, hbe, hxw⟩ := hrel
        clear HQ HBX HBE HXW HPO HLQ
        have HQ := Lib.hid hq
        have HBX := Lib.hid hbx
        have HBE := Lib.hid hbe
        have HXW := Lib.hid hxw
        obtain ⟨aov, kv, cv, rfl, -, -, -⟩ := hbx.row.sl.len
        have HPO := Lib.hid (show ∀ g, Value.ownBlock (.slice aov kv cv) = some g → rp + 1 ≤ g ∧ g < wr.heap.size from hbx.row.block)
        have HLQ := Lib.hid (show q.length ≤ 4000000 from by
          have h1 := congrArg List.length hq
          rw [List.length_map, List.length_append] at h1
          have h2 := fm_len (appF us) ts
          have h3 := List.length_filter_le (fun u : TyS => (typF ts u.name).isNone) (us.take i)
          rw [List.length_take] at h3
          have := HK1.out.tl
          have := HK2.out.tl
          omega)
        clear hq hbx hbe
        by_cases hlt : i < us.length
        · obtain ⟨bl, offl, rvl, haol, hbb, d0, d1, hrtl⟩ := HRU.out i hlt
          have d0 := hxw.cell (a := ⟨bl, offl + i * 2, none⟩) d0
          have d1 := hxw.cell (a := ⟨bl, offl + i * 2 + 1, none⟩) d1
          have HFS := Lib.hid (fl_snoc (fun u : TyS => (typF ts u.name).isNone) hlt)
          have HSU := Lib.hid (And.intro (uq_rels HU2.out (List.getElem_mem hlt)) (And.intro (rels_le (List.getElem_mem hlt)) (HK2.out.sz _ (List.getElem_mem hlt))))
          subst haol
          generalize us[i] = x at *
          obtain ⟨nm, rl⟩ := x
          dsimp only at d0 d1 hrtl HSU HFS
          obtain ⟨aor, cr, rfl, -, -, -⟩ := hrtl.rows
          have HRTL := Lib.hid hrtl
          obtain ⟨wp, hwp⟩ : ∃ x, x = wr.alloc (.cells #[.string nm, .slice aor rl.length cr] 49) := ⟨_, rfl⟩
          have xp : Ext wr wp := by rw [hwp]; exact Ext.alloc _ _
          have hpb : Blk wp wr.heap.size #[.string nm, .slice aor rl.length cr] 49 := by rw [hwp]; exact Blk.made _ _ _
          have HPB0 := Lib.hid hpb
          have pb := hpb.cells
          have HXP := Lib.hid (show Ext w wp from hxw.trans xp)
          have HBP := Lib.hid (HBX.out.keep (Below.kept xp fun b hb => hb.1) (xp.block _ HBX.out.box.lt))
          have HEP := Lib.hid (show Below rp wb wp from HBE.out.trans (Below.mono xp (by have := HBX.out.box.lt; omega)))
          have HIX := Lib.hid (tyIdx_any ts _ nm wp (HT.out.up HXP.out))
          have mb := (show Blk wp w.heap.size #[.slice aot ts.length ct] 24 from (HEP.out.block _ (by have := HRP.out; omega)).trans HA.out).cells
          clear hxw hrtl xp hpb HBX HBE HXW
          subst hwp
          go_wp2_with fail
          refine HIX.out.mono ?_
          rintro e w2 ⟨k, rfl, hk, hb2⟩
          have HPB := Lib.hid (HPB0.out.below hb2).cells
          have HB2 := Lib.hid (HBP.out.keep (Below.kept hb2 fun b hb => hb.1) (hb2.block _ HBP.out.box.lt))
          have HX2 := Lib.hid (show Ext w w2 from HXP.out.trans hb2)
          have HE2 := Lib.hid (show Below rp wb w2 from HEP.out.trans (Below.mono hb2 (by have := HBP.out.box.lt; omega)))
          have HP2 := Lib.hid (show (∀ g, Value.ownBlock (.slice aov kv cv) = some g → g < wr.heap.size) ∧ True ∧ wr.heap.size < w2.heap.size from ⟨fun g e => (HPO.out g e).2, trivial, (HPB0.out.below hb2).lt⟩)
          generalize wr.alloc (.cells #[.string nm, .slice aor rl.length cr] 49) = wp at *
          clear HIX HBP HEP HXP HPB0 hb2 pb mb d0 d1
          rcases idx_typ (uq_names HU1.out) hk with ⟨j, hj, rfl, hlk⟩ | ⟨rfl, hlk⟩
          · have HFX := Lib.hid (show ¬ ((typF ts nm).isNone = true) from by rw [hlk]; simp)
            have hge : ¬ ((j : Int) < 0) := by omega
            clear hk hlk
            go_wp2_with fail
            go_roundw
            case rel => exact ⟨i + 1, q, _, by omega, by go_num, by rw [HQ.out, HFS.out, if_neg HFX.out, List.append_nil], HB2.out, HE2.out, HX2.out⟩
            case measure => simp [intOf]; omega
          · have HFX := Lib.hid (show (typF ts nm).isNone = true from by rw [hlk]; rfl)
            clear hk hlk
            go_wp2_with fail
            obtain ⟨wd, hwd⟩ : ∃ wd, wd = w2.drew := ⟨_, rfl⟩
            have X2d : Ext w2 wd := by rw [hwd]; exact Ext.drew w2
            have HBd := Lib.hid (HB2.out.keep (Below.kept X2d fun b hb => hb.1) (X2d.block _ HB2.out.box.lt))
            have HXd := Lib.hid (show Ext w wd from HX2.out.trans X2d)
            have HEd := Lib.hid (show Below rp wb wd from HE2.out.trans (Below.mono X2d (by have := HB2.out.box.lt; omega)))
            have HPd := Lib.hid (show ∀ g, Value.ownBlock (.slice aov kv cv) = some g → rp + 1 ≤ g ∧ g < wd.heap.size from HBd.out.row.block)
            have HZd := Lib.hid (show rp + 1 ≤ wd.heap.size from HBd.out.box.lt)
            have HD2 := Lib.hid (show w2.heap.size ≤ wd.heap.size from X2d.size)
            have HCP := Lib.hid (merged_any nm nm [] rl (.slice none 0 0) _ wd ⟨[], rfl, by simp, Sl.nil _ _ _⟩ (HRTL.out.up HXd.out) List.nodup_nil HSU.out.1 HSU.out.2.2 (by simp) (Nat.le_trans HSU.out.2.1 HK2.out.lr))
            refine region_walkL 10 (Kept (fun b => b < wd.heap.size ∧ Value.ownBlock (.slice aov kv cv) ≠ some b) wd) (by rw [← hwd]; exact Kept.refl _ _) (by kernel_rfl) (by kernel_rfl) (fun _ _ d _ _ h => by cases d <;> exact h) ?_
            rw [← hwd]
            have hov : ∀ W, Kept (fun b => b < wd.heap.size ∧ Value.ownBlock (.slice aov kv cv) ≠ some b) wd W → W.cell? ⟨rp, 0, none⟩ = some (.slice aov kv cv) := fun W h => Kept.cellq h ⟨HBd.out.box.lt, fun e => by have := (HPd.out _ e).1; dsimp only at this; omega⟩ (HBd.out.box.cells 0)
            have h80 : ∀ W, Kept (fun b => b < wd.heap.size ∧ Value.ownBlock (.slice aov kv cv) ≠ some b) wd W → W.cell? ⟨wr.heap.size, 0, none⟩ = some (.string nm) := fun W h => Kept.cellq h ⟨Nat.lt_of_lt_of_le HP2.out.2.2 HD2.out, fun e => by have := HP2.out.1 _ e; dsimp only at this; omega⟩ (X2d.cell (a := ⟨wr.heap.size, 0, none⟩) (HPB.out 0))
            have h81 : ∀ W, Kept (fun b => b < wd.heap.size ∧ Value.ownBlock (.slice aov kv cv) ≠ some b) wd W → W.cell? ⟨wr.heap.size, 1, none⟩ = some (.slice aor rl.length cr) := fun W h => Kept.cellq h ⟨Nat.lt_of_lt_of_le HP2.out.2.2 HD2.out, fun e => by have := HP2.out.1 _ e; dsimp only at this; omega⟩ (X2d.cell (a := ⟨wr.heap.size, 1, none⟩) (HPB.out 1))

            clear hwd X2d
            ((refine WalkL.take 0 _ ?_ (by simp only [List.getElem?_toArray, List.getElem?_cons_zero]; rfl) (by kernel_rfl) (by kernel_rfl) (by kernel_rfl) (by rfl) (fun W hW => ?_) ?_; rotate_left; · (go_simp; try with_reducible rfl)); simp only [Act.put, List.setIfInBounds_toArray, List.set_cons_zero, List.set_cons_succ]); ((refine WalkL.take 1 _ ?_ (by simp only [List.getElem?_toArray, List.getElem?_cons_succ, List.getElem?_cons_zero]; rfl) (by kernel_rfl) (by kernel_rfl) (by kernel_rfl) (by rfl) (fun W hW => ?_) ?_; rotate_left; · (go_simp; try with_reducible rfl)); simp only [Act.put, List.setIfInBounds_toArray, List.set_cons_zero, List.set_cons_succ]); ((refine WalkL.take 2 _ ?_ (by simp only [List.getElem?_toArray, List.getElem?_cons_succ, List.getElem?_cons_zero]; rfl) (by kernel_rfl) (by kernel_rfl) (by kernel_rfl) (by rfl) (fun W hW => ?_) ?_; rotate_left; · (go_simp; try with_reducible rfl)); simp only [Act.put, List.setIfInBounds_toArray, List.set_cons_zero, List.set_cons_succ]); ((refine WalkL.take 3 _ ?_ (by simp only [List.getElem?_toArray, List.getElem?_cons_succ, List.getElem?_cons_zero]; rfl) (by kernel_rfl) (by kernel_rfl) (by kernel_rfl) (by rfl) (fun W hW => ?_) ?_; rotate_left; · (go_simp; try with_reducible rfl)); simp only [Act.put, List.setIfInBounds_toArray, List.set_cons_zero, List.set_cons_succ]); ((refine WalkL.take 4 _ ?_ (by simp only [List.getElem?_toArray, List.getElem?_cons_succ, List.getElem?_cons_zero]; rfl) (by kernel_rfl) (by kernel_rfl) (by kernel_rfl) (by rfl) (fun W hW => ?_) ?_; rotate_left; · (go_simp; try with_reducible rfl)); simp only [Act.put, List.setIfInBounds_toArray, List.set_cons_zero, List.set_cons_succ]); ((refine WalkL.take 5 _ ?_ (by simp only [List.getElem?_toArray, List.getElem?_cons_succ, List.getElem?_cons_zero]; rfl) (by kernel_rfl) (by kernel_rfl) (by kernel_rfl) (by rfl) (fun W hW => ?_) ?_; rotate_left; · (go_simp; try with_reducible rfl)); simp only [Act.put, List.setIfInBounds_toArray, List.set_cons_zero, List.set_cons_succ])
            refine WalkL.one 6 (by kernel_rfl) ?_
            refine ⟨_, (by simp only [List.getElem?_toArray, List.getElem?_cons_succ, List.getElem?_cons_zero]; rfl), by rfl, fun K hK => ?_⟩
            go_simp
            refine HCP.out.mono ?_
            rintro e w5 ⟨v5, rfl, hat5, hb5⟩
            have hk5 : Kept (fun b => b < wd.heap.size ∧ Value.ownBlock (.slice aov kv cv) ≠ some b) wd w5 := Below.kept hb5 fun b hb => hb.1
            refine hK.out _ _ hk5 ?_
            clear hK
            obtain ⟨ao5, n5, c5, rfl⟩ : ∃ ao n c, v5 = Value.slice ao n c := by
              obtain ⟨ao5, c5, e, -⟩ := hat5.rows
              exact ⟨ao5, _, c5, e⟩
            have HB5 := Lib.hid (HBd.out.keep (Below.kept hb5 fun b hb => hb.1) (hb5.block _ HBd.out.box.lt))
            have HX5 := Lib.hid (show Ext w w5 from HXd.out.trans hb5)
            have HE5 := Lib.hid (show Below rp wb w5 from HEd.out.trans (Below.mono hb5 (by have := HZd.out; omega)))
            have HAT := Lib.hid hat5
            have HZ5 := Lib.hid (show wd.heap.size ≤ w5.heap.size from hb5.size)
            clear hat5 hb5 HCP
            refine WalkL.one 7 (by kernel_rfl) ?_
            refine ⟨_, (by simp only [List.getElem?_toArray, List.getElem?_cons_succ, List.getElem?_cons_zero]; rfl), by rfl, fun K hK => ?_⟩
            go_simp
            have X6 := Lib.hid (Ext.alloc w5 (.cells #[.string nm, .slice ao5 n5 c5] 49))
            have hk6 := hk5.trans (Below.kept X6.out fun b (hb : b < wd.heap.size ∧ Value.ownBlock (.slice aov kv cv) ≠ some b) => Nat.lt_of_lt_of_le hb.1 HZ5.out)
            refine hK.out _ _ hk6 ?_
            clear hK
            refine WalkL.one 8 (by kernel_rfl) ?_
            refine ⟨_, (by simp only [List.getElem?_toArray, List.getElem?_cons_succ, List.getElem?_cons_zero]; rfl), by rfl, fun K hK => ?_⟩
            refine wp_ownw tysT (.tmp 75) (.tmp 81) rfl rfl (HB5.out.row.below X6.out) rfl (m := 1) (news := [.string nm, .slice ao5 n5 c5]) rfl (fun j u hu => ?_) (by simp [Value.oneCell']) (by have := HLQ.out; rw [flat_length tyC_length]; simp; omega) (by have := HLQ.out; rw [flat_length tyC_length]; simp; omega) (by have := HZd.out; have := HZ5.out; simp; omega) (fun v7 w7 hown7 hb7 hgr7 => ?_)
            · rw [Addr.add_lit, cell_of_row _ w5.heap.size (0 + j) #[.string nm, .slice ao5 n5 c5] 49 (0, 0) (heap_alloc_new w5 _)]
              simpa using hu
            have hk57 : ∀ b, b < w5.heap.size → Value.ownBlock (.slice aov kv cv) ≠ some b → w7.heap[b]? = w5.heap[b]? := fun b h1 h2 => (hgr7.block b (Nat.lt_of_lt_of_le h1 X6.out.size) (fun e => h2 e.symm)).trans (X6.out.block b h1)
            have hz57 : w5.heap.size ≤ w7.heap.size := Nat.le_trans X6.out.size hgr7.size
            have hk57' : Kept (fun b => b < w5.heap.size ∧ Value.ownBlock (.slice aov kv cv) ≠ some b) w5 w7 := ⟨hgr7.os.trans X6.out.os, hgr7.tape.trans X6.out.tape, hgr7.output.trans X6.out.output, hz57, fun b hb => hk57 b hb.1 hb.2⟩
            have hk7 := hk5.trans (hk57'.mono fun b (hb : b < wd.heap.size ∧ Value.ownBlock (.slice aov kv cv) ≠ some b) => ⟨Nat.lt_of_lt_of_le hb.1 HZ5.out, hb.2⟩)
            refine hK.out _ _ hk7 ?_
            clear hK
            simp only [Act.put, List.setIfInBounds_toArray, List.set_cons_zero, List.set_cons_succ]
            have HADD := Lib.hid (HB5.out.add (n0 := wd.heap.size) (x := ((⟨nm, mrgR [] rl⟩ : TyS), .slice ao5 n5 c5)) (Nat.lt_succ_self _) hk57 hz57 hown7 (fun g hg => (hb7 g hg).imp id (fun h => Nat.le_trans X6.out.size h)) HAT.out HZd.out (fun g hg => (HPd.out g hg).2))
            have HLOW := Lib.hid (show Below rp wb (w7.setCell ⟨rp, 0, none⟩ v7) from (HE5.out.trans (hk57'.below fun b hb => ⟨by have := HZd.out; have := HZ5.out; omega, fun e => by have := (HPd.out _ e).1; omega⟩)).setCell (Nat.le_refl _) _)
            have HLX := Lib.hid (show Below w.heap.size w (w7.setCell ⟨rp, 0, none⟩ v7) from (Below.trans HX5.out (hk57'.below fun b (hb : b < w.heap.size) => ⟨by have := HZd.out; have := HZ5.out; have := HRP.out; omega, fun e => by have := (HPd.out _ e).1; have := HRP.out; omega⟩)).setCell (by have := HRP.out; show w.heap.size ≤ rp; omega) _)
            have hrp7 : Blk w7 rp #[.slice aov kv cv] 24 := (hk57 _ HB5.out.box.lt (fun e => by have := (HPd.out _ e).1; omega)).trans HB5.out.box
            obtain ⟨ao7, k7, c7, rfl, -, -, -⟩ := hown7.sl.len
            have f7 := hrp7.free
            have g7 := hrp7.cells 0
            clear hk5 hk6 hk57 hz57 hk57' hown7 hb7 hgr7 hrp7 X6 hov
            ((refine WalkL.take 9 _ ?_ (by simp only [List.getElem?_toArray, List.getElem?_cons_succ, List.getElem?_cons_zero]; rfl) (by kernel_rfl) (by kernel_rfl) (by kernel_rfl) (by rfl) (fun W hW => ?_) ?_; rotate_left; · (go_simp; try with_reducible rfl)); simp only [Act.put, List.setIfInBounds_toArray, List.set_cons_zero, List.set_cons_succ])
            refine WalkL.last (by kernel_rfl) (by kernel_rfl) ?_
            refine ⟨_, (by simp only [List.getElem?_toArray, List.getElem?_cons_succ, List.getElem?_cons_zero]; rfl), by rfl, fun K hK => ?_⟩
            go_simp
            refine hK.out _ _ ?_
            clear hK hk7 f7 g7 HBd HXd HEd HPd HZd HB5 HX5 HE5 HAT HZ5
            generalize w7.setCell ⟨rp, 0, none⟩ (.slice ao7 k7 c7) = w8 at *
            go_wp2_with fail

            go_roundw
            case rel => exact ⟨i + 1, _, _, by omega, by go_num, by rw [List.map_append, HQ.out, HFS.out, if_pos HFX.out, List.append_assoc, mrg_nil]; rfl, HADD.out, HLOW.out, HLX.out⟩
            case measure => simp [intOf]; omega
        · obtain rfl : i = us.length := by omega
          clear hxw
          rw [List.take_length] at HQ
          have ob := HBX.out.box.cells 0
          have hrb : Blk wr (w.heap.size + 1 + 1) #[.slice none 0 0] 24 := (HBE.out.block _ (by have := HRP.out; omega)).trans HR.out
          have HRB := Lib.hid hrb
          have rb := hrb.cells
          have rf := hrb.free
          clear hrb
          go_wp2_with fail
          clear ob rb rf
          have hks : Kept (fun b => b ≠ w.heap.size + 1 + 1) wr (wr.setCell ⟨w.heap.size + 1 + 1, 0, none⟩ (.slice aov kv cv)) := (Kept.refl _ wr).set (a := ⟨w.heap.size + 1 + 1, 0, none⟩) (fun h => h rfl) _
          refine bodyPost_ret (v := .tuple #[.agg #[.slice aov kv cv], .int .i64 0]) ?_ rfl ⟨.slice aov kv cv, rfl, ⟨q, HQ.out, fun x hx => ?_, ?_⟩, Below.trans HXW.out (hks.below fun b (hb : b < w.heap.size) => (by show b ≠ w.heap.size + 1 + 1; omega))⟩
          · rw [results_cell_tmp rfl]
            have hl := run_loadVar_row (P := Try.prog) _ (w.heap.size + 1 + 1) _ 24 _ _ _ (HRB.out.set_to (cs' := #[.slice aov kv cv]) 0 (.slice aov kv cv) rfl) Try.underlying24 rfl (by kernel_rfl)
            simp [asAddr, hl, Result.andThen]
          · exact (ElT.mono (ElT.same (HBX.out.parts x hx) fun b hb => hks.block b (by have := hb.1.1; have := HRP.out; show b ≠ w.heap.size + 1 + 1; omega)) fun b hb => ⟨by have := hb.1.1; have := HRP.out; omega, Nat.lt_of_lt_of_le hb.1.2 hks.size⟩)
          · exact (HBX.out.row.sl.same fun b hb => hks.block b (by have := hb.1; have := HRP.out; show b ≠ w.heap.size + 1 + 1; omega)).mono fun b hb => ⟨by have := hb.1; have := HRP.out; omega, Nat.lt_of_lt_of_le hb.2 hks.size⟩

end Go.Proofs.Ytipddhcfcehcaaa
