/- Lemmas for the claim, no condition. -/
import Derived.Test.YtjdigpfipmckhaaYRcMost18
import Derived.Test.YtjdigpfipmckhaaYRcMost4
import Derived.Test.YtjdigpfipmckhaaYRcMost0
import Derived.Test.YtjdigpfipmckhaaYRcMost5
import Derived.Test.YtjdigpfipmckhaaYRcMost2
import Derived.Test.YtjdigpfipmckhaaYRcMost6
import Derived.Test.YtjdigpfipmckhaaYRcMost3
import Derived.Test.YtjdigpfipmckhaaYRcMost1
import Derived.Test.YtjdigpfipmckhaaYRcMost16
import Derived.Test.YtjdigpfipmckhaaYRcMost8
namespace Go.Proofs.Ytjdigpfipmckhaa
open Go Go.RowKit Go.Maps
set_option maxRecDepth 100000 in
set_option maxHeartbeats 1000000 in
theorem walkE_any (ts : List TyS) (tv fv sv pv mv : Value) (w : World) (hpv : ∃ p : P3, pv = pV p) (h : TysAt (· < w.heap.size) w ts tv) (hok : ∀ t ∈ ts, t.Ok) (hc : chk06 ts ≠ 0) (hsB : schB ts ≤ 549755813888) (hsz : ∀ t ∈ ts, ∀ r ∈ t.rels, r.2.sz ≤ 1000000) (hln : (namesOf ts).length ≤ 1099511627776) (hlr : (refsOf ts).length ≤ 1099511627776) :
    Calls Try.prog 10 #[.agg #[tv], fv, sv, pv, mv] w fun e w' => Ext w w' ∧ e = .returned (.tuple #[.agg #[.slice none 0 0, .slice none 0 0], .int .i64 (chk06 ts)]) := by
  obtain ⟨p, rfl⟩ := hpv
  obtain ⟨ao, c, rfl, -⟩ := h.rows
  obtain ⟨wa, hwa⟩ : ∃ x, x = w.alloc (.cells #[.slice ao ts.length c] 29) := ⟨_, rfl⟩
  obtain ⟨wb, hwb⟩ : ∃ x, x = wa.alloc (.cells #[.string p.t, .string p.i, .string p.r] 36) := ⟨_, rfl⟩
  obtain ⟨wc, hwc⟩ : ∃ x, x = wb.alloc (.cells #[.slice none 0 0, .slice none 0 0] 41) := ⟨_, rfl⟩
  have ea : wa.heap.size = w.heap.size + 1 := by rw [hwa]; simp
  have eb : wb.heap.size = w.heap.size + 2 := by rw [hwb]; simp [ea]
  have ec : wc.heap.size = w.heap.size + 3 := by rw [hwc]; simp [eb]
  have xa : Ext w wa := by rw [hwa]; exact Ext.alloc _ _
  have xb : Ext wa wb := by rw [hwb]; exact Ext.alloc _ _
  have xc : Ext wb wc := by rw [hwc]; exact Ext.alloc _ _
  have XC := Lib.hid (show Ext w wc from xa.trans (xb.trans xc))
  have CZ := Lib.hid ec
  have CS := Lib.hid (show Blk wc w.heap.size #[.slice ao ts.length c] 29 from Blk.below (by rw [hwa]; exact Blk.made _ _ _) (xb.trans xc))
  have CG := Lib.hid (show Blk wc (w.heap.size + 2) #[.slice none 0 0, .slice none 0 0] 41 from by rw [hwc, ← eb]; exact Blk.made _ _ _)
  have CT := Lib.hid (h.up XC.out)
  obtain ⟨q, hq, hq0⟩ : ∃ q, chk06 ts = q ∧ (q == 0) = false := ⟨_, rfl, by simpa using hc⟩
  have hq1 : (q != 0) = true := by simpa using hq0
  have HCK := Lib.hid (show Calls Try.prog 19 #[.agg #[.slice ao ts.length c]] wc fun e w' => e = .returned (.int .i64 q) ∧ Below wc.heap.size wc w' from by
    have h1 := checkP_any ts (.slice ao ts.length c) wc CT.out hok hsB hsz hln hlr
    rw [hq] at h1
    exact h1)
  rw [hq]
  clear h hok hc hsB hsz hln hlr ea eb ec xa xb xc hq
  subst hwc hwb hwa
  have cs0 := CS.out.cells
  unfold pV
  go_enter Try.func10, Try.ntmps10
  go_wp2_with fail
  refine HCK.out.mono ?_
  rintro e w2 ⟨rfl, hx2⟩
  have X2 := Lib.hid (show Ext w w2 from XC.out.trans hx2)
  have G2 := (CG.out.below hx2)
  have cg := G2.cells
  have cf := G2.free
  clear cs0 HCK hx2 XC CZ CS CG CT
  go_wp2
  have XE : Ext w ((w2.setCell ⟨w.heap.size + 2, 0, none⟩ (.slice none 0 0)).setCell ⟨w.heap.size + 2, 1, none⟩ (.slice none 0 0)) := ((X2.out : Below w.heap.size w w2).setCell (p := ⟨w.heap.size + 2, 0, none⟩) (by show w.heap.size ≤ w.heap.size + 2; omega) _).setCell (p := ⟨w.heap.size + 2, 1, none⟩) (by show w.heap.size ≤ w.heap.size + 2; omega) _
  have GE := (G2.set_to (cs' := #[.slice none 0 0, .slice none 0 0]) 0 (.slice none 0 0) rfl).set_to (cs' := #[.slice none 0 0, .slice none 0 0]) 1 (.slice none 0 0) rfl
  refine bodyPost_ret (v := .tuple #[.agg #[.slice none 0 0, .slice none 0 0], .int .i64 q]) ?_ rfl ⟨XE, rfl⟩
  rw [results_cell_tmp rfl]
  have hl := run_loadVar_row (P := Try.prog) _ (w.heap.size + 2) _ 41 _ _ _ GE Try.underlying41 rfl (by kernel_rfl)
  simp [asAddr, hl, Result.andThen]
set_option maxRecDepth 100000 in
set_option maxHeartbeats 1000000 in
theorem walkF_any (ts : List TyS) (tv sv pv mv : Value) (w : World) (hpv : ∃ p : P3, pv = pV p) (h : TysAt (· < w.heap.size) w ts tv) (hok : ∀ t ∈ ts, t.Ok) (hc : chk06 ts = 0) (hsB : schB ts ≤ 549755813888) (hsz : ∀ t ∈ ts, ∀ r ∈ t.rels, r.2.sz ≤ 1000000) (hln : (namesOf ts).length ≤ 1099511627776) (hlr : (refsOf ts).length ≤ 1099511627776) :
    Calls Try.prog 10 #[.agg #[tv], .nilIface, sv, pv, mv] w fun e w' => Ext w w' ∧ e = .returned (.tuple #[.agg #[.slice none 0 0, .slice none 0 0], .int .i64 1]) := by
  obtain ⟨p, rfl⟩ := hpv
  obtain ⟨ao, c, rfl, -⟩ := h.rows
  obtain ⟨wa, hwa⟩ : ∃ x, x = w.alloc (.cells #[.slice ao ts.length c] 29) := ⟨_, rfl⟩
  obtain ⟨wb, hwb⟩ : ∃ x, x = wa.alloc (.cells #[.string p.t, .string p.i, .string p.r] 36) := ⟨_, rfl⟩
  obtain ⟨wc, hwc⟩ : ∃ x, x = wb.alloc (.cells #[.slice none 0 0, .slice none 0 0] 41) := ⟨_, rfl⟩
  have ea : wa.heap.size = w.heap.size + 1 := by rw [hwa]; simp
  have eb : wb.heap.size = w.heap.size + 2 := by rw [hwb]; simp [ea]
  have ec : wc.heap.size = w.heap.size + 3 := by rw [hwc]; simp [eb]
  have xa : Ext w wa := by rw [hwa]; exact Ext.alloc _ _
  have xb : Ext wa wb := by rw [hwb]; exact Ext.alloc _ _
  have xc : Ext wb wc := by rw [hwc]; exact Ext.alloc _ _
  have XC := Lib.hid (show Ext w wc from xa.trans (xb.trans xc))
  have CZ := Lib.hid ec
  have CS := Lib.hid (show Blk wc w.heap.size #[.slice ao ts.length c] 29 from Blk.below (by rw [hwa]; exact Blk.made _ _ _) (xb.trans xc))
  have CG := Lib.hid (show Blk wc (w.heap.size + 2) #[.slice none 0 0, .slice none 0 0] 41 from by rw [hwc, ← eb]; exact Blk.made _ _ _)
  have CT := Lib.hid (h.up XC.out)
  have HCK := Lib.hid (show Calls Try.prog 19 #[.agg #[.slice ao ts.length c]] wc fun e w' => e = .returned (.int .i64 0) ∧ Below wc.heap.size wc w' from by
    have h1 := checkP_any ts (.slice ao ts.length c) wc CT.out hok hsB hsz hln hlr
    rw [hc] at h1
    exact h1)
  clear h hok hc hsB hsz hln hlr ea eb ec xa xb xc
  subst hwc hwb hwa
  have cs0 := CS.out.cells
  unfold pV
  have hq : ∀ W, (binOp BinOp.eql 73 .nilIface .nilIface).run Try.prog W = .ok (.bool true) W := fun _ => by kernel_rfl
  go_enter Try.func10, Try.ntmps10
  go_wp2_with fail
  refine HCK.out.mono ?_
  rintro e w2 ⟨rfl, hx2⟩
  have X2 := Lib.hid (show Ext w w2 from XC.out.trans hx2)
  have G2 := (CG.out.below hx2)
  have cg := G2.cells
  have cf := G2.free
  clear cs0 HCK hx2 XC CZ CS CG CT
  go_wp2
  have XE : Ext w ((w2.setCell ⟨w.heap.size + 2, 0, none⟩ (.slice none 0 0)).setCell ⟨w.heap.size + 2, 1, none⟩ (.slice none 0 0)) := ((X2.out : Below w.heap.size w w2).setCell (p := ⟨w.heap.size + 2, 0, none⟩) (by show w.heap.size ≤ w.heap.size + 2; omega) _).setCell (p := ⟨w.heap.size + 2, 1, none⟩) (by show w.heap.size ≤ w.heap.size + 2; omega) _
  have GE := (G2.set_to (cs' := #[.slice none 0 0, .slice none 0 0]) 0 (.slice none 0 0) rfl).set_to (cs' := #[.slice none 0 0, .slice none 0 0]) 1 (.slice none 0 0) rfl
  refine bodyPost_ret (v := .tuple #[.agg #[.slice none 0 0, .slice none 0 0], .int .i64 1]) ?_ rfl ⟨XE, rfl⟩
  rw [results_cell_tmp rfl]
  have hl := run_loadVar_row (P := Try.prog) _ (w.heap.size + 2) _ 41 _ _ _ GE Try.underlying41 rfl (by kernel_rfl)
  simp [asAddr, hl, Result.andThen]
end Go.Proofs.Ytjdigpfipmckhaa
namespace Go.Proofs.Ytjdigpfipmckhaa
open Go Go.RowKit Go.Maps
def tuC (t : Tup) : List Value := [.string t.o.t, .string t.o.i, .string t.o.r, .string t.s.t, .string t.s.i, .string t.s.r]
def tuCs (l : List Tup) : List Value := l.flatMap tuC
theorem tuC_length (t : Tup) : (tuC t).length = 6 := rfl
theorem tuCs_length (l : List Tup) : (tuCs l).length = l.length * 6 := flat_length tuC_length l
theorem tuCs_append (a b : List Tup) : tuCs (a ++ b) = tuCs a ++ tuCs b := by unfold tuCs; rw [List.flatMap_append]
theorem tupT : ElemT Try.prog 31 55 6 96 := ElemT.mk' Try.underlying31 (show _ = some (some (.agg #[.string ByteArray.empty, .string ByteArray.empty, .string ByteArray.empty, .string ByteArray.empty, .string ByteArray.empty, .string ByteArray.empty]), 6, 96) by kernel_rfl) rfl (by decide)
theorem tups_rows {S : Nat → Prop} {w : World} {v : Value} {l : List Tup} (h : Sl S w 6 v (tuCs l)) :
    ∃ ao c, v = .slice ao l.length c ∧ l.length ≤ c ∧ c ≤ 9223372036854775807 ∧ ∀ i (hi : i < l.length), ∃ b off, ao = some ⟨b, off, none⟩ ∧ S b ∧ w.cell? ⟨b, off + i * 6, none⟩ = some (.string l[i].o.t) ∧ w.cell? ⟨b, off + i * 6 + 1, none⟩ = some (.string l[i].o.i) ∧ w.cell? ⟨b, off + i * 6 + 2, none⟩ = some (.string l[i].o.r) ∧
      w.cell? ⟨b, off + i * 6 + 3, none⟩ = some (.string l[i].s.t) ∧ w.cell? ⟨b, off + i * 6 + 4, none⟩ = some (.string l[i].s.i) ∧ w.cell? ⟨b, off + i * 6 + 5, none⟩ = some (.string l[i].s.r) := by
  obtain ⟨ao, c, rfl, h1, h2, hc⟩ := Sl.rows tuC_length (by decide) (show Sl S w 6 v (l.flatMap tuC) from h)
  refine ⟨ao, c, rfl, h1, h2, fun i hi => ?_⟩
  obtain ⟨b, off, rfl, hb, hc⟩ := hc (by omega)
  exact ⟨b, off, rfl, hb, hc i hi 0 _ rfl, hc i hi 1 _ rfl, hc i hi 2 _ rfl, hc i hi 3 _ rfl, hc i hi 4 _ rfl, hc i hi 5 _ rfl⟩
theorem tup_neq (a b : Tup) (W : World) : (binOp BinOp.neq 55 (tV a) (tV b)).run Try.prog W = .ok (.bool (decide (a ≠ b))) W := by
  obtain ⟨⟨a1, a2, a3⟩, ⟨a4, a5, a6⟩⟩ := a
  obtain ⟨⟨b1, b2, b3⟩, ⟨b4, b5, b6⟩⟩ := b
  unfold tV
  dsimp only
  go_simp
  simp only [ba_toList]
  by_cases h1 : a1 = b1
  · by_cases h2 : a2 = b2
    · by_cases h3 : a3 = b3
      · by_cases h4 : a4 = b4
        · by_cases h5 : a5 = b5
          · by_cases h6 : a6 = b6 <;> simp [h1, h2, h3, h4, h5, h6]
          · simp [h1, h2, h3, h4, h5]
        · simp [h1, h2, h3, h4]
      · simp [h1, h2, h3]
    · simp [h1, h2]
  · simp [h1]
end Go.Proofs.Ytjdigpfipmckhaa
namespace Go.Proofs.Ytjdigpfipmckhaa
open Go Go.RowKit Go.Maps
theorem p3_neq (a b : P3) (W : World) : (binOp BinOp.neq 36 (pV a) (pV b)).run Try.prog W = .ok (.bool (decide (a ≠ b))) W := by
  obtain ⟨a1, a2, a3⟩ := a
  obtain ⟨b1, b2, b3⟩ := b
  unfold pV
  dsimp only
  go_simp
  simp only [ba_toList]
  by_cases h1 : a1 = b1 <;> by_cases h2 : a2 = b2 <;> by_cases h3 : a3 = b3 <;> simp [h1, h2, h3]
theorem p3_eql (a b : P3) (W : World) : (binOp BinOp.eql 36 (pV a) (pV b)).run Try.prog W = .ok (.bool (decide (a = b))) W := by
  obtain ⟨a1, a2, a3⟩ := a
  obtain ⟨b1, b2, b3⟩ := b
  unfold pV
  dsimp only
  go_simp
  simp only [ba_toList]
  by_cases h1 : a1 = b1 <;> by_cases h2 : a2 = b2 <;> by_cases h3 : a3 = b3 <;> simp [h1, h2, h3]
set_option maxRecDepth 100000 in
set_option maxHeartbeats 2000000 in
theorem sameS_any (v1 v2 : Value) (l : List P3) (w : World) (h1 : Sl (· < w.heap.size) w 3 v1 (pcs l)) (h2 : Sl (· < w.heap.size) w 3 v2 (pcs l)) : Calls Try.prog 47 #[v1, v2] w fun e w' => e = .returned (.bool true) ∧ Below w.heap.size w w' := by
  obtain ⟨ao, c, rfl, hlc, hcm, hc⟩ := Sl.rows pC_length (by decide) (show Sl _ w 3 v1 (List.flatMap pC l) from h1)
  obtain ⟨ao2, c2, rfl, hlc2, hcm2, hc2⟩ := Sl.rows pC_length (by decide) (show Sl _ w 3 v2 (List.flatMap pC l) from h2)
  have HC := Lib.hid hc
  have HC2 := Lib.hid hc2
  clear hc hc2 h1 h2
  go_enter Try.func47, Try.ntmps47
  go_wp2_with fail
  go_loopw [13] (fun ii wr => ∃ i : Nat, i ≤ l.length ∧ ii = .int .i64 i ∧ Below w.heap.size w wr) (fun ii _ => l.length - (intOf ii).toNat)
  case atStart => exact ⟨0, by omega, rfl, Below.refl _ _⟩
  case round =>
    obtain ⟨i, hi, rfl, hbel⟩ := hrel
    by_cases hlt : i < l.length
    · obtain ⟨b, off, rfl, hb, hc⟩ := HC.out (by omega)
      obtain ⟨b2, off2, rfl, hb2, hc2⟩ := HC2.out (by omega)
      have c0 := hc i hlt 0 _ rfl
      have c1 := hc i hlt 1 _ rfl
      have c2 := hc i hlt 2 _ rfl
      have e0 := hc2 i hlt 0 _ rfl
      have e1 := hc2 i hlt 1 _ rfl
      have e2 := hc2 i hlt 2 _ rfl
      clear hc hc2
      generalize l[i] = x at *
      obtain ⟨xt, xi, xr⟩ := x
      rw [Nat.add_zero] at c0 e0
      dsimp only at c0 c1 c2 e0 e1 e2
      go_wp2_with fail
      obtain ⟨wd, hwd⟩ : ∃ wd, wd = wr.drew := ⟨_, rfl⟩
      have hbd := hbel.drew
      rw [← hwd] at hbd
      refine region_walkN (Ext wd) (by rw [← hwd]; exact Ext.refl _) (by kernel_rfl) (by kernel_rfl) (fun _ _ d _ _ h => by cases d <;> exact h) ?_
      rw [← hwd]
      clear hwd hbel
      have g0 : ∀ W, Ext wd W → W.cell? ⟨b, off + i * 3, none⟩ = some (.string xt) := fun W h => ((Below.cell (hbd.trans (h.mono hbd.size)) (p := ⟨b, off + i * 3, none⟩) hb)).trans c0
      have g1 : ∀ W, Ext wd W → W.cell? ⟨b, off + i * 3 + 1, none⟩ = some (.string xi) := fun W h => ((Below.cell (hbd.trans (h.mono hbd.size)) (p := ⟨b, off + i * 3 + 1, none⟩) hb)).trans c1
      have g2 : ∀ W, Ext wd W → W.cell? ⟨b, off + i * 3 + 2, none⟩ = some (.string xr) := fun W h => ((Below.cell (hbd.trans (h.mono hbd.size)) (p := ⟨b, off + i * 3 + 2, none⟩) hb)).trans c2
      have k0 : ∀ W, Ext wd W → W.cell? ⟨b2, off2 + i * 3, none⟩ = some (.string xt) := fun W h => ((Below.cell (hbd.trans (h.mono hbd.size)) (p := ⟨b2, off2 + i * 3, none⟩) hb2)).trans e0
      have k1 : ∀ W, Ext wd W → W.cell? ⟨b2, off2 + i * 3 + 1, none⟩ = some (.string xi) := fun W h => ((Below.cell (hbd.trans (h.mono hbd.size)) (p := ⟨b2, off2 + i * 3 + 1, none⟩) hb2)).trans e1
      have k2 : ∀ W, Ext wd W → W.cell? ⟨b2, off2 + i * 3 + 2, none⟩ = some (.string xr) := fun W h => ((Below.cell (hbd.trans (h.mono hbd.size)) (p := ⟨b2, off2 + i * 3 + 2, none⟩) hb2)).trans e2
      (refine WalkN.tk [0, 1, 2, 3, 4, 5, 6, 7, 8] ?_; (iterate 9 ((refine TkN.c _ ?_ (by simp only [gtA, gtS, gtZ]; rfl) (by kernel_rfl) (by kernel_rfl) (by rfl) (fun W hW => ?_) ?_; rotate_left; · (go_simp; try with_reducible rfl)); simp only [Act.put, puA, puZ, puS])); refine TkN.n ?_)
      refine WalkN.done (by kernel_rfl) ?_
      clear c0 c1 c2 e0 e1 e2 g0 g1 g2 k0 k1 k2
      go_wp2_with fail
      go_roundw
      case rel => exact ⟨i + 1, by omega, by go_num, hbd⟩
      case measure => simp [intOf]; omega
    · obtain rfl : i = l.length := by omega
      go_wp2_with fail
      go_ret
      exact ⟨rfl, hbel⟩
set_option maxRecDepth 100000 in
set_option maxHeartbeats 2000000 in
theorem sameP_any (v1 v2 : Value) (l : List P3) (w : World) (h1 : Sl (· < w.heap.size) w 3 v1 (pcs l)) (h2 : Sl (· < w.heap.size) w 3 v2 (pcs l)) : Calls Try.prog 28 #[v1, v2] w fun e w' => e = .returned (.bool true) ∧ Below w.heap.size w w' := by
  obtain ⟨ao, c, rfl, hlc, hcm, hc⟩ := Sl.rows pC_length (by decide) (show Sl _ w 3 v1 (List.flatMap pC l) from h1)
  obtain ⟨ao2, c2, rfl, hlc2, hcm2, hc2⟩ := Sl.rows pC_length (by decide) (show Sl _ w 3 v2 (List.flatMap pC l) from h2)
  have HC := Lib.hid hc
  have HC2 := Lib.hid hc2
  clear hc hc2 h1 h2
  go_enter Try.func28, Try.ntmps28
  go_wp2_with fail
  go_loopw [13] (fun ii wr => ∃ i : Nat, i ≤ l.length ∧ ii = .int .i64 i ∧ Below w.heap.size w wr) (fun ii _ => l.length - (intOf ii).toNat)
  case atStart => exact ⟨0, by omega, rfl, Below.refl _ _⟩
  case round =>
    obtain ⟨i, hi, rfl, hbel⟩ := hrel
    by_cases hlt : i < l.length
    · obtain ⟨b, off, rfl, hb, hc⟩ := HC.out (by omega)
      obtain ⟨b2, off2, rfl, hb2, hc2⟩ := HC2.out (by omega)
      have c0 := hc i hlt 0 _ rfl
      have c1 := hc i hlt 1 _ rfl
      have c2 := hc i hlt 2 _ rfl
      have e0 := hc2 i hlt 0 _ rfl
      have e1 := hc2 i hlt 1 _ rfl
      have e2 := hc2 i hlt 2 _ rfl
      clear hc hc2
      generalize l[i] = x at *
      obtain ⟨xt, xi, xr⟩ := x
      rw [Nat.add_zero] at c0 e0
      dsimp only at c0 c1 c2 e0 e1 e2
      go_wp2_with fail
      obtain ⟨wd, hwd⟩ : ∃ wd, wd = wr.drew := ⟨_, rfl⟩
      have hbd := hbel.drew
      rw [← hwd] at hbd
      refine region_walkN (Ext wd) (by rw [← hwd]; exact Ext.refl _) (by kernel_rfl) (by kernel_rfl) (fun _ _ d _ _ h => by cases d <;> exact h) ?_
      rw [← hwd]
      clear hwd hbel
      have g0 : ∀ W, Ext wd W → W.cell? ⟨b, off + i * 3, none⟩ = some (.string xt) := fun W h => ((Below.cell (hbd.trans (h.mono hbd.size)) (p := ⟨b, off + i * 3, none⟩) hb)).trans c0
      have g1 : ∀ W, Ext wd W → W.cell? ⟨b, off + i * 3 + 1, none⟩ = some (.string xi) := fun W h => ((Below.cell (hbd.trans (h.mono hbd.size)) (p := ⟨b, off + i * 3 + 1, none⟩) hb)).trans c1
      have g2 : ∀ W, Ext wd W → W.cell? ⟨b, off + i * 3 + 2, none⟩ = some (.string xr) := fun W h => ((Below.cell (hbd.trans (h.mono hbd.size)) (p := ⟨b, off + i * 3 + 2, none⟩) hb)).trans c2
      have k0 : ∀ W, Ext wd W → W.cell? ⟨b2, off2 + i * 3, none⟩ = some (.string xt) := fun W h => ((Below.cell (hbd.trans (h.mono hbd.size)) (p := ⟨b2, off2 + i * 3, none⟩) hb2)).trans e0
      have k1 : ∀ W, Ext wd W → W.cell? ⟨b2, off2 + i * 3 + 1, none⟩ = some (.string xi) := fun W h => ((Below.cell (hbd.trans (h.mono hbd.size)) (p := ⟨b2, off2 + i * 3 + 1, none⟩) hb2)).trans e1
      have k2 : ∀ W, Ext wd W → W.cell? ⟨b2, off2 + i * 3 + 2, none⟩ = some (.string xr) := fun W h => ((Below.cell (hbd.trans (h.mono hbd.size)) (p := ⟨b2, off2 + i * 3 + 2, none⟩) hb2)).trans e2
      (refine WalkN.tk [0, 1, 2, 3, 4, 5, 6, 7, 8] ?_; (iterate 9 ((refine TkN.c _ ?_ (by simp only [gtA, gtS, gtZ]; rfl) (by kernel_rfl) (by kernel_rfl) (by rfl) (fun W hW => ?_) ?_; rotate_left; · (go_simp; try with_reducible rfl)); simp only [Act.put, puA, puZ, puS])); refine TkN.n ?_)
      refine WalkN.done (by kernel_rfl) ?_
      clear c0 c1 c2 e0 e1 e2 g0 g1 g2 k0 k1 k2
      go_wp2_with fail
      go_roundw
      case rel => exact ⟨i + 1, by omega, by go_num, hbd⟩
      case measure => simp [intOf]; omega
    · obtain rfl : i = l.length := by omega
      go_wp2_with fail
      go_ret
      exact ⟨rfl, hbel⟩
end Go.Proofs.Ytjdigpfipmckhaa
namespace Go.Proofs.Ytjdigpfipmckhaa
open Go Go.RowKit Go.Maps
theorem FTAt.shape {S : Nat → Prop} {w : World} {r : FT} {v : FV3} (h : FTAt S w r v) : ∃ a1 c1 a2 c2 a4 c4, v = (.slice a1 r.subs.length c1, .slice a2 r.refs.length c2, .slice a4 r.ps.length c4) := by
  obtain ⟨v1, v2, v4⟩ := v
  obtain ⟨h1, h2, -⟩ := (FTAt.iff _ _).1 h
  obtain ⟨a1, c1, e1, -⟩ := Sl.rows pC_length (by decide) (show Sl S w 3 v1 (r.subs.flatMap pC) from h1)
  obtain ⟨a2, n2, c2, e2, hn, -, -⟩ := h2.len
  obtain ⟨a4, c4, e4, -⟩ := h.rows
  rw [ic_length, Nat.mul_one] at hn
  dsimp only at e1 e2 e4
  subst e1 e2 e4
  rw [← hn]
  exact ⟨_, _, _, _, _, _, rfl⟩
theorem Sl.int_at {S : Nat → Prop} {w : World} {a : Option Addr} {n c : Nat} {l : List Int} (h : Sl S w 1 (.slice a n c) (ic l)) {i : Nat} (hi : i < l.length) : ∃ b off, a = some ⟨b, off, none⟩ ∧ S b ∧ w.cell? ⟨b, off + i, none⟩ = some (.int .i64 l[i]) := by
  obtain ⟨a1, n1, c1, hv, -, -, -, -, hcell⟩ := h
  cases hv
  obtain ⟨b, off, rfl, hb, hcell⟩ := hcell (by intro h; have := congrArg List.length h; rw [ic_length, List.length_nil] at this; omega)
  exact ⟨b, off, rfl, hb, hcell i _ (by simp [ic, List.getElem?_eq_getElem hi])⟩
set_option maxRecDepth 100000 in
set_option maxHeartbeats 4000000 in
theorem sameForm_any (r : FT) : ∀ (v v' : FV3) (w : World), FTAt (· < w.heap.size) w r v → FTAt (· < w.heap.size) w r v' →
    Calls Try.prog 29 #[fV r v, fV r v'] w fun e w' => e = .returned (.bool true) ∧ Ext w w' := by
  induction r using FT.ind with
  | h r ih =>
  intro v v' w h h'
  obtain ⟨a1, c1, a2, c2, a4, c4, rfl⟩ := h.shape
  obtain ⟨b1, d1, b2, d2, b4, d4, rfl⟩ := h'.shape
  obtain ⟨k, subs, refs, parts⟩ := r
  have HIH := Lib.hid ih
  have H1 := Lib.hid h
  have H2 := Lib.hid h'
  clear ih h h'
  unfold fV
  dsimp only [FT.k, FT.subs, FT.refs, FT.ps] at HIH H1 H2 ⊢
  obtain ⟨wa, hwa⟩ : ∃ x, x = w.alloc (.cells #[.int .i64 k, .slice a1 subs.length c1, .slice a2 refs.length c2, .slice a4 parts.length c4] 51) := ⟨_, rfl⟩
  obtain ⟨wb, hwb⟩ : ∃ x, x = wa.alloc (.cells #[.int .i64 k, .slice b1 subs.length d1, .slice b2 refs.length d2, .slice b4 parts.length d4] 51) := ⟨_, rfl⟩
  have ea : wa.heap.size = w.heap.size + 1 := by rw [hwa]; simp
  have xa : Ext w wa := by rw [hwa]; exact Ext.alloc _ _
  have xb : Ext wa wb := by rw [hwb]; exact Ext.alloc _ _
  have XB := Lib.hid (xa.trans xb)
  have BA := Lib.hid (show Blk wb w.heap.size #[.int .i64 k, .slice a1 subs.length c1, .slice a2 refs.length c2, .slice a4 parts.length c4] 51 from Blk.below (by rw [hwa]; exact Blk.made _ _ _) xb)
  have BB := Lib.hid (show Blk wb (w.heap.size + 1) #[.int .i64 k, .slice b1 subs.length d1, .slice b2 refs.length d2, .slice b4 parts.length d4] 51 from by rw [hwb, ← ea]; exact Blk.made _ _ _)
  have F1 := Lib.hid (fun W (hW : Ext w W) => (FTAt.iff _ _).1 (H1.out.up hW))
  have F2 := Lib.hid (fun W (hW : Ext w W) => (FTAt.iff _ _).1 (H2.out.up hW))
  clear ea xa xb
  subst hwb hwa
  have hA := BA.out.cells
  have hB := BB.out.cells
  go_enter Try.func29, Try.ntmps29
  go_wp2_with fail
  refine (sameS_any _ _ subs _ (F1.out _ XB.out).1 (F2.out _ XB.out).1).mono ?_
  rintro e w2 ⟨rfl, hx2⟩
  have X2 := Lib.hid (show Ext w w2 from XB.out.trans hx2)
  have A2 := Lib.hid (BA.out.below hx2)
  have B2 := Lib.hid (BB.out.below hx2)
  have hA2 := A2.out.cells
  have hB2 := B2.out.cells
  clear hx2 hA hB XB BA BB
  go_wp2_with fail
  clear hA2 hB2
  go_loopw [41] (fun iv wr => ∃ i : Nat, i ≤ refs.length ∧ iv = .int .i64 i ∧ Ext w2 wr) (fun iv _ => refs.length - (intOf iv).toNat)
  case atStart => exact ⟨0, Nat.zero_le _, rfl, Ext.refl _⟩
  case round =>
    obtain ⟨i, hi, rfl, hx⟩ := hrel
    have RX := Lib.hid hx
    clear hx
    by_cases hlt : i < refs.length
    · have HLT := Lib.hid hlt
      obtain ⟨p1, q1, rfl, hp1, -⟩ := Sl.int_at (F1.out wr (X2.out.trans RX.out)).2.1 hlt
      obtain ⟨p2, q2, rfl, hp2, -⟩ := Sl.int_at (F2.out wr (X2.out.trans RX.out)).2.1 hlt
      have hli : (i : Int) < (refs.length : Int) := by omega
      have hlm : refs.length ≤ 9223372036854775807 := by
        obtain ⟨_, n, c, he, h1, h2, h3⟩ := (F1.out wr (X2.out.trans RX.out)).2.1.len
        cases he
        omega
      have HWI := Lib.hid (show wrap64 ((i : Int) + 1) = ((i + 1 : Nat) : Int) from by unfold wrap64; omega)
      have G1 := Lib.hid (fun W (hW : Ext wr W) => show W.cell? ⟨p1, q1 + i, none⟩ = some (.int .i64 refs[i]) from by
        obtain ⟨b, off, he, -, hc⟩ := Sl.int_at (F1.out W (X2.out.trans (RX.out.trans hW))).2.1 hlt
        cases he
        exact hc)
      have G2 := Lib.hid (fun W (hW : Ext wr W) => show W.cell? ⟨p2, q2 + i, none⟩ = some (.int .i64 refs[i]) from by
        obtain ⟨b, off, he, -, hc⟩ := Sl.int_at (F2.out W (X2.out.trans (RX.out.trans hW))).2.1 hlt
        cases he
        exact hc)
      generalize refs[i] = x at *
      clear hlt hp1 hp2 hlm
      go_wp2_with fail
      obtain ⟨wd, hwd⟩ : ∃ z : World, z = World.drew wr := ⟨_, rfl⟩
      have DX := Lib.hid (show Ext wr wd from by rw [hwd]; exact Ext.drew _)
      refine region_walkN (Ext wd) (by rw [← hwd]; exact Ext.refl _) (by kernel_rfl) (by kernel_rfl) (fun _ _ d _ _ h => by cases d <;> exact h) ?_
      rw [← hwd]
      clear hwd
      have h1 := fun W (h : Ext wd W) => (A2.out.below (RX.out.trans (DX.out.trans h))).cells
      have h2 := fun W (h : Ext wd W) => (B2.out.below (RX.out.trans (DX.out.trans h))).cells
      have h3 := fun W (h : Ext wd W) => G1.out W (DX.out.trans h)
      have h4 := fun W (h : Ext wd W) => G2.out W (DX.out.trans h)
      (refine WalkN.tk [0, 1, 2, 3, 4, 5, 6, 7, 8, 9, 10] ?_; (iterate 11 ((refine TkN.c _ ?_ (by simp only [gtA, gtS, gtZ]; rfl) (by kernel_rfl) (by kernel_rfl) (by rfl) (fun W hW => ?_) ?_; rotate_left; · (go_simp; try with_reducible rfl)); simp only [Act.put, puA, puZ, puS])); refine TkN.n ?_)
      refine WalkN.done (by kernel_rfl) ?_
      clear h1 h2 h3 h4 hli
      have hxx : (x != x) = false := by simp
      go_wp2_with fail
      go_roundw
      case rel => exact ⟨i + 1, HLT.out, by first | rw [HWI.out] | go_num, RX.out.trans DX.out⟩
      case measure => have := HLT.out; (try rw [HWI.out]); simp [intOf]; omega
    · obtain rfl : i = refs.length := by omega
      have RA := Lib.hid (A2.out.below RX.out)
      have RB := Lib.hid (B2.out.below RX.out)
      have XR := Lib.hid (X2.out.trans RX.out)
      have hA := RA.out.cells
      have hB := RB.out.cells
      clear hlt hi A2 B2 X2 RX
      go_wp2_with fail
      clear hA hB
      obtain ⟨w4, hw4⟩ : ∃ y, y = wr := ⟨_, rfl⟩
      rw [← hw4] at RA RB XR ⊢
      clear hw4
      go_loopw [59] (fun iv wr => ∃ i : Nat, i ≤ parts.length ∧ iv = .int .i64 i ∧ Ext w4 wr) (fun iv _ => parts.length - (intOf iv).toNat)
      case atStart => exact ⟨0, Nat.zero_le _, rfl, Ext.refl _⟩
      case round =>
        obtain ⟨i, hi, rfl, hx⟩ := hrel
        have RX := Lib.hid hx
        clear hx
        by_cases hlt : i < parts.length
        · have HLT := Lib.hid hlt
          obtain ⟨ao1, g1, he1, hg1, hg2, hc1⟩ := (H1.out.up (XR.out.trans RX.out)).rows
          obtain ⟨ao2, g3, he2, hg3, hg4, hc2⟩ := (H2.out.up (XR.out.trans RX.out)).rows
          dsimp only [FT.ps] at he1 he2 hg1 hg2 hg3 hg4 hc1 hc2
          cases he1
          cases he2
          obtain ⟨p1, q1, u, rfl, hp1, e0, e1, e2, e3, hu⟩ := hc1 i hlt
          obtain ⟨p2, q2, u', rfl, hp2, f0, f1, f2, f3, hu'⟩ := hc2 i hlt
          have HII := Lib.hid (HIH.out parts[i] (List.getElem_mem hlt))
          have HWI := Lib.hid (show wrap64 ((i : Int) + 1) = ((i + 1 : Nat) : Int) from by unfold wrap64; omega)
          have hli : (i : Int) < (parts.length : Int) := by omega
          generalize parts[i] = x at *
          obtain ⟨l1, m1, l2, m2, l4, m4, rfl⟩ := hu.shape
          obtain ⟨n1, o1, n2, o2, n4, o4, rfl⟩ := hu'.shape
          have HU := Lib.hid hu
          have HU' := Lib.hid hu'
          dsimp only at e0 e1 e2 e3 f0 f1 f2 f3
          have HP := Lib.hid (And.intro hp1 hp2)
          clear hlt hc1 hc2 hu hu' hp1 hp2 hg1 hg2 hg3 hg4
          go_wp2_with fail
          obtain ⟨wd, hwd⟩ : ∃ z : World, z = World.drew wr := ⟨_, rfl⟩
          have DX := Lib.hid (show Ext wr wd from by rw [hwd]; exact Ext.drew _)
          refine region_walkN (Ext wd) (by rw [← hwd]; exact Ext.refl _) (by kernel_rfl) (by kernel_rfl) (fun _ _ d _ _ h => by cases d <;> exact h) ?_
          rw [← hwd]
          clear hwd
          have h1 := fun W (h : Ext wd W) => (RA.out.below (RX.out.trans (DX.out.trans h))).cells
          have h2 := fun W (h : Ext wd W) => (RB.out.below (RX.out.trans (DX.out.trans h))).cells
          have k0 := fun W (h : Ext wd W) => Ext.cell (DX.out.trans h) e0
          have k1 := fun W (h : Ext wd W) => Ext.cell (DX.out.trans h) e1
          have k2 := fun W (h : Ext wd W) => Ext.cell (DX.out.trans h) e2
          have k3 := fun W (h : Ext wd W) => Ext.cell (DX.out.trans h) e3
          have j0 := fun W (h : Ext wd W) => Ext.cell (DX.out.trans h) f0
          have j1 := fun W (h : Ext wd W) => Ext.cell (DX.out.trans h) f1
          have j2 := fun W (h : Ext wd W) => Ext.cell (DX.out.trans h) f2
          have j3 := fun W (h : Ext wd W) => Ext.cell (DX.out.trans h) f3
          (refine WalkN.tk [0, 1, 2, 3, 4, 5, 6, 7, 8, 9] ?_; (iterate 10 ((refine TkN.c _ ?_ (by simp only [gtA, gtS, gtZ]; rfl) (by kernel_rfl) (by kernel_rfl) (by rfl) (fun W hW => ?_) ?_; rotate_left; · (go_simp; try with_reducible rfl)); simp only [Act.put, puA, puZ, puS])); refine TkN.n ?_)
          clear h1 h2 k0 k1 k2 k3 j0 j1 j2 j3 e0 e1 e2 e3 f0 f1 f2 f3
          have HCL := Lib.hid (HII.out _ _ wd (HU.out.up DX.out) (HU'.out.up DX.out))
          unfold fV at HCL
          dsimp only at HCL
          refine WalkN.one 10 (by kernel_rfl) ?_
          refine ⟨_, (by simp only [gtA, gtS, gtZ]; rfl), by rfl, fun K hK => ?_⟩
          go_simp
          refine HCL.out.mono ?_
          rintro e w5 ⟨rfl, hx5⟩
          refine hK.out _ _ hx5 ?_
          clear hK HCL
          have X5 := Lib.hid (show Ext wr w5 from DX.out.trans hx5)
          clear hx5
          ((refine WalkN.take 11 _ ?_ (by simp only [gtA, gtS, gtZ]; rfl) (by kernel_rfl) (by kernel_rfl) (by rfl) (fun W hW => ?_) ?_; rotate_left; · (go_simp; try with_reducible rfl)); simp only [Act.put, puA, puZ, puS])
          refine WalkN.done (by kernel_rfl) ?_
          clear hli
          go_wp2_with fail
          go_roundw
          case rel => exact ⟨i + 1, HLT.out, by first | rw [HWI.out] | go_num, RX.out.trans X5.out⟩
          case measure => have := HLT.out; (try rw [HWI.out]); simp [intOf]; omega
        · obtain rfl : i = parts.length := by omega
          go_wp2_with fail
          go_ret
          exact ⟨rfl, XR.out.trans RX.out⟩
set_option maxRecDepth 100000 in
set_option maxHeartbeats 4000000 in
theorem sameG_any (ps : List P3) (fs : List FT) (pv fv pv' fv' : Value) (w : World) (h : GrAt (· < w.heap.size) w ps fs pv fv) (h' : GrAt (· < w.heap.size) w ps fs pv' fv') :
    Calls Try.prog 13 #[.agg #[pv, fv], .agg #[pv', fv']] w fun e w' => e = .returned (.bool true) ∧ Ext w w' := by
  have H1 := Lib.hid h
  have H2 := Lib.hid h'
  obtain ⟨hp, q, hq, hqa, hf⟩ := h
  obtain ⟨hp', q', hq', hqa', hf'⟩ := h'
  obtain ⟨a1, c1, rfl, hm1, hm2, -⟩ := Sl.rows pC_length (by decide) (show Sl _ w 3 pv (ps.flatMap pC) from hp)
  obtain ⟨b1, d1, rfl, hm3, hm4, -⟩ := Sl.rows pC_length (by decide) (show Sl _ w 3 pv' (ps.flatMap pC) from hp')
  obtain ⟨a2, c2, rfl, hn1, hn2, hcell⟩ := Sl.rows fC_length (by decide) hf
  obtain ⟨b2, d2, rfl, hn3, hn4, hcell'⟩ := Sl.rows fC_length (by decide) hf'
  have hl : q.length = fs.length := by rw [← hq, List.length_map]
  have hl' : q'.length = fs.length := by rw [← hq', List.length_map]
  rw [hl'] at hn3 H2 ⊢
  rw [hl] at hn1 H1 ⊢
  have HQ := Lib.hid (And.intro hq (And.intro hl hqa))
  have HQ' := Lib.hid (And.intro hq' (And.intro hl' hqa'))
  have HC := Lib.hid hcell
  have HC' := Lib.hid hcell'
  have HPS := Lib.hid (And.intro hp hp')
  have HFL := Lib.hid (show fs.length ≤ 9223372036854775807 from by omega)
  obtain ⟨wa, hwa⟩ : ∃ x, x = w.alloc (.cells #[.slice a1 ps.length c1, .slice a2 fs.length c2] 41) := ⟨_, rfl⟩
  obtain ⟨wb, hwb⟩ : ∃ x, x = wa.alloc (.cells #[.slice b1 ps.length d1, .slice b2 fs.length d2] 41) := ⟨_, rfl⟩
  have ea : wa.heap.size = w.heap.size + 1 := by rw [hwa]; simp
  have xa : Ext w wa := by rw [hwa]; exact Ext.alloc _ _
  have xb : Ext wa wb := by rw [hwb]; exact Ext.alloc _ _
  have XB := Lib.hid (xa.trans xb)
  have BA := Lib.hid (show Blk wb w.heap.size #[.slice a1 ps.length c1, .slice a2 fs.length c2] 41 from Blk.below (by rw [hwa]; exact Blk.made _ _ _) xb)
  have BB := Lib.hid (show Blk wb (w.heap.size + 1) #[.slice b1 ps.length d1, .slice b2 fs.length d2] 41 from by rw [hwb, ← ea]; exact Blk.made _ _ _)
  clear ea xa xb hp hp' hq hq' hqa hqa' hf hf' hcell hcell' hl hl' H1 H2 hm1 hm2 hm3 hm4 hn1 hn2 hn3 hn4
  subst hwb hwa
  have hA := BA.out.cells
  have hB := BB.out.cells
  go_enter Try.func13, Try.ntmps13
  go_wp2_with fail
  refine (sameP_any _ _ ps _ ((HPS.out.1.same (Same.below XB.out)).mono fun _ h => Nat.lt_of_lt_of_le h XB.out.size) ((HPS.out.2.same (Same.below XB.out)).mono fun _ h => Nat.lt_of_lt_of_le h XB.out.size)).mono ?_
  rintro e w2 ⟨rfl, hx2⟩
  have X2 := Lib.hid (show Ext w w2 from XB.out.trans hx2)
  have A2 := Lib.hid (BA.out.below hx2)
  have B2 := Lib.hid (BB.out.below hx2)
  have hA2 := A2.out.cells
  have hB2 := B2.out.cells
  clear hx2 hA hB XB BA BB
  go_wp2_with fail
  clear hA2 hB2
  go_loopw [24] (fun iv wr => ∃ i : Nat, i ≤ fs.length ∧ iv = .int .i64 i ∧ Ext w2 wr) (fun iv _ => fs.length - (intOf iv).toNat)
  case atStart => exact ⟨0, Nat.zero_le _, rfl, Ext.refl _⟩
  case round =>
    obtain ⟨i, hi, rfl, hx⟩ := hrel
    have RX := Lib.hid hx
    clear hx
    by_cases hlt : i < fs.length
    · have HLT := Lib.hid hlt
      have hiq : i < q.length := by rw [HQ.out.2.1]; exact hlt
      have hiq' : i < q'.length := by rw [HQ'.out.2.1]; exact hlt
      obtain ⟨p1, q1, rfl, hp1, hc1⟩ := HC.out (by omega)
      obtain ⟨p2, q2, rfl, hp2, hc2⟩ := HC'.out (by omega)
      have g1 : (q[i]).1 = fs[i] := by simp only [← HQ.out.1, List.getElem_map]
      have g2 : (q'[i]).1 = fs[i] := by simp only [← HQ'.out.1, List.getElem_map]
      have hu := HQ.out.2.2 _ (List.getElem_mem hiq)
      have hu' := HQ'.out.2.2 _ (List.getElem_mem hiq')
      have e0 := hc1 i hiq 0 _ rfl
      have e1 := hc1 i hiq 1 _ rfl
      have e2 := hc1 i hiq 2 _ rfl
      have e3 := hc1 i hiq 3 _ rfl
      have f0 := hc2 i hiq' 0 _ rfl
      have f1 := hc2 i hiq' 1 _ rfl
      have f2 := hc2 i hiq' 2 _ rfl
      have f3 := hc2 i hiq' 3 _ rfl
      rw [g1] at hu e0
      rw [g2] at hu' f0
      generalize (q[i]).2 = u at *
      generalize (q'[i]).2 = u' at *
      generalize fs[i] = x at *
      clear g1 g2 hiq hiq' hlt hc1 hc2
      have HWI := Lib.hid (show wrap64 ((i : Int) + 1) = ((i + 1 : Nat) : Int) from by have h1 := HLT.out; have h2 := HFL.out; unfold wrap64; omega)
      have hli : (i : Int) < (fs.length : Int) := by have := HLT.out; omega
      obtain ⟨l1, m1, l2, m2, l4, m4, rfl⟩ := hu.shape
      obtain ⟨n1, o1, n2, o2, n4, o4, rfl⟩ := hu'.shape
      have HU := Lib.hid hu
      have HU' := Lib.hid hu'
      rw [Nat.add_zero] at e0 f0
      dsimp only at e0 e1 e2 e3 f0 f1 f2 f3
      clear hu hu' hp1 hp2
      go_wp2_with fail
      obtain ⟨wd, hwd⟩ : ∃ z : World, z = World.drew wr := ⟨_, rfl⟩
      have DX := Lib.hid (show Ext w2 wd from by rw [hwd]; exact RX.out.trans (Ext.drew _))
      refine region_walkN (Ext wd) (by rw [← hwd]; exact Ext.refl _) (by kernel_rfl) (by kernel_rfl) (fun _ _ d _ _ h => by cases d <;> exact h) ?_
      rw [← hwd]
      clear hwd
      have h1 := fun W (h : Ext wd W) => (A2.out.below (DX.out.trans h)).cells
      have h2 := fun W (h : Ext wd W) => (B2.out.below (DX.out.trans h)).cells
      have k0 := fun W (h : Ext wd W) => Ext.cell (X2.out.trans (DX.out.trans h)) e0
      have k1 := fun W (h : Ext wd W) => Ext.cell (X2.out.trans (DX.out.trans h)) e1
      have k2 := fun W (h : Ext wd W) => Ext.cell (X2.out.trans (DX.out.trans h)) e2
      have k3 := fun W (h : Ext wd W) => Ext.cell (X2.out.trans (DX.out.trans h)) e3
      have j0 := fun W (h : Ext wd W) => Ext.cell (X2.out.trans (DX.out.trans h)) f0
      have j1 := fun W (h : Ext wd W) => Ext.cell (X2.out.trans (DX.out.trans h)) f1
      have j2 := fun W (h : Ext wd W) => Ext.cell (X2.out.trans (DX.out.trans h)) f2
      have j3 := fun W (h : Ext wd W) => Ext.cell (X2.out.trans (DX.out.trans h)) f3
      (refine WalkN.tk [0, 1, 2, 3, 4, 5, 6, 7, 8, 9] ?_; (iterate 10 ((refine TkN.c _ ?_ (by simp only [gtA, gtS, gtZ]; rfl) (by kernel_rfl) (by kernel_rfl) (by rfl) (fun W hW => ?_) ?_; rotate_left; · (go_simp; try with_reducible rfl)); simp only [Act.put, puA, puZ, puS])); refine TkN.n ?_)
      clear h1 h2 k0 k1 k2 k3 j0 j1 j2 j3 e0 e1 e2 e3 f0 f1 f2 f3
      have HCL := Lib.hid (sameForm_any x _ _ wd (HU.out.up (X2.out.trans DX.out)) (HU'.out.up (X2.out.trans DX.out)))
      unfold fV at HCL
      dsimp only at HCL
      refine WalkN.one 10 (by kernel_rfl) ?_
      refine ⟨_, (by simp only [gtA, gtS, gtZ]; rfl), by rfl, fun K hK => ?_⟩
      go_simp
      refine HCL.out.mono ?_
      rintro e w5 ⟨rfl, hx5⟩
      refine hK.out _ _ hx5 ?_
      clear hK HCL
      have X5 := Lib.hid (show Ext w2 w5 from DX.out.trans hx5)
      clear hx5
      ((refine WalkN.take 11 _ ?_ (by simp only [gtA, gtS, gtZ]; rfl) (by kernel_rfl) (by kernel_rfl) (by rfl) (fun W hW => ?_) ?_; rotate_left; · (go_simp; try with_reducible rfl)); simp only [Act.put, puA, puZ, puS])
      refine WalkN.done (by kernel_rfl) ?_
      clear hli
      go_wp2_with fail
      go_roundw
      case rel => exact ⟨i + 1, HLT.out, by first | rw [HWI.out] | go_num, X5.out⟩
      case measure => have := HLT.out; (try rw [HWI.out]); simp [intOf]; omega
    · obtain rfl : i = fs.length := by omega
      go_wp2_with fail
      go_ret
      exact ⟨rfl, X2.out.trans RX.out⟩
end Go.Proofs.Ytjdigpfipmckhaa
