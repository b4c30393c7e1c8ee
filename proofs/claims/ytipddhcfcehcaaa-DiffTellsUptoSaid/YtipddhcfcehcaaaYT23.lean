/- Lemmas for the claim, no condition. -/
import Derived.Test.YtipddhcfcehcaaaYT22
import Derived.Test.YtipddhcfcehcaaaYT15
import Derived.Test.YtipddhcfcehcaaaYT21
import Derived.Test.YtipddhcfcehcaaaYT20
import Derived.Test.YtipddhcfcehcaaaYT2
import Derived.Test.YtipddhcfcehcaaaYT3
namespace Go.Proofs.Ytipddhcfcehcaaa
open Go Go.RowKit Go.Maps

/-- The rules' texts. -/
def dL (l : List (R2 × RT)) : List (R2 × ByteArray) := l.map fun x => (x.1, dtext x.2)
theorem dL_append (a b : List (R2 × RT)) : dL (a ++ b) = dL a ++ dL b := by unfold dL; rw [List.map_append]
theorem dL_look (k : R2) : ∀ l : List (R2 × RT), lookA (dL l) k = (lookA l k).map dtext
  | [] => rfl
  | x :: l => by
    unfold dL
    rw [List.map_cons, lookA, lookA]
    by_cases h : x.1 = k
    · rw [if_pos h, if_pos h]; rfl
    · rw [if_neg h, if_neg h]; exact dL_look k l
/-- A side that open has made. -/
structure Sd (w : World) (B b1 b2 : Nat) (ts : List TyS) : Prop where
  T : Mp Try.prog 9 Value.string bV w b1 (tyL ts)
  R : Mp Try.prog 61 r2V Value.string w b2 (dL (refsOf ts))
  lo : B ≤ b1 ∧ B ≤ b2 ∧ b1 ≠ b2
theorem Sd.up {w w' : World} {B b1 b2 : Nat} {ts : List TyS} (h : Sd w B b1 b2 ts) (hb : Below w.heap.size w w') : Sd w' B b1 b2 ts := ⟨h.T.below hb, h.R.below hb, h.lo⟩

theorem Blk.set2 {w : World} {B : Nat} {a b : Value} {e : TypeId} (h : Blk w B #[a, b] e) (x0 x1 : Value) : Blk ((w.setCell ⟨B, 0, none⟩ x0).setCell ⟨B, 1, none⟩ x1) B #[x0, x1] e := (h.set_to (cs' := #[x0, b]) 0 x0 rfl).set_to (cs' := #[x0, x1]) 1 x1 rfl
theorem chk_uq {ts : List TyS} (h : chk06 ts = 0) : uniqOk ts = true := by
  unfold chk06 at h
  split at h
  · split at h
    · split at h
      · assumption
      · cases h
    · cases h
  · cases h
theorem chk_tx {ts : List TyS} (h : chk06 ts = 0) : ∀ t ∈ ts, ∀ r ∈ t.rels, r.2.textOk 0 = true := by
  unfold chk06 at h
  split at h
  · rename_i hp
    exact fun t ht r hr => rel_text hp ht hr
  · cases h

set_option maxRecDepth 100000 in
set_option maxHeartbeats 1000000 in
theorem dopen_bad (ts : List TyS) (tv : Value) (w : World) (h : TysAt (· < w.heap.size) w ts tv) (hok : ∀ t ∈ ts, t.Ok) (hsB : schB ts ≤ 549755813888) (hsz : ∀ t ∈ ts, ∀ r ∈ t.rels, r.2.sz ≤ 1000000) (hln : (namesOf ts).length ≤ 1099511627776) (hlr : (refsOf ts).length ≤ 1099511627776) (hc : chk06 ts ≠ 0) :
    Calls Try.prog 36 #[.agg #[tv]] w fun e w' => e = .returned (.tuple #[.agg #[.map none, .map none], .int .i64 (chk06 ts)]) ∧ Ext w w' := by
  obtain ⟨ao, c, rfl, -, -, -⟩ := h.rows
  obtain ⟨wa, hwa⟩ : ∃ x, x = w.alloc (.cells #[.slice ao ts.length c] 24) := ⟨_, rfl⟩
  obtain ⟨wb, hwb⟩ : ∃ x, x = wa.alloc (.cells #[.map none, .map none] 86) := ⟨_, rfl⟩
  have ea : wa.heap.size = w.heap.size + 1 := by rw [hwa]; simp
  have xa : Ext w wa := by rw [hwa]; exact Ext.alloc _ _
  have xb : Ext wa wb := by rw [hwb]; exact Ext.alloc _ _
  have HSB := Lib.hid (show Blk wb w.heap.size #[.slice ao ts.length c] 24 from Blk.below (by rw [hwa]; exact Blk.made _ _ _) xb)
  have HRB := Lib.hid (show Blk wb (w.heap.size + 1) #[.map none, .map none] 86 from by rw [hwb, ← ea]; exact Blk.made _ _ _)
  have HX := Lib.hid (xa.trans xb)
  have HCH := Lib.hid (checkP_any ts _ wb (h.up HX.out) hok hsB hsz hln hlr)
  have sb := HSB.out.cells
  have hne : (chk06 ts != 0) = true := by rw [bne_iff_ne]; exact hc
  clear h hok hsB hsz hln hlr hc ea xa xb
  subst hwb hwa
  generalize chk06 ts = ck at *
  go_enter Try.func36, Try.ntmps36
  go_wp2_with fail
  refine HCH.out.mono ?_
  rintro e w1 ⟨rfl, hb1⟩
  have HX1 := Lib.hid (show Ext w w1 from HX.out.trans hb1)
  have HR1 := Lib.hid (HRB.out.below hb1)
  have r1 := HR1.out.cells
  have f1 := HR1.out.free
  clear hb1 HCH sb
  go_wp2_with fail
  have hb2 := HR1.out.set2 (.map none) (.map none)
  refine bodyPost_ret (v := .tuple #[.agg #[.map none, .map none], .int .i64 ck]) ?_ rfl ⟨rfl, (HX1.out.setCell (Nat.le_succ _) _).setCell (Nat.le_succ _) _⟩
  rw [results_cell_tmp rfl]
  have hl := run_loadVar_row (P := Try.prog) _ (w.heap.size + 1) _ 86 _ _ _ hb2 Try.underlying86 rfl (by kernel_rfl)
  simp [asAddr, hl, Result.andThen]

/-- Nothing that lay there has turned but two blocks. -/
abbrev KM (b1 b2 : Nat) (w w' : World) : Prop := Kept (fun b => b < w.heap.size ∧ b ≠ b1 ∧ b ≠ b2) w w'
theorem KM.next {b1 b2 : Nat} {w w' w'' : World} (h : KM b1 b2 w w') (k : KM b1 b2 w' w'') : KM b1 b2 w w'' := Kept.trans h (Kept.mono k fun b hb => ⟨Nat.lt_of_lt_of_le hb.1 h.size, hb.2⟩)
theorem KM.of {b1 b2 : Nat} {w w' : World} (h : Ext w w') : KM b1 b2 w w' := Below.kept h fun b hb => hb.1
theorem KM.box {b1 b2 : Nat} {w w' : World} (h : KM b1 b2 w w') {B : Nat} {cs : Array Value} {e : TypeId} (hB : Blk w B cs e) (h1 : B ≠ b1) (h2 : B ≠ b2) : Blk w' B cs e := Kept.blk h hB ⟨hB.lt, h1, h2⟩
theorem KM.base {b1 b2 L : Nat} {w w' : World} (h : KM b1 b2 w w') (hL : L ≤ w.heap.size) (h1 : L ≤ b1) (h2 : L ≤ b2) : Below L w w' := Kept.below h fun b hb => ⟨by omega, by omega, by omega⟩

set_option maxRecDepth 100000 in
set_option maxHeartbeats 2000000 in
theorem dopen_ok (ts : List TyS) (tv : Value) (w : World) (h : TysAt (· < w.heap.size) w ts tv) (hok : ∀ t ∈ ts, t.Ok) (hsB : schB ts ≤ 549755813888) (hsz : ∀ t ∈ ts, ∀ r ∈ t.rels, r.2.sz ≤ 1000000) (hln : (namesOf ts).length ≤ 1099511627776) (hlr : (refsOf ts).length ≤ 1099511627776) (hwt : ∀ t ∈ ts, ∀ r ∈ t.rels, r.2.wt ≤ 500000000) (hc : chk06 ts = 0) :
    Calls Try.prog 36 #[.agg #[tv]] w fun e w' => ∃ b1 b2, e = .returned (.tuple #[.agg #[.map (some b1), .map (some b2)], .int .i64 0]) ∧ Sd w' w.heap.size b1 b2 ts ∧ Ext w w' := by
  obtain ⟨ao, c, rfl, hlc, hcm, hcell⟩ := h.rows
  have HC := Lib.hid hcell
  have HOK := Lib.hid hok
  have HWT := Lib.hid hwt
  have HUQ := Lib.hid (chk_uq hc)
  have HTX := Lib.hid (chk_tx hc)
  obtain ⟨wa, hwa⟩ : ∃ x, x = w.alloc (.cells #[.slice ao ts.length c] 24) := ⟨_, rfl⟩
  obtain ⟨wb, hwb⟩ : ∃ x, x = wa.alloc (.cells #[.map none, .map none] 86) := ⟨_, rfl⟩
  have ea : wa.heap.size = w.heap.size + 1 := by rw [hwa]; simp
  have xa : Ext w wa := by rw [hwa]; exact Ext.alloc _ _
  have xb : Ext wa wb := by rw [hwb]; exact Ext.alloc _ _
  have HSB := Lib.hid (show Blk wb w.heap.size #[.slice ao ts.length c] 24 from Blk.below (by rw [hwa]; exact Blk.made _ _ _) xb)
  have HRB := Lib.hid (show Blk wb (w.heap.size + 1) #[.map none, .map none] 86 from by rw [hwb, ← ea]; exact Blk.made _ _ _)
  have HX := Lib.hid (xa.trans xb)
  have HCH := Lib.hid (checkP_any ts _ wb (h.up HX.out) hok hsB hsz hln hlr)
  rw [hc] at HCH
  have sb := HSB.out.cells
  have hmm := @run_makeMap Try.prog
  clear h hok hsB hsz hln hlr hc ea xa xb hwt hcell
  subst hwb hwa
  go_enter Try.func36, Try.ntmps36
  go_wp2_with fail
  refine HCH.out.mono ?_
  rintro e w1 ⟨rfl, hb1⟩
  obtain ⟨w2, hw2⟩ : ∃ x, x = w1.alloc (.map #[] 0) := ⟨_, rfl⟩
  obtain ⟨w3, hw3⟩ : ∃ x, x = w2.alloc (.map #[] 0) := ⟨_, rfl⟩
  obtain ⟨w4, hw4⟩ : ∃ x, x = w3.alloc (.cells #[.map (some w1.heap.size), .map (some (w1.heap.size + 1))] 86) := ⟨_, rfl⟩
  have e2 : w2.heap.size = w1.heap.size + 1 := by rw [hw2]; simp
  have e3 : w3.heap.size = w1.heap.size + 1 + 1 := by rw [hw3]; simp [e2]
  have x12 : Ext w1 w2 := by rw [hw2]; exact Ext.alloc _ _
  have x23 : Ext w2 w3 := by rw [hw3]; exact Ext.alloc _ _
  have x34 : Ext w3 w4 := by rw [hw4]; exact Ext.alloc _ _
  have hR1 := HRB.out.below hb1
  have HL1 := Lib.hid (show w.heap.size + 1 < w1.heap.size from hR1.lt)
  have HM1 := Lib.hid (show Mp Try.prog 9 Value.string bV w4 w1.heap.size [] from Mp.below (Mp.below (by rw [hw2]; exact Mp.made _) x23) x34)
  have HM2 := Lib.hid (show Mp Try.prog 61 r2V Value.string w4 (w1.heap.size + 1) [] from Mp.below (by rw [hw3, ← e2]; exact Mp.made _) x34)
  have HB4 := Lib.hid (show Blk w4 (w1.heap.size + 1 + 1) #[.map (some w1.heap.size), .map (some (w1.heap.size + 1))] 86 from by rw [hw4, ← e3]; exact Blk.made _ _ _)
  have HX4 := Lib.hid (show Ext w w4 from HX.out.trans (Ext.trans hb1 (x12.trans (x23.trans x34))))
  have HR4 := Lib.hid (hR1.below (x12.trans (x23.trans x34)))
  have HS4 := Lib.hid ((HSB.out.below hb1).below (x12.trans (x23.trans x34)))
  have s1 := (HSB.out.below hb1).cells
  have s4 := HS4.out.cells
  clear hb1 HCH sb x12 x23 x34 hR1 HRB HSB HX e2 e3
  subst hw4 hw3 hw2
  go_wp2_with fail
  obtain ⟨w4, hw4⟩ : ∃ x, x = ((w1.alloc (.map #[] 0)).alloc (.map #[] 0)).alloc (.cells #[.map (some w1.heap.size), .map (some (w1.heap.size + 1))] 86) := ⟨_, rfl⟩
  rw [← hw4] at HM1 HM2 HB4 HX4 HR4 HS4 ⊢
  obtain ⟨b1, hb1⟩ : ∃ x, x = w1.heap.size := ⟨_, rfl⟩
  obtain ⟨bx, hbx⟩ : ∃ x, x = w1.heap.size + 1 + 1 := ⟨_, rfl⟩
  obtain ⟨b2, hb2⟩ : ∃ x, x = w1.heap.size + 1 := ⟨_, rfl⟩
  rw [← hb2] at HM2 HB4 ⊢
  rw [← hb1] at HM1 HB4 ⊢
  have HD := Lib.hid (show w.heap.size + 1 < b1 ∧ w.heap.size + 1 < b2 ∧ b1 ≠ b2 ∧ bx ≠ b1 ∧ bx ≠ b2 from by have := HL1.out; omega)
  rw [show b2 + 1 = bx from by omega] at HB4 ⊢
  clear hw4 s1 s4 hb1 hb2 hbx HL1
  go_loopw [22] (fun iv wr => ∃ i : Nat, i ≤ ts.length ∧ iv = .int .i64 i ∧ Mp Try.prog 9 Value.string bV wr b1 (tyL (ts.take i)) ∧ Mp Try.prog 61 r2V Value.string wr b2 (dL (refsOf (ts.take i))) ∧ KM b1 b2 w4 wr) (fun iv _ => ts.length - (intOf iv).toNat)
  case atStart => exact ⟨0, by omega, rfl, HM1.out, HM2.out, Kept.refl _ _⟩
  case round =>
    obtain ⟨i, hi, rfl, hm1, hm2, hk⟩ := hrel
    have HM1 := Lib.hid hm1
    have HM2 := Lib.hid hm2
    have HK := Lib.hid hk
    have HBW := Lib.hid (show Below w.heap.size w wr from Below.trans HX4.out (KM.base (L := w.heap.size) hk HX4.out.size (by have := HD.out.1; omega) (by have := HD.out.2.1; omega)))
    have HBR := Lib.hid (hk.box HB4.out HD.out.2.2.2.1 HD.out.2.2.2.2)
    clear hm1 hm2 hk
    by_cases hlt : i < ts.length
    · obtain ⟨bb, off, rsv, hbo, hb, c0, c1, hat2⟩ := HC.out i hlt
      cases hbo
      have d0 := (HBW.out.cell (p := ⟨bb, off + i * 2, none⟩) hb).trans c0
      have d1 := (HBW.out.cell (p := ⟨bb, off + i * 2 + 1, none⟩) hb).trans c1
      have hokt := HOK.out _ (List.getElem_mem hlt)
      have HWTT := Lib.hid (HWT.out _ (List.getElem_mem hlt))
      have HTXT := Lib.hid (HTX.out _ (List.getElem_mem hlt))
      have HP1 := Lib.hid (refsOf_take hlt)
      have HT1 := Lib.hid (tyL_take hlt)
      have HNF := Lib.hid (ref_fresh HUQ.out hlt)
      have HTF := Lib.hid (tyL_fresh HUQ.out hlt)
      have HI1 := Lib.hid hlt
      generalize ts[i] = t at *
      obtain ⟨tn, rels⟩ := t
      dsimp only at *
      obtain ⟨hon, hor⟩ := hokt
      dsimp only at hon hor
      have HKT := Lib.hid (show tn.size ≤ maxLen from by unfold maxLen; omega)
      have HOR := Lib.hid hor
      obtain ⟨ao2, cc2, rfl, hlc3, hcm3, hcell3⟩ := hat2.rows
      have HC3 := Lib.hid hcell3
      have hea : Ext wr (wr.alloc (.cells #[.string tn, .slice ao2 rels.length cc2] 49)) := Ext.alloc _ _
      have HTB := Lib.hid (Blk.made wr #[.string tn, .slice ao2 rels.length cc2] 49)
      have HNT := Lib.hid (show wr.heap.size ≠ b1 ∧ wr.heap.size ≠ b2 from ⟨by have := HM1.out.lt; omega, by have := HM2.out.lt; omega⟩)
      obtain ⟨wT, hst, hMT, hTT⟩ := (HM1.out.below hea).store strK strV_inj Try.underlying83 (str_key tn HKT.out) true
      rw [put_miss HTF.out] at hMT
      unfold bV at hst
      have HMT := Lib.hid (show Mp Try.prog 9 Value.string bV wT b1 (tyL (ts.take i) ++ [(tn, true)]) from hMT)
      have HM2T := Lib.hid ((HM2.out.below hea).kept hTT.kept (fun e => HD.out.2.2.1 e.symm))
      have HKT1 := Lib.hid (show KM b1 b2 wr wT from KM.next (KM.of hea) (hTT.kept.mono fun b hb => hb.2.1))
      have HTBT := Lib.hid (hTT.kept.blk HTB.out HNT.out.1)
      have htt := HTBT.out.cells
      have hta := HTB.out.cells
      have hxa := (HBR.out.below hea).cells
      clear hMT hTT c0 c1 hat2 hcell3 hor hon
      go_wp2_with fail
      clear hst hta hxa htt d0 d1 hlt hea
      generalize wr.heap.size = tb at *
      go_loopw [33] (fun jv wr => ∃ j : Nat, j ≤ rels.length ∧ jv = .int .i64 j ∧ Mp Try.prog 9 Value.string bV wr b1 (tyL (ts.take i) ++ [(tn, true)]) ∧ Mp Try.prog 61 r2V Value.string wr b2 (dL (refsOf (ts.take i) ++ relsOf tn (rels.take j))) ∧ KM b1 b2 wT wr) (fun jv _ => rels.length - (intOf jv).toNat)
      case atStart => exact ⟨0, by omega, rfl, HMT.out, by rw [List.take_zero]; simpa [relsOf] using HM2T.out, Kept.refl _ _⟩
      case round =>
        obtain ⟨j, hj, rfl, hm1, hm2, hkj⟩ := hrel
        have HMA := Lib.hid hm1
        have HMB := Lib.hid hm2
        have HKJ := Lib.hid hkj
        have HBWJ := Lib.hid (show Below w.heap.size w wr from Below.trans HBW.out (KM.base (L := w.heap.size) (KM.next HKT1.out hkj) HBW.out.size (by have := HD.out.1; omega) (by have := HD.out.2.1; omega)))
        have HTBJ := Lib.hid (hkj.box HTBT.out HNT.out.1 HNT.out.2)
        have HBXJ := Lib.hid ((KM.next HKT1.out hkj).box HBR.out HD.out.2.2.2.1 HD.out.2.2.2.2)
        clear HMT HM2T hm1 hm2 hkj
        by_cases hlt : j < rels.length
        · obtain ⟨bb, off, pv, hbo, hb, c0, c1, c2, c3, c4, hat2⟩ := HC3.out j hlt
          cases hbo
          have d0 := (HBWJ.out.cell (p := ⟨bb, off + j * 5, none⟩) hb).trans c0
          have d1 := (HBWJ.out.cell (p := ⟨bb, off + j * 5 + 1, none⟩) hb).trans c1
          have d2 := (HBWJ.out.cell (p := ⟨bb, off + j * 5 + 2, none⟩) hb).trans c2
          have d3 := (HBWJ.out.cell (p := ⟨bb, off + j * 5 + 3, none⟩) hb).trans c3
          have d4 := (HBWJ.out.cell (p := ⟨bb, off + j * 5 + 4, none⟩) hb).trans c4
          obtain ⟨ao3, cc3, rfl, -⟩ := hat2.rows
          have hokr := HOR.out _ (List.getElem_mem hlt)
          have HWR := Lib.hid (HWTT.out _ (List.getElem_mem hlt))
          have HTR := Lib.hid (HTXT.out _ (List.getElem_mem hlt))
          have HPJ := Lib.hid (relsOf_take (n := tn) hlt)
          have HNJ := Lib.hid (HNF.out j hlt)
          have HJ1 := Lib.hid hlt
          have HAT := Lib.hid (hat2.up HBWJ.out)
          generalize rels[j] = x at *
          obtain ⟨xn, p⟩ := x
          dsimp only at *
          have HKX := Lib.hid (show xn.size ≤ maxLen from by have := hokr.1; unfold maxLen; omega)
          clear c0 c1 c2 c3 c4 hat2 hokr hb
          obtain ⟨wa, hwa⟩ : ∃ x, x = wr.alloc (.cells #[.string xn, .int .i64 p.k, .string p.a, .string p.b, .slice ao3 p.ps.length cc3] 82) := ⟨_, rfl⟩
          have xra : Ext wr wa := by rw [hwa]; exact Ext.alloc _ _
          have HRA := Lib.hid (show Blk wa wr.heap.size #[.string xn, .int .i64 p.k, .string p.a, .string p.b, .slice ao3 p.ps.length cc3] 82 from by rw [hwa]; exact Blk.made _ _ _)
          have HXRA := Lib.hid xra
          subst hwa
          clear xra
          go_wp2_with fail
          clear d0 d1 d2 d3 d4
          obtain ⟨wa, hwa⟩ : ∃ x, x = wr.alloc (.cells #[.string xn, .int .i64 p.k, .string p.a, .string p.b, .slice ao3 p.ps.length cc3] 82) := ⟨_, rfl⟩
          rw [← hwa] at HRA HXRA ⊢
          clear hwa
          obtain ⟨wd, hwd⟩ : ∃ x, x = wa.drew := ⟨_, rfl⟩
          have hxd : Ext wr wd := by rw [hwd]; exact HXRA.out.trans (Ext.drew _)
          have hrd : Blk wd wr.heap.size #[.string xn, .int .i64 p.k, .string p.a, .string p.b, .slice ao3 p.ps.length cc3] 82 := by rw [hwd]; exact HRA.out.drew
          have g0 : ∀ W, Ext wd W → ∀ i, W.cell? ⟨bx, i, none⟩ = (#[Value.map (some b1), .map (some b2)] : Array Value)[i]? := fun W h => ((HBXJ.out.below hxd).below h).cells
          have g1 : ∀ W, Ext wd W → ∀ i, W.cell? ⟨tb, i, none⟩ = (#[Value.string tn, .slice (some ⟨bb, off, none⟩) rels.length cc2] : Array Value)[i]? := fun W h => ((HTBJ.out.below hxd).below h).cells
          have g2 : ∀ W, Ext wd W → ∀ i, W.cell? ⟨wr.heap.size, i, none⟩ = (#[.string xn, .int .i64 p.k, .string p.a, .string p.b, .slice ao3 p.ps.length cc3] : Array Value)[i]? := fun W h => (hrd.below h).cells
          have HTEX := Lib.hid (dtext_any p _ wd (HAT.out.up hxd) HTR.out HWR.out)
          have HXD := Lib.hid hxd
          refine region_walkL 10 (Ext wd) (by rw [← hwd]; exact Ext.refl _) (by kernel_rfl) (by kernel_rfl) (fun _ _ d _ _ h => by cases d <;> exact h) ?_
          rw [← hwd]
          unfold rV at HTEX
          clear hwd hxd hrd HRA HXRA
          ((refine WalkL.take 0 _ ?_ (by simp only [List.getElem?_toArray, List.getElem?_cons_zero]; rfl) (by kernel_rfl) (by kernel_rfl) (by kernel_rfl) (by rfl) (fun W hW => ?_) ?_; rotate_left; · (go_simp; try with_reducible rfl)); simp only [Act.put, List.setIfInBounds_toArray, List.set_cons_zero, List.set_cons_succ]); ((refine WalkL.take 1 _ ?_ (by simp only [List.getElem?_toArray, List.getElem?_cons_succ, List.getElem?_cons_zero]; rfl) (by kernel_rfl) (by kernel_rfl) (by kernel_rfl) (by rfl) (fun W hW => ?_) ?_; rotate_left; · (go_simp; try with_reducible rfl)); simp only [Act.put, List.setIfInBounds_toArray, List.set_cons_zero, List.set_cons_succ]); ((refine WalkL.take 2 _ ?_ (by simp only [List.getElem?_toArray, List.getElem?_cons_succ, List.getElem?_cons_zero]; rfl) (by kernel_rfl) (by kernel_rfl) (by kernel_rfl) (by rfl) (fun W hW => ?_) ?_; rotate_left; · (go_simp; try with_reducible rfl)); simp only [Act.put, List.setIfInBounds_toArray, List.set_cons_zero, List.set_cons_succ]); ((refine WalkL.take 3 _ ?_ (by simp only [List.getElem?_toArray, List.getElem?_cons_succ, List.getElem?_cons_zero]; rfl) (by kernel_rfl) (by kernel_rfl) (by kernel_rfl) (by rfl) (fun W hW => ?_) ?_; rotate_left; · (go_simp; try with_reducible rfl)); simp only [Act.put, List.setIfInBounds_toArray, List.set_cons_zero, List.set_cons_succ]); ((refine WalkL.take 4 _ ?_ (by simp only [List.getElem?_toArray, List.getElem?_cons_succ, List.getElem?_cons_zero]; rfl) (by kernel_rfl) (by kernel_rfl) (by kernel_rfl) (by rfl) (fun W hW => ?_) ?_; rotate_left; · (go_simp; try with_reducible rfl)); simp only [Act.put, List.setIfInBounds_toArray, List.set_cons_zero, List.set_cons_succ]); ((refine WalkL.take 5 _ ?_ (by simp only [List.getElem?_toArray, List.getElem?_cons_succ, List.getElem?_cons_zero]; rfl) (by kernel_rfl) (by kernel_rfl) (by kernel_rfl) (by rfl) (fun W hW => ?_) ?_; rotate_left; · (go_simp; try with_reducible rfl)); simp only [Act.put, List.setIfInBounds_toArray, List.set_cons_zero, List.set_cons_succ]); ((refine WalkL.take 6 _ ?_ (by simp only [List.getElem?_toArray, List.getElem?_cons_succ, List.getElem?_cons_zero]; rfl) (by kernel_rfl) (by kernel_rfl) (by kernel_rfl) (by rfl) (fun W hW => ?_) ?_; rotate_left; · (go_simp; try with_reducible rfl)); simp only [Act.put, List.setIfInBounds_toArray, List.set_cons_zero, List.set_cons_succ]); ((refine WalkL.take 7 _ ?_ (by simp only [List.getElem?_toArray, List.getElem?_cons_succ, List.getElem?_cons_zero]; rfl) (by kernel_rfl) (by kernel_rfl) (by kernel_rfl) (by rfl) (fun W hW => ?_) ?_; rotate_left; · (go_simp; try with_reducible rfl)); simp only [Act.put, List.setIfInBounds_toArray, List.set_cons_zero, List.set_cons_succ]); ((refine WalkL.take 8 _ ?_ (by simp only [List.getElem?_toArray, List.getElem?_cons_succ, List.getElem?_cons_zero]; rfl) (by kernel_rfl) (by kernel_rfl) (by kernel_rfl) (by rfl) (fun W hW => ?_) ?_; rotate_left; · (go_simp; try with_reducible rfl)); simp only [Act.put, List.setIfInBounds_toArray, List.set_cons_zero, List.set_cons_succ])
          clear g0 g1 g2
          refine WalkL.one 9 (by kernel_rfl) ?_
          refine ⟨_, (by simp only [List.getElem?_toArray, List.getElem?_cons_succ, List.getElem?_cons_zero]; rfl), by rfl, fun K hK => ?_⟩
          go_simp
          refine HTEX.out.mono ?_
          rintro e w5 ⟨rfl, hb5⟩
          refine hK.out _ _ hb5 ?_
          clear hK HTEX
          have hx5 : Ext wr w5 := HXD.out.trans hb5
          obtain ⟨w6, hst, hM6, hT6⟩ := (HMB.out.below hx5).store refK r2V_inj Try.underlying84 (ref_key ⟨tn, xn⟩ ⟨HKT.out, HKX.out⟩) (dtext p)
          rw [put_miss (look_none_iff.1 (by rw [dL_look, HNJ.out]; rfl))] at hM6
          unfold r2V at hst
          dsimp only at hst
          have HM6 := Lib.hid (show Mp Try.prog 61 r2V Value.string w6 b2 (dL (refsOf (ts.take i) ++ relsOf tn (rels.take (j + 1)))) from by
            rw [HPJ.out, ← List.append_assoc, dL_append]
            exact hM6)
          have HMA6 := Lib.hid ((HMA.out.below hx5).kept hT6.kept HD.out.2.2.1)
          have HK6 := Lib.hid (KM.next HKJ.out (KM.next (KM.of hx5) (hT6.kept.mono fun b hb => hb.2.2)))
          clear hM6 hT6 hb5 hx5
          refine WalkL.last (by kernel_rfl) (by kernel_rfl) ?_
          refine ⟨_, (by simp only [List.getElem?_toArray, List.getElem?_cons_succ, List.getElem?_cons_zero]; rfl), by rfl, fun K hK => ?_⟩
          go_simp
          refine hK.out _ _ ?_
          clear hK hst
          have hjt := HJ1.out
          go_wp2_with fail
          go_roundw
          case rel => exact ⟨j + 1, by omega, by go_num, HMA6.out, HM6.out, HK6.out⟩
          case measure => simp [intOf]; omega
        · obtain rfl : j = rels.length := by omega
          have HMN := Lib.hid (show Mp Try.prog 9 Value.string bV wr b1 (tyL (ts.take (i + 1))) from by rw [HT1.out]; exact HMA.out)
          have HMN2 := Lib.hid (show Mp Try.prog 61 r2V Value.string wr b2 (dL (refsOf (ts.take (i + 1)))) from by
            have := HMB.out
            rw [List.take_length] at this
            rw [HP1.out]
            exact this)
          have hit := HI1.out
          go_wp2_with fail
          go_roundw
          case rel => exact ⟨i + 1, by omega, by go_num, HMN.out, HMN2.out, KM.next HK.out (KM.next HKT1.out HKJ.out)⟩
          case measure => simp [intOf]; omega
    · obtain rfl : i = ts.length := by omega
      rw [List.take_length] at HM1 HM2
      have HRR := Lib.hid (HK.out.box HR4.out (by have := HD.out.1; omega) (by have := HD.out.2.1; omega))
      have rr := HRR.out.cells
      have rf := HRR.out.free
      have rx := HBR.out.cells
      go_wp2_with fail
      clear rr rf rx
      have hb2' := HRR.out.set2 (.map (some b1)) (.map (some b2))
      have hks : Kept (fun b => b ≠ w.heap.size + 1) wr ((wr.setCell ⟨w.heap.size + 1, 0, none⟩ (.map (some b1))).setCell ⟨w.heap.size + 1, 1, none⟩ (.map (some b2))) := ((Kept.refl _ wr).set (fun h => h rfl) _).set (fun h => h rfl) _
      refine bodyPost_ret (v := .tuple #[.agg #[.map (some b1), .map (some b2)], .int .i64 0]) ?_ rfl ⟨b1, b2, rfl, ⟨HM1.out.kept hks (by have := HD.out.1; omega), HM2.out.kept hks (by have := HD.out.2.1; omega), by have := HD.out; omega, by have := HD.out; omega, HD.out.2.2.1⟩, (HBW.out.setCell (Nat.le_succ _) _).setCell (Nat.le_succ _) _⟩
      rw [results_cell_tmp rfl]
      have hl := run_loadVar_row (P := Try.prog) _ (w.heap.size + 1) _ 86 _ _ _ hb2' Try.underlying86 rfl (by kernel_rfl)
      simp [asAddr, hl, Result.andThen]

end Go.Proofs.Ytipddhcfcehcaaa
namespace Go.Proofs.Ytipddhcfcehcaaa
open Go Go.RowKit Go.Maps

set_option maxRecDepth 100000 in
set_option maxHeartbeats 800000 in
theorem less06_any (a b : R2) (w : World) : Calls Try.prog 72 #[r2V a, r2V b] w fun e w' => e = .returned (.bool (ltR a b)) ∧ Below w.heap.size w w' := by
  obtain ⟨at_, ar⟩ := a
  obtain ⟨bt, br⟩ := b
  unfold r2V
  dsimp only
  have e1 := ByteArray.toList_eq at_
  have e2 := ByteArray.toList_eq bt
  have e3 := ByteArray.toList_eq ar
  have e4 := ByteArray.toList_eq br
  have HB := Lib.hid (show Below w.heap.size w ((w.alloc (Obj.cells #[Value.string at_, Value.string ar] 61)).alloc (Obj.cells #[Value.string bt, Value.string br] 61)) from ((Below.refl _ _).alloc (Nat.le_refl _) _).alloc (by simp) _)
  by_cases hk : at_ = bt
  · subst hk
    have HF := Lib.hid (show ltR ⟨at_, ar⟩ ⟨at_, br⟩ = ltS ar br from by unfold ltR; rw [if_pos rfl])
    go_enter Try.func72, Try.ntmps72
    go_wp2_with fail
    go_ret
    exact ⟨by rw [HF.out]; unfold ltS; rw [e3, e4]; rfl, HB.out⟩
  · have hkb := ba_beq' hk
    have HF := Lib.hid (show ltR ⟨at_, ar⟩ ⟨bt, br⟩ = ltS at_ bt from by unfold ltR; rw [if_neg hk])
    clear hk
    go_enter Try.func72, Try.ntmps72
    go_wp2_with fail
    go_ret
    exact ⟨by rw [HF.out]; unfold ltS; rw [e1, e2]; rfl, HB.out⟩

/-- A reference has been put into a row in order. -/
structure Ins (l : List R2) (r : R2) (l' : List R2) : Prop where
  up : UpR l'
  mem : ∀ x, x ∈ l' ↔ x = r ∨ x ∈ l
/-- In between. -/
structure PutI (l : List R2) (r : R2) (i : Nat) (d : Bool) (o : List R2) : Prop where
  len : o.length ≤ i + 1
  up : UpR o
  mem : ∀ x, x ∈ o ↔ (d = true ∧ x = r) ∨ x ∈ l.take i
  lt : ∀ x ∈ o, ∀ y ∈ l.drop i, ltR x y = true
  nd : d = false → ∀ x ∈ o, ltR x r = true
theorem UpR.snoc {o : List R2} {x : R2} (h : UpR o) (hx : ∀ y ∈ o, ltR y x = true) : UpR (o ++ [x]) :=
  List.pairwise_append.2 ⟨h, List.pairwise_singleton _ _, fun a ha b hb => by obtain rfl := List.mem_singleton.1 hb; exact hx a ha⟩
theorem PutI.start {l : List R2} (r : R2) : PutI l r 0 false [] := ⟨Nat.zero_le _, List.Pairwise.nil, fun x => by simp, fun x hx => (by cases hx), fun _ x hx => (by cases hx)⟩
theorem PutI.next {l : List R2} {r : R2} {i : Nat} {d : Bool} {o : List R2} (h : PutI l r i d o) (hu : UpR l) (hi : i < l.length) (hc : d = false → ltR l[i] r = true) : PutI l r (i + 1) d (o ++ [l[i]]) := by
  have hdr : l.drop i = l[i] :: l.drop (i + 1) := List.drop_eq_getElem_cons hi
  refine ⟨by have := h.len; simp; omega, h.up.snoc fun y hy => h.lt y hy _ (by rw [hdr]; exact List.mem_cons_self), fun x => ?_, fun x hx y hy => ?_, fun e x hx => ?_⟩
  · rw [List.mem_append, h.mem x, List.mem_singleton, List.take_succ_eq_append_getElem hi, List.mem_append, List.mem_singleton, or_assoc]
  · rcases List.mem_append.1 hx with hx | hx
    · exact h.lt x hx y (by rw [hdr]; exact List.mem_cons_of_mem _ hy)
    · obtain rfl := List.mem_singleton.1 hx
      have : UpR (l.drop i) := List.Pairwise.sublist (List.drop_sublist i l) hu
      rw [hdr] at this
      exact (List.pairwise_cons.1 this).1 y hy
  · rcases List.mem_append.1 hx with hx | hx
    · exact h.nd e x hx
    · obtain rfl := List.mem_singleton.1 hx; exact hc e
theorem PutI.fin {l : List R2} {r : R2} {d : Bool} {o : List R2} (h : PutI l r l.length d o) (hd : d = true) : Ins l r o := ⟨h.up, fun x => by rw [h.mem x, List.take_length]; simp [hd]⟩
end Go.Proofs.Ytipddhcfcehcaaa
