/- Lemmas for the claim, no condition. -/
import Derived.Test.YtjdigpfipmckhaaGreatYReWalks0
import Derived.Test.YtjdigpfipmckhaaGreatYReWalks24
namespace Go.Proofs.YtjdigpfipmckhaaGreat
open Go Go.RowKit Go.Maps
theorem FTAt.shape {S : Nat → Prop} {w : World} {r : FT} {v : FV3} (h : FTAt S w r v) : ∃ a1 c1 a2 c2 a4 c4, v = (.slice a1 r.subs.length c1, .slice a2 r.refs.length c2, .slice a4 r.ps.length c4) := by
  obtain ⟨v1, v2, v4⟩ := v
  obtain ⟨h1, h2, -⟩ := (FTAt.iff _ _).1 h
  obtain ⟨a1, c1, e1, -⟩ := Sl.rows pC_length (by decide) (show Sl S w 3 v1 (r.subs.flatMap pC) from h1)
  obtain ⟨a2, n2, c2, e2, hn, -, -⟩ := h2.len
  obtain ⟨a4, c4, e4, -⟩ := h.rows
  rw [ic_length, Nat.mul_one] at hn
  dsimp only at e1 e2 e4
  subst e1 e2 e4
  rw [← hn]
  exact ⟨_, _, _, _, _, _, rfl⟩
theorem Sl.int_at {S : Nat → Prop} {w : World} {a : Option Addr} {n c : Nat} {l : List Int} (h : Sl S w 1 (.slice a n c) (ic l)) {i : Nat} (hi : i < l.length) : ∃ b off, a = some ⟨b, off, none⟩ ∧ S b ∧ w.cell? ⟨b, off + i, none⟩ = some (.int .i64 l[i]) := by
  obtain ⟨a1, n1, c1, hv, -, -, -, -, hcell⟩ := h
  cases hv
  obtain ⟨b, off, rfl, hb, hcell⟩ := hcell (by intro h; have := congrArg List.length h; rw [ic_length, List.length_nil] at this; omega)
  exact ⟨b, off, rfl, hb, hcell i _ (by simp [ic, List.getElem?_eq_getElem hi])⟩
set_option maxRecDepth 100000 in
set_option maxHeartbeats 4000000 in
theorem sameForm_any (r : FT) : ∀ (v v' : FV3) (w : World), FTAt (· < w.heap.size) w r v → FTAt (· < w.heap.size) w r v' →
    Calls Tryz.prog 66 #[fV r v, fV r v'] w fun e w' => e = .returned (.bool true) ∧ Ext w w' := by
  induction r using FT.ind with
  | h r ih =>
  intro v v' w h h'
  obtain ⟨a1, c1, a2, c2, a4, c4, rfl⟩ := h.shape
  obtain ⟨b1, d1, b2, d2, b4, d4, rfl⟩ := h'.shape
  obtain ⟨k, subs, refs, parts⟩ := r
  have HIH := Lib.hid ih
  have H1 := Lib.hid h
  have H2 := Lib.hid h'
  clear ih h h'
  unfold fV
  dsimp only [FT.k, FT.subs, FT.refs, FT.ps] at HIH H1 H2 ⊢
  obtain ⟨wa, hwa⟩ : ∃ x, x = w.alloc (.cells #[.int .i64 k, .slice a1 subs.length c1, .slice a2 refs.length c2, .slice a4 parts.length c4] 90) := ⟨_, rfl⟩
  obtain ⟨wb, hwb⟩ : ∃ x, x = wa.alloc (.cells #[.int .i64 k, .slice b1 subs.length d1, .slice b2 refs.length d2, .slice b4 parts.length d4] 90) := ⟨_, rfl⟩
  have ea : wa.heap.size = w.heap.size + 1 := by rw [hwa]; simp
  have xa : Ext w wa := by rw [hwa]; exact Ext.alloc _ _
  have xb : Ext wa wb := by rw [hwb]; exact Ext.alloc _ _
  have XB := Lib.hid (xa.trans xb)
  have BA := Lib.hid (show Blk wb w.heap.size #[.int .i64 k, .slice a1 subs.length c1, .slice a2 refs.length c2, .slice a4 parts.length c4] 90 from Blk.below (by rw [hwa]; exact Blk.made _ _ _) xb)
  have BB := Lib.hid (show Blk wb (w.heap.size + 1) #[.int .i64 k, .slice b1 subs.length d1, .slice b2 refs.length d2, .slice b4 parts.length d4] 90 from by rw [hwb, ← ea]; exact Blk.made _ _ _)
  have F1 := Lib.hid (fun W (hW : Ext w W) => (FTAt.iff _ _).1 (H1.out.up hW))
  have F2 := Lib.hid (fun W (hW : Ext w W) => (FTAt.iff _ _).1 (H2.out.up hW))
  clear ea xa xb
  subst hwb hwa
  have hA := BA.out.cells
  have hB := BB.out.cells
  go_enter Tryz.func66, Tryz.ntmps66
  go_wp2_with fail
  refine (sameS_any _ _ subs _ (F1.out _ XB.out).1 (F2.out _ XB.out).1).mono ?_
  rintro e w2 ⟨rfl, hx2⟩
  have X2 := Lib.hid (show Ext w w2 from XB.out.trans hx2)
  have A2 := Lib.hid (BA.out.below hx2)
  have B2 := Lib.hid (BB.out.below hx2)
  have hA2 := A2.out.cells
  have hB2 := B2.out.cells
  clear hx2 hA hB XB BA BB
  go_wp2_with fail
  clear hA2 hB2
  go_loopw [41] (fun iv wr => ∃ i : Nat, i ≤ refs.length ∧ iv = .int .i64 i ∧ Ext w2 wr) (fun iv _ => refs.length - (intOf iv).toNat)
  case atStart => exact ⟨0, Nat.zero_le _, rfl, Ext.refl _⟩
  case round =>
    obtain ⟨i, hi, rfl, hx⟩ := hrel
    have RX := Lib.hid hx
    clear hx
    by_cases hlt : i < refs.length
    · have HLT := Lib.hid hlt
      obtain ⟨p1, q1, rfl, hp1, -⟩ := Sl.int_at (F1.out wr (X2.out.trans RX.out)).2.1 hlt
      obtain ⟨p2, q2, rfl, hp2, -⟩ := Sl.int_at (F2.out wr (X2.out.trans RX.out)).2.1 hlt
      have hli : (i : Int) < (refs.length : Int) := by omega
      have hlm : refs.length ≤ 9223372036854775807 := by
        obtain ⟨_, n, c, he, h1, h2, h3⟩ := (F1.out wr (X2.out.trans RX.out)).2.1.len
        cases he
        omega
      have HWI := Lib.hid (show wrap64 ((i : Int) + 1) = ((i + 1 : Nat) : Int) from by unfold wrap64; omega)
      have G1 := Lib.hid (fun W (hW : Ext wr W) => show W.cell? ⟨p1, q1 + i, none⟩ = some (.int .i64 refs[i]) from by
        obtain ⟨b, off, he, -, hc⟩ := Sl.int_at (F1.out W (X2.out.trans (RX.out.trans hW))).2.1 hlt
        cases he
        exact hc)
      have G2 := Lib.hid (fun W (hW : Ext wr W) => show W.cell? ⟨p2, q2 + i, none⟩ = some (.int .i64 refs[i]) from by
        obtain ⟨b, off, he, -, hc⟩ := Sl.int_at (F2.out W (X2.out.trans (RX.out.trans hW))).2.1 hlt
        cases he
        exact hc)
      generalize refs[i] = x at *
      clear hlt hp1 hp2 hlm
      go_wp2_with fail
      obtain ⟨wd, hwd⟩ : ∃ z : World, z = World.drew wr := ⟨_, rfl⟩
      have DX := Lib.hid (show Ext wr wd from by rw [hwd]; exact Ext.drew _)
      refine region_walkN (Ext wd) (by rw [← hwd]; exact Ext.refl _) (by kernel_rfl) (by kernel_rfl) (fun _ _ d _ _ h => by cases d <;> exact h) ?_
      rw [← hwd]
      clear hwd
      have h1 := fun W (h : Ext wd W) => (A2.out.below (RX.out.trans (DX.out.trans h))).cells
      have h2 := fun W (h : Ext wd W) => (B2.out.below (RX.out.trans (DX.out.trans h))).cells
      have h3 := fun W (h : Ext wd W) => G1.out W (DX.out.trans h)
      have h4 := fun W (h : Ext wd W) => G2.out W (DX.out.trans h)
      (refine WalkN.tk [0, 1, 2, 3, 4, 5, 6, 7, 8, 9, 10] ?_; (iterate 11 ((refine TkN.c _ ?_ (by simp only [gtA, gtS, gtZ]; rfl) (by kernel_rfl) (by kernel_rfl) (by rfl) (fun W hW => ?_) ?_; rotate_left; · (go_simp; try with_reducible rfl)); simp only [Act.put, puA, puZ, puS])); refine TkN.n ?_)
      refine WalkN.done (by kernel_rfl) ?_
      clear h1 h2 h3 h4 hli
      have hxx : (x != x) = false := by simp
      go_wp2_with fail
      go_roundw
      case rel => exact ⟨i + 1, HLT.out, by first | rw [HWI.out] | go_num, RX.out.trans DX.out⟩
      case measure => have := HLT.out; (try rw [HWI.out]); simp [intOf]; omega
    · obtain rfl : i = refs.length := by omega
      have RA := Lib.hid (A2.out.below RX.out)
      have RB := Lib.hid (B2.out.below RX.out)
      have XR := Lib.hid (X2.out.trans RX.out)
      have hA := RA.out.cells
      have hB := RB.out.cells
      clear hlt hi A2 B2 X2 RX
      go_wp2_with fail
      clear hA hB
      obtain ⟨w4, hw4⟩ : ∃ y, y = wr := ⟨_, rfl⟩
      rw [← hw4] at RA RB XR ⊢
      clear hw4
      go_loopw [59] (fun iv wr => ∃ i : Nat, i ≤ parts.length ∧ iv = .int .i64 i ∧ Ext w4 wr) (fun iv _ => parts.length - (intOf iv).toNat)
      case atStart => exact ⟨0, Nat.zero_le _, rfl, Ext.refl _⟩
      case round =>
        obtain ⟨i, hi, rfl, hx⟩ := hrel
        have RX := Lib.hid hx
        clear hx
        by_cases hlt : i < parts.length
        · have HLT := Lib.hid hlt
          obtain ⟨ao1, g1, he1, hg1, hg2, hc1⟩ := (H1.out.up (XR.out.trans RX.out)).rows
          obtain ⟨ao2, g3, he2, hg3, hg4, hc2⟩ := (H2.out.up (XR.out.trans RX.out)).rows
          dsimp only [FT.ps] at he1 he2 hg1 hg2 hg3 hg4 hc1 hc2
          cases he1
          cases he2
          obtain ⟨p1, q1, u, rfl, hp1, e0, e1, e2, e3, hu⟩ := hc1 i hlt
          obtain ⟨p2, q2, u', rfl, hp2, f0, f1, f2, f3, hu'⟩ := hc2 i hlt
          have HII := Lib.hid (HIH.out parts[i] (List.getElem_mem hlt))
          have HWI := Lib.hid (show wrap64 ((i : Int) + 1) = ((i + 1 : Nat) : Int) from by unfold wrap64; omega)
          have hli : (i : Int) < (parts.length : Int) := by omega
          generalize parts[i] = x at *
          obtain ⟨l1, m1, l2, m2, l4, m4, rfl⟩ := hu.shape
          obtain ⟨n1, o1, n2, o2, n4, o4, rfl⟩ := hu'.shape
          have HU := Lib.hid hu
          have HU' := Lib.hid hu'
          dsimp only at e0 e1 e2 e3 f0 f1 f2 f3
          have HP := Lib.hid (And.intro hp1 hp2)
          clear hlt hc1 hc2 hu hu' hp1 hp2 hg1 hg2 hg3 hg4
          go_wp2_with fail
          obtain ⟨wd, hwd⟩ : ∃ z : World, z = World.drew wr := ⟨_, rfl⟩
          have DX := Lib.hid (show Ext wr wd from by rw [hwd]; exact Ext.drew _)
          refine region_walkN (Ext wd) (by rw [← hwd]; exact Ext.refl _) (by kernel_rfl) (by kernel_rfl) (fun _ _ d _ _ h => by cases d <;> exact h) ?_
          rw [← hwd]
          clear hwd
          have h1 := fun W (h : Ext wd W) => (RA.out.below (RX.out.trans (DX.out.trans h))).cells
          have h2 := fun W (h : Ext wd W) => (RB.out.below (RX.out.trans (DX.out.trans h))).cells
          have k0 := fun W (h : Ext wd W) => Ext.cell (DX.out.trans h) e0
          have k1 := fun W (h : Ext wd W) => Ext.cell (DX.out.trans h) e1
          have k2 := fun W (h : Ext wd W) => Ext.cell (DX.out.trans h) e2
          have k3 := fun W (h : Ext wd W) => Ext.cell (DX.out.trans h) e3
          have j0 := fun W (h : Ext wd W) => Ext.cell (DX.out.trans h) f0
          have j1 := fun W (h : Ext wd W) => Ext.cell (DX.out.trans h) f1
          have j2 := fun W (h : Ext wd W) => Ext.cell (DX.out.trans h) f2
          have j3 := fun W (h : Ext wd W) => Ext.cell (DX.out.trans h) f3
          (refine WalkN.tk [0, 1, 2, 3, 4, 5, 6, 7, 8, 9] ?_; (iterate 10 ((refine TkN.c _ ?_ (by simp only [gtA, gtS, gtZ]; rfl) (by kernel_rfl) (by kernel_rfl) (by rfl) (fun W hW => ?_) ?_; rotate_left; · (go_simp; try with_reducible rfl)); simp only [Act.put, puA, puZ, puS])); refine TkN.n ?_)
          clear h1 h2 k0 k1 k2 k3 j0 j1 j2 j3 e0 e1 e2 e3 f0 f1 f2 f3
          have HCL := Lib.hid (HII.out _ _ wd (HU.out.up DX.out) (HU'.out.up DX.out))
          unfold fV at HCL
          dsimp only at HCL
          refine WalkN.one 10 (by kernel_rfl) ?_
          refine ⟨_, (by simp only [gtA, gtS, gtZ]; rfl), by rfl, fun K hK => ?_⟩
          go_simp
          refine HCL.out.mono ?_
          rintro e w5 ⟨rfl, hx5⟩
          refine hK.out _ _ hx5 ?_
          clear hK HCL
          have X5 := Lib.hid (show Ext wr w5 from DX.out.trans hx5)
          clear hx5
          ((refine WalkN.take 11 _ ?_ (by simp only [gtA, gtS, gtZ]; rfl) (by kernel_rfl) (by kernel_rfl) (by rfl) (fun W hW => ?_) ?_; rotate_left; · (go_simp; try with_reducible rfl)); simp only [Act.put, puA, puZ, puS])
          refine WalkN.done (by kernel_rfl) ?_
          clear hli
          go_wp2_with fail
          go_roundw
          case rel => exact ⟨i + 1, HLT.out, by first | rw [HWI.out] | go_num, RX.out.trans X5.out⟩
          case measure => have := HLT.out; (try rw [HWI.out]); simp [intOf]; omega
        · obtain rfl : i = parts.length := by omega
          go_wp2_with fail
          go_ret
          exact ⟨rfl, XR.out.trans RX.out⟩
set_option maxRecDepth 100000 in
set_option maxHeartbeats 4000000 in
theorem sameG_any (ps : List P3) (fs : List FT) (pv fv pv' fv' : Value) (w : World) (h : GrAt (· < w.heap.size) w ps fs pv fv) (h' : GrAt (· < w.heap.size) w ps fs pv' fv') :
    Calls Tryz.prog 20 #[.agg #[pv, fv], .agg #[pv', fv']] w fun e w' => e = .returned (.bool true) ∧ Ext w w' := by
  have H1 := Lib.hid h
  have H2 := Lib.hid h'
  obtain ⟨hp, q, hq, hqa, hf⟩ := h
  obtain ⟨hp', q', hq', hqa', hf'⟩ := h'
  obtain ⟨a1, c1, rfl, hm1, hm2, -⟩ := Sl.rows pC_length (by decide) (show Sl _ w 3 pv (ps.flatMap pC) from hp)
  obtain ⟨b1, d1, rfl, hm3, hm4, -⟩ := Sl.rows pC_length (by decide) (show Sl _ w 3 pv' (ps.flatMap pC) from hp')
  obtain ⟨a2, c2, rfl, hn1, hn2, hcell⟩ := Sl.rows fC_length (by decide) hf
  obtain ⟨b2, d2, rfl, hn3, hn4, hcell'⟩ := Sl.rows fC_length (by decide) hf'
  have hl : q.length = fs.length := by rw [← hq, List.length_map]
  have hl' : q'.length = fs.length := by rw [← hq', List.length_map]
  rw [hl'] at hn3 H2 ⊢
  rw [hl] at hn1 H1 ⊢
  have HQ := Lib.hid (And.intro hq (And.intro hl hqa))
  have HQ' := Lib.hid (And.intro hq' (And.intro hl' hqa'))
  have HC := Lib.hid hcell
  have HC' := Lib.hid hcell'
  have HPS := Lib.hid (And.intro hp hp')
  have HFL := Lib.hid (show fs.length ≤ 9223372036854775807 from by omega)
  obtain ⟨wa, hwa⟩ : ∃ x, x = w.alloc (.cells #[.slice a1 ps.length c1, .slice a2 fs.length c2] 37) := ⟨_, rfl⟩
  obtain ⟨wb, hwb⟩ : ∃ x, x = wa.alloc (.cells #[.slice b1 ps.length d1, .slice b2 fs.length d2] 37) := ⟨_, rfl⟩
  have ea : wa.heap.size = w.heap.size + 1 := by rw [hwa]; simp
  have xa : Ext w wa := by rw [hwa]; exact Ext.alloc _ _
  have xb : Ext wa wb := by rw [hwb]; exact Ext.alloc _ _
  have XB := Lib.hid (xa.trans xb)
  have BA := Lib.hid (show Blk wb w.heap.size #[.slice a1 ps.length c1, .slice a2 fs.length c2] 37 from Blk.below (by rw [hwa]; exact Blk.made _ _ _) xb)
  have BB := Lib.hid (show Blk wb (w.heap.size + 1) #[.slice b1 ps.length d1, .slice b2 fs.length d2] 37 from by rw [hwb, ← ea]; exact Blk.made _ _ _)
  clear ea xa xb hp hp' hq hq' hqa hqa' hf hf' hcell hcell' hl hl' H1 H2 hm1 hm2 hm3 hm4 hn1 hn2 hn3 hn4
  subst hwb hwa
  have hA := BA.out.cells
  have hB := BB.out.cells
  go_enter Tryz.func20, Tryz.ntmps20
  go_wp2_with fail
  refine (sameP_any _ _ ps _ ((HPS.out.1.same (Same.below XB.out)).mono fun _ h => Nat.lt_of_lt_of_le h XB.out.size) ((HPS.out.2.same (Same.below XB.out)).mono fun _ h => Nat.lt_of_lt_of_le h XB.out.size)).mono ?_
  rintro e w2 ⟨rfl, hx2⟩
  have X2 := Lib.hid (show Ext w w2 from XB.out.trans hx2)
  have A2 := Lib.hid (BA.out.below hx2)
  have B2 := Lib.hid (BB.out.below hx2)
  have hA2 := A2.out.cells
  have hB2 := B2.out.cells
  clear hx2 hA hB XB BA BB
  go_wp2_with fail
  clear hA2 hB2
  go_loopw [24] (fun iv wr => ∃ i : Nat, i ≤ fs.length ∧ iv = .int .i64 i ∧ Ext w2 wr) (fun iv _ => fs.length - (intOf iv).toNat)
  case atStart => exact ⟨0, Nat.zero_le _, rfl, Ext.refl _⟩
  case round =>
    obtain ⟨i, hi, rfl, hx⟩ := hrel
    have RX := Lib.hid hx
    clear hx
    by_cases hlt : i < fs.length
    · have HLT := Lib.hid hlt
      have hiq : i < q.length := by rw [HQ.out.2.1]; exact hlt
      have hiq' : i < q'.length := by rw [HQ'.out.2.1]; exact hlt
      obtain ⟨p1, q1, rfl, hp1, hc1⟩ := HC.out (by omega)
      obtain ⟨p2, q2, rfl, hp2, hc2⟩ := HC'.out (by omega)
      have g1 : (q[i]).1 = fs[i] := by simp only [← HQ.out.1, List.getElem_map]
      have g2 : (q'[i]).1 = fs[i] := by simp only [← HQ'.out.1, List.getElem_map]
      have hu := HQ.out.2.2 _ (List.getElem_mem hiq)
      have hu' := HQ'.out.2.2 _ (List.getElem_mem hiq')
      have e0 := hc1 i hiq 0 _ rfl
      have e1 := hc1 i hiq 1 _ rfl
      have e2 := hc1 i hiq 2 _ rfl
      have e3 := hc1 i hiq 3 _ rfl
      have f0 := hc2 i hiq' 0 _ rfl
      have f1 := hc2 i hiq' 1 _ rfl
      have f2 := hc2 i hiq' 2 _ rfl
      have f3 := hc2 i hiq' 3 _ rfl
      rw [g1] at hu e0
      rw [g2] at hu' f0
      generalize (q[i]).2 = u at *
      generalize (q'[i]).2 = u' at *
      generalize fs[i] = x at *
      clear g1 g2 hiq hiq' hlt hc1 hc2
      have HWI := Lib.hid (show wrap64 ((i : Int) + 1) = ((i + 1 : Nat) : Int) from by have h1 := HLT.out; have h2 := HFL.out; unfold wrap64; omega)
      have hli : (i : Int) < (fs.length : Int) := by have := HLT.out; omega
      obtain ⟨l1, m1, l2, m2, l4, m4, rfl⟩ := hu.shape
      obtain ⟨n1, o1, n2, o2, n4, o4, rfl⟩ := hu'.shape
      have HU := Lib.hid hu
      have HU' := Lib.hid hu'
      rw [Nat.add_zero] at e0 f0
      dsimp only at e0 e1 e2 e3 f0 f1 f2 f3
      clear hu hu' hp1 hp2
      go_wp2_with fail
      obtain ⟨wd, hwd⟩ : ∃ z : World, z = World.drew wr := ⟨_, rfl⟩
      have DX := Lib.hid (show Ext w2 wd from by rw [hwd]; exact RX.out.trans (Ext.drew _))
      refine region_walkN (Ext wd) (by rw [← hwd]; exact Ext.refl _) (by kernel_rfl) (by kernel_rfl) (fun _ _ d _ _ h => by cases d <;> exact h) ?_
      rw [← hwd]
      clear hwd
      have h1 := fun W (h : Ext wd W) => (A2.out.below (DX.out.trans h)).cells
      have h2 := fun W (h : Ext wd W) => (B2.out.below (DX.out.trans h)).cells
      have k0 := fun W (h : Ext wd W) => Ext.cell (X2.out.trans (DX.out.trans h)) e0
      have k1 := fun W (h : Ext wd W) => Ext.cell (X2.out.trans (DX.out.trans h)) e1
      have k2 := fun W (h : Ext wd W) => Ext.cell (X2.out.trans (DX.out.trans h)) e2
      have k3 := fun W (h : Ext wd W) => Ext.cell (X2.out.trans (DX.out.trans h)) e3
      have j0 := fun W (h : Ext wd W) => Ext.cell (X2.out.trans (DX.out.trans h)) f0
      have j1 := fun W (h : Ext wd W) => Ext.cell (X2.out.trans (DX.out.trans h)) f1
      have j2 := fun W (h : Ext wd W) => Ext.cell (X2.out.trans (DX.out.trans h)) f2
      have j3 := fun W (h : Ext wd W) => Ext.cell (X2.out.trans (DX.out.trans h)) f3
      (refine WalkN.tk [0, 1, 2, 3, 4, 5, 6, 7, 8, 9] ?_; (iterate 10 ((refine TkN.c _ ?_ (by simp only [gtA, gtS, gtZ]; rfl) (by kernel_rfl) (by kernel_rfl) (by rfl) (fun W hW => ?_) ?_; rotate_left; · (go_simp; try with_reducible rfl)); simp only [Act.put, puA, puZ, puS])); refine TkN.n ?_)
      clear h1 h2 k0 k1 k2 k3 j0 j1 j2 j3 e0 e1 e2 e3 f0 f1 f2 f3
      have HCL := Lib.hid (sameForm_any x _ _ wd (HU.out.up (X2.out.trans DX.out)) (HU'.out.up (X2.out.trans DX.out)))
      unfold fV at HCL
      dsimp only at HCL
      refine WalkN.one 10 (by kernel_rfl) ?_
      refine ⟨_, (by simp only [gtA, gtS, gtZ]; rfl), by rfl, fun K hK => ?_⟩
      go_simp
      refine HCL.out.mono ?_
      rintro e w5 ⟨rfl, hx5⟩
      refine hK.out _ _ hx5 ?_
      clear hK HCL
      have X5 := Lib.hid (show Ext w2 w5 from DX.out.trans hx5)
      clear hx5
      ((refine WalkN.take 11 _ ?_ (by simp only [gtA, gtS, gtZ]; rfl) (by kernel_rfl) (by kernel_rfl) (by rfl) (fun W hW => ?_) ?_; rotate_left; · (go_simp; try with_reducible rfl)); simp only [Act.put, puA, puZ, puS])
      refine WalkN.done (by kernel_rfl) ?_
      clear hli
      go_wp2_with fail
      go_roundw
      case rel => exact ⟨i + 1, HLT.out, by first | rw [HWI.out] | go_num, X5.out⟩
      case measure => have := HLT.out; (try rw [HWI.out]); simp [intOf]; omega
    · obtain rfl : i = fs.length := by omega
      go_wp2_with fail
      go_ret
      exact ⟨rfl, X2.out.trans RX.out⟩
end Go.Proofs.YtjdigpfipmckhaaGreat
namespace Go.Proofs.YtjdigpfipmckhaaGreat
open Go Go.RowKit Go.Maps
abbrev zF4 : Array Value := #[.int .i64 0, .slice none 0 0, .slice none 0 0, .slice none 0 0]
structure FrmI (wb w w' : World) (gp B : Nat) (pv fv : Value) (pb : Array Value) (k : Int) (rb : Array Value) (ps : List P3) (subs : List P3) (refs : List Int) (q : List (FT × FV3)) (sv rv qv pv' : Value) : Prop where
  fm : FmAt w' (w.heap.size + 4) (w.heap.size + 3) k subs refs q sv rv qv
  gk : GkAt w' gp B ps pv' fv
  pb : Blk w' w.heap.size pb 30
  rb : Blk w' (w.heap.size + 1) rb 98
  ob : Blk w' (w.heap.size + 2) zF4 90
  fn : Fine gp gp w w' pv pv'
  be : Below B wb w'
  wh : ∀ g, pv'.ownBlock = some g → pv.ownBlock = some g ∨ w.heap.size + 4 ≤ g
  sz : w.heap.size + 4 ≤ w'.heap.size
  p0 : ∀ g, pv.ownBlock = some g → g < w.heap.size
  g0 : B ≤ gp ∧ gp < w.heap.size
section
variable {wb w w' w2 w3 w4 : World} {gp B : Nat} {pv fv sv rv qv pv' pv2 : Value} {pb rb : Array Value} {k : Int} {ps ps2 subs : List P3} {refs : List Int} {q : List (FT × FV3)}
theorem FrmI.ext (h : FrmI wb w w' gp B pv fv pb k rb ps subs refs q sv rv qv pv') (hx : Ext w' w2) : FrmI wb w w2 gp B pv fv pb k rb ps subs refs q sv rv qv pv' :=
  ⟨h.fm.ext hx, h.gk.ext hx, h.pb.below hx, h.rb.below hx, h.ob.below hx, h.fn.trans (Fine.of _ _ _ hx), h.be.trans (hx.mono (by have := h.sz; have := h.g0; omega)), h.wh, Nat.le_trans h.sz hx.size, h.p0, h.g0⟩
theorem FrmI.num (h : FrmI wb w w' gp B pv fv pb k rb ps subs refs q sv rv qv pv') (hf : Fine gp gp w' w2 pv' pv2) (hg : GkAt w2 gp B ps2 pv2 fv) : FrmI wb w w2 gp B pv fv pb k rb ps2 subs refs q sv rv qv pv2 :=
  have hne : ∀ x, w.heap.size ≤ x → x < w.heap.size + 4 → pv'.ownBlock ≠ some x := fun x h1 h2 e => by
    rcases h.wh x e with e2 | e2
    · have := h.p0 x e2; omega
    · omega
  have hgp := h.g0.2
  ⟨h.fm.gfine h.gk hf h.g0.1 (by omega), hg, (hf.kept.block _ ⟨h.pb.lt, by omega, by omega, hne _ (by omega) (by omega)⟩).trans h.pb, hf.gblk h.gk h.rb (by decide) (by decide), hf.gblk h.gk h.ob (by decide) (by decide), h.fn.trans hf, h.be.trans (hf.gpk h.gk h.g0.1).below, fun g hg => by
    rcases hf.wher g hg with e | e
    · exact h.wh g e
    · exact .inr (Nat.le_trans h.sz e), Nat.le_trans h.sz hf.size, h.p0, h.g0⟩
theorem FrmI.cell {i : Nat} {u : Value} {q2 : List (FT × FV3)} {subs2 : List P3} {refs2 : List Int} {sv2 rv2 qv2 : Value} (h : FrmI wb w w' gp B pv fv pb k rb ps subs refs q sv rv qv pv') (hfm : FmAt (w'.setCell ⟨w.heap.size + 3, i, none⟩ u) (w.heap.size + 4) (w.heap.size + 3) k subs2 refs2 q2 sv2 rv2 qv2) : FrmI wb w (w'.setCell ⟨w.heap.size + 3, i, none⟩ u) gp B pv fv pb k rb ps subs2 refs2 q2 sv2 rv2 qv2 pv' :=
  ⟨hfm, h.gk.setBox h.fm.box (by decide) (by decide) u, h.pb.other (a := ⟨w.heap.size + 3, i, none⟩) (by show w.heap.size ≠ w.heap.size + 3; omega) u, h.rb.other (a := ⟨w.heap.size + 3, i, none⟩) (by show w.heap.size + 1 ≠ w.heap.size + 3; omega) u, h.ob.other (a := ⟨w.heap.size + 3, i, none⟩) (by show w.heap.size + 2 ≠ w.heap.size + 3; omega) u, h.fn.set (by omega) u, h.be.setCell (by have := h.g0; show B ≤ w.heap.size + 3; omega) u, h.wh, by simpa using h.sz, h.p0, h.g0⟩
theorem FrmI.setSubs {s2 : List P3} {sv' : Value} (h : FrmI wb w w' gp B pv fv pb k rb ps subs refs q sv rv qv pv') (hs : Own w' (w.heap.size + 4) 63 3 sv' (pcs s2)) : FrmI wb w (w'.setCell ⟨w.heap.size + 3, 1, none⟩ sv') gp B pv fv pb k rb ps s2 refs q sv' rv qv pv' := h.cell (h.fm.setSubs hs (by omega))
theorem FrmI.setRefs {r2 : List Int} {rv' : Value} (h : FrmI wb w w' gp B pv fv pb k rb ps subs refs q sv rv qv pv') (hs : Own w' (w.heap.size + 4) 3 1 rv' (ic r2)) : FrmI wb w (w'.setCell ⟨w.heap.size + 3, 2, none⟩ rv') gp B pv fv pb k rb ps subs r2 q sv rv' qv pv' := h.cell (h.fm.setRefs hs (by omega))
theorem FrmI.keep (h : FrmI wb w w' gp B pv fv pb k rb ps subs refs [] sv rv (.slice none 0 0) pv') (hk : Kept (fun b => b < w'.heap.size ∧ rv.ownBlock ≠ some b) w' w2) {rv2 : Value} {refs2 : List Int} (ho : Own w2 (w.heap.size + 4) 3 1 rv2 (ic refs2)) : FrmI wb w (w2.setCell ⟨w.heap.size + 3, 2, none⟩ rv2) gp B pv fv pb k rb ps subs refs2 [] sv rv2 (.slice none 0 0) pv' := by
  have nt : ∀ {x : Nat} {cs : Array Value} {t : TypeId} {fr : Nat × Nat}, w'.heap[x]? = some (.cells cs t fr) → t ≠ 3 → w2.heap[x]? = w'.heap[x]? := fun {x cs t fr} hx ht => hk.block x ⟨(Array.getElem?_eq_some_iff.1 hx).1, fun e => by
    obtain ⟨c2, h2⟩ := h.fm.refs.typed e
    rw [hx] at h2
    exact ht (by injection Option.some.inj h2)⟩
  have bk : ∀ {x : Nat} {cs : Array Value} {t : TypeId}, Blk w' x cs t → t ≠ 3 → Blk w2 x cs t := fun {x cs t} hx ht => (nt hx ht).trans hx
  have ow : ∀ {B : Nat} {t : TypeId} {sz : Nat} {v : Value} {xs : List Value}, Own w' B t sz v xs → t ≠ 3 → Own w2 B t sz v xs := fun {B t sz v xs} hx ht => hx.keepOwn fun g hg => by
    obtain ⟨c2, h2⟩ := hx.typed hg
    exact nt h2 ht
  have hlow : ∀ x, x < w.heap.size + 4 → w2.heap[x]? = w'.heap[x]? := fun x hx => hk.block x ⟨by have := h.sz; omega, fun e => by have := (h.fm.refs.block x e).1; omega⟩
  have hb : Blk w2 (w.heap.size + 3) #[.int .i64 k, sv, rv, .slice none 0 0] 90 := bk h.fm.box (by decide)
  have hg2 : GkAt w2 gp B ps pv' fv := ⟨bk h.gk.box (by decide), ow h.gk.pts (by decide)⟩
  refine ⟨⟨hb.set_to 2 rv2 rfl, (ow h.fm.subs (by decide)).setBox (x := w.heap.size + 3) hb (by decide) _, ho.setBox (x := w.heap.size + 3) hb (by decide) _, FRow.nil _ _⟩, hg2.setBox hb (by decide) (by decide) _, (bk h.pb (by decide)).other (a := ⟨w.heap.size + 3, 2, none⟩) (by show w.heap.size ≠ w.heap.size + 3; omega) _, (bk h.rb (by decide)).other (a := ⟨w.heap.size + 3, 2, none⟩) (by show w.heap.size + 1 ≠ w.heap.size + 3; omega) _, (bk h.ob (by decide)).other (a := ⟨w.heap.size + 3, 2, none⟩) (by show w.heap.size + 2 ≠ w.heap.size + 3; omega) _,
    Fine.set ⟨h.fn.kept.trans (hk.mono fun x (hx : KX gp gp w pv x) => ⟨by have := h.sz; have := hx.1; omega, fun e => by have := (h.fm.refs.block x e).1; have := hx.1; omega⟩), h.fn.wher⟩ (by omega) _, Below.setCell (h.be.trans ⟨hk.os, hk.tape, hk.output, hk.size, fun x hx => hlow x (by have := h.g0; omega)⟩) (by have := h.g0; show B ≤ w.heap.size + 3; omega) _, h.wh, by simpa using Nat.le_trans h.sz hk.size, h.p0, h.g0⟩
theorem FrmI.bx (h : FrmI wb w w' gp B pv fv pb k rb ps subs refs q sv rv qv pv') (hk : Kept (fun b => b < w'.heap.size ∧ rv.ownBlock ≠ some b) w' w2) : Blk w2 (w.heap.size + 3) #[.int .i64 k, sv, rv, qv] 90 := hk.blk h.fm.box ⟨h.fm.box.lt, fun e => by have := (h.fm.refs.block _ e).1; omega⟩
theorem FrmI.bg (h : FrmI wb w w' gp B pv fv pb k rb ps subs refs q sv rv qv pv') (hg : w'.grownBy w2 qv.ownBlock) : Blk w2 (w.heap.size + 3) #[.int .i64 k, sv, rv, qv] 90 := (hg.block _ h.fm.box.lt fun e => by have := (h.fm.parts.row.block _ e.symm).1; omega).trans h.fm.box
theorem FrmI.part {y : FT × FV3} {v' : Value} {n0 : Nat} (h : FrmI wb w w2 gp B pv fv pb k rb ps subs refs q sv rv qv pv') (hx3 : Ext w2 w3) (hg : w3.grownBy w4 qv.ownBlock) (ho : Own w4 (w.heap.size + 4) 90 4 v' (q.flatMap fC ++ fC y))
    (hb : ∀ g, v'.ownBlock = some g → qv.ownBlock = some g ∨ w3.heap.size ≤ g) (hy : FTAt (FS n0 w2) w2 y.1 y.2) (hn0 : w.heap.size + 4 ≤ n0) (hpv : ∀ g, qv.ownBlock = some g → g < n0) : FrmI wb w (w4.setCell ⟨w.heap.size + 3, 3, none⟩ v') gp B pv fv pb k rb ps subs refs (q ++ [y]) sv rv v' pv' := by
  have h3 := h.ext hx3
  have hq := h3.fm.parts.row
  have hlow : ∀ x, x < w.heap.size + 4 → w4.heap[x]? = w3.heap[x]? := fun x hx => hg.block x (by have := h3.sz; omega) fun e => by have := (hq.block x e.symm).1; omega
  have hbox : Blk w4 (w.heap.size + 3) _ _ := (hlow _ (by omega)).trans h3.fm.box
  refine ⟨h.fm.add hx3 hg ho hb hy hn0 hpv (by omega), (h3.gk.grown hq (by decide) (by decide) hg).setBox hbox (by decide) (by decide) _, Blk.other (show Blk w4 _ _ _ from (hlow _ (by omega)).trans h3.pb) (a := ⟨w.heap.size + 3, 3, none⟩) (by show w.heap.size ≠ w.heap.size + 3; omega) _, Blk.other (show Blk w4 _ _ _ from (hlow _ (by omega)).trans h3.rb) (a := ⟨w.heap.size + 3, 3, none⟩) (by show w.heap.size + 1 ≠ w.heap.size + 3; omega) _, Blk.other (show Blk w4 _ _ _ from (hlow _ (by omega)).trans h3.ob) (a := ⟨w.heap.size + 3, 3, none⟩) (by show w.heap.size + 2 ≠ w.heap.size + 3; omega) _,
    Fine.set ⟨h3.fn.kept.trans ⟨hg.os, hg.tape, hg.output, hg.size, fun x (hx : KX gp gp w pv x) => hlow x (by have := hx.1; omega)⟩, h3.fn.wher⟩ (by omega) _, Below.setCell (h3.be.trans ⟨hg.os, hg.tape, hg.output, hg.size, fun x hx => hlow x (by have := h.g0; omega)⟩) (by have := h.g0; show B ≤ w.heap.size + 3; omega) _, h.wh, by simpa using Nat.le_trans h3.sz hg.size, h.p0, h.g0⟩
end
end Go.Proofs.YtjdigpfipmckhaaGreat
