/- Lemmas for the claim, no condition. -/
import Derived.Test.YtjdigpfipmckhaaGreatYReWalks15
import Derived.Test.YtjdigpfipmckhaaGreatYReWalks19
namespace Go.Proofs.YtjdigpfipmckhaaGreat
open Go Go.RowKit Go.Maps
def nmsP (n : ByteArray) (l : List (ByteArray × RT)) : List R2 := ⟨n, ByteArray.empty⟩ :: l.map fun r => ⟨n, r.1⟩
theorem nmsP_take {n : ByteArray} {l : List (ByteArray × RT)} {i : Nat} (hi : i < l.length) : nmsP n (l.take (i + 1)) = nmsP n (l.take i) ++ [⟨n, l[i].1⟩] := by
  rw [List.take_succ_eq_append_getElem hi]
  simp only [nmsP, List.map_append, List.map_cons, List.map_nil, List.cons_append]
theorem nmsP_length (n : ByteArray) (l : List (ByteArray × RT)) : (nmsP n l).length = 1 + l.length := by simp [nmsP]; omega
theorem namesOf_le (ts : List TyS) (i : Nat) : (namesOf (ts.take i)).length ≤ (namesOf ts).length := by
  conv => rhs; rw [← List.take_append_drop i ts]
  simp only [namesOf, List.flatMap_append, List.length_append]
  omega
set_option maxRecDepth 100000 in
set_option maxHeartbeats 8000000 in
theorem checkP_any (ts : List TyS) (tv : Value) (w : World) (h : TysAt (· < w.heap.size) w ts tv) (hok : ∀ t ∈ ts, t.Ok) (hsB : schB ts ≤ 549755813888) (hsz : ∀ t ∈ ts, ∀ r ∈ t.rels, r.2.sz ≤ 1000000) (hln : (namesOf ts).length ≤ 1099511627776) (hlr : (refsOf ts).length ≤ 1099511627776) :
    Calls Tryz.prog 51 #[.agg #[tv]] w fun e w' => e = .returned (.int .i64 (chk06 ts)) ∧ Below w.heap.size w w' := by
  have hb0 : Below w.heap.size w (w.alloc (.cells #[tv] 24)) := (Below.refl _ _).alloc (Nat.le_refl _) _
  have HPR := Lib.hid (wprint_any ts tv _ (h.up hb0) hsB)
  have HTS := Lib.hid h
  have HOK := Lib.hid hok
  have HSZ := Lib.hid hsz
  have HLN := Lib.hid hln
  have HLR := Lib.hid hlr
  obtain ⟨ao, c, rfl, hlc, hcm, hcell⟩ := h.rows
  have HC := Lib.hid hcell
  have hS0 := Blk.made w #[.slice ao ts.length c] 24
  have hs0 := hS0.cells
  have HS0 := Lib.hid hS0
  have HB0 := Lib.hid hb0
  have hmm := @run_makeMap Tryz.prog
  have HG := Lib.hid (show chk06 ts = if printOk ts then (if longOk ts then (if uniqOk ts then (if namesOk ts then 0 else 2) else 3) else 10) else 9 from rfl)
  generalize chk06 ts = g at *
  clear h hcell hok hsB hsz hS0 hb0 hln hlr
  go_enter Tryz.func51, Tryz.ntmps51
  go_wp2_with fail
  refine HPR.out.mono ?_
  rintro e w2 ⟨rfl, hb2⟩
  have HB2 := Lib.hid (HB0.out.trans (hb2.mono HB0.out.size))
  have HS2 := Lib.hid (HS0.out.below hb2)
  clear HPR hb2 hs0
  cases hp : printOk ts with
  | false =>
    have HF := Lib.hid (show g = 9 from by rw [HG.out, hp]; rfl)
    rw [show prN false = 9 from rfl]
    clear hp
    go_wp2_with fail
    go_ret
    exact ⟨by rw [HF.out]; rfl, HB2.out⟩
  | true =>
    rw [show prN true = 0 from rfl]
    have HP := Lib.hid hp
    clear hp
    have s3 := (HS2.out.alloc (.map #[] 0)).cells
    go_wp2_with fail
    obtain ⟨w3, hw3⟩ : ∃ x, x = w2.alloc (.map #[] 0) := ⟨_, rfl⟩
    rw [← hw3] at s3 ⊢
    obtain ⟨bn, hbn⟩ : ∃ x, x = w2.heap.size := ⟨_, rfl⟩
    rw [← hbn]
    have x23 : Ext w2 w3 := by rw [hw3]; exact Ext.alloc _ _
    have HM0 := Lib.hid (show Mp Tryz.prog 102 r2V bV w3 bn (blR []) from by rw [hw3, hbn]; exact Mp.made _)
    have HBN := Lib.hid (show w.heap.size ≤ bn from by rw [hbn]; exact HB2.out.size)
    have HB3 := Lib.hid (show Below w.heap.size w w3 from HB2.out.trans (Below.mono x23 HB2.out.size))
    have HS3 := Lib.hid (HS2.out.below x23)
    have HNS := Lib.hid (show w.heap.size ≠ bn from by have := HS2.out.lt; omega)
    clear hw3 x23 hbn s3
    obtain ⟨c16, hc16⟩ : ∃ x, x = decide (ts.length ≤ 16) := ⟨_, rfl⟩
    rw [show (decide ((16 : Int) < (ts.length : Int))) = !c16 from by rw [hc16]; by_cases h : ts.length ≤ 16 <;> simp [h] <;> omega]
    have HC16 := Lib.hid hc16
    clear hc16
    go_loopw [6, 7, 30] (fun av lv ii wr => ∃ (i : Nat) (N : List R2) (o : Bool), i ≤ ts.length ∧ ii = .int .i64 i ∧ av = .int .i64 (((namesOf (ts.take i)).length : Nat) : Int) ∧ lv = .bool o ∧ o = !(c16 && (ts.take i).all tyLong) ∧ Mp Tryz.prog 102 r2V bV wr bn (blR N) ∧ NamesI (namesOf (ts.take i)) N ∧ Tk bn w3 wr) (fun _ _ ii _ => ts.length - (intOf ii).toNat)
    case atStart => exact ⟨0, [], !c16, by omega, rfl, rfl, rfl, by simp, HM0.out, NamesI.nil, Tk.refl _ _⟩
    case round =>
      obtain ⟨i, N, o, hi, rfl, rfl, rfl, ho, hm, hn, htk⟩ := hrel
      have HO := Lib.hid ho
      have HM := Lib.hid hm
      have HN := Lib.hid hn
      have HTK := Lib.hid htk
      clear HM0 ho hm hn
      by_cases hlt : i < ts.length
      · have hbel : Below w.heap.size w wr := HB3.out.trans (htk.below HB3.out.size HBN.out)
        obtain ⟨bb, off, rsv, hbo, hb, c0, c1, hat2⟩ := HC.out i hlt
        cases hbo
        have d0 := (hbel.cell (p := ⟨bb, off + i * 2, none⟩) hb).trans c0
        have d1 := (hbel.cell (p := ⟨bb, off + i * 2 + 1, none⟩) hb).trans c1
        have hokt := HOK.out _ (List.getElem_mem hlt)
        have HSZT := Lib.hid (HSZ.out _ (List.getElem_mem hlt))
        have HNT := Lib.hid (namesOf_take hlt)
        have HLE := Lib.hid (namesOf_le ts (i + 1))
        have HI1 := Lib.hid hlt
        generalize hti : ts[i] = t at *
        have HTI := Lib.hid hti
        obtain ⟨tn, rels⟩ := t
        dsimp only at *
        obtain ⟨hon, hor⟩ := hokt
        dsimp only at hon hor
        have HNT := Lib.hid (show namesOf (ts.take (i + 1)) = namesOf (ts.take i) ++ nmsP tn rels from HNT.out)
        have HKT := Lib.hid (show tn.size ≤ maxLen from by unfold maxLen; omega)
        have HORT := Lib.hid hor
        obtain ⟨ao2, c2', rfl, hlc3, hcm3, hcell3⟩ := hat2.rows
        have HC3 := Lib.hid hcell3
        have hea : Ext wr (wr.alloc (.cells #[.string tn, .slice ao2 rels.length c2'] 95)) := Ext.alloc _ _
        have HTA0 := Lib.hid (Blk.made wr #[.string tn, .slice ao2 rels.length c2'] 95)
        have hta := HTA0.out.cells
        have HNTB := Lib.hid (show wr.heap.size ≠ bn from by have := HM.out.lt; omega)
        obtain ⟨w4, hst, hM4, hT4⟩ := (HM.out.below hea).store refK r2V_inj Tryz.underlying113 (ref_key ⟨tn, ByteArray.empty⟩ ⟨HKT.out, by show ByteArray.empty.size ≤ maxLen; exact Nat.zero_le _⟩) true
        rw [put_addR] at hM4
        unfold r2V bV at hst
        dsimp only at hst
        rw [show (ByteArray.empty : ByteArray) = ⟨#[]⟩ from rfl] at hst
        have HM4 := Lib.hid hM4
        have HTK4 := Lib.hid (Tk.next htk (Tk.next (Tk.of hea) (Tk.turned hT4)))
        have HTA := Lib.hid ((Tk.turned hT4).box HTA0.out HNTB.out)
        have ht4 := HTA.out.cells
        have HB4 := Lib.hid (HB3.out.trans (HTK4.out.below HB3.out.size HBN.out))
        have HN4 := Lib.hid (show NamesI (namesOf (ts.take i) ++ nmsP tn (rels.take 0)) (addR N ⟨tn, ByteArray.empty⟩) from by rw [List.take_zero]; exact HN.out.step _)
        have hal : (namesOf (ts.take i)).length + (1 + rels.length) ≤ 1099511627776 := by
          have h1 := HLE.out
          have h2 := HLN.out
          rw [HNT.out, List.length_append, nmsP_length] at h1
          omega
        have hw1 : wrap64 (1 + (rels.length : Int)) = 1 + (rels.length : Int) := wrap_in _ (by omega) (by omega)
        have hw2 : wrap64 (((namesOf (ts.take i)).length : Int) + (1 + (rels.length : Int))) = ((namesOf (ts.take i)).length : Int) + (1 + (rels.length : Int)) := wrap_in _ (by omega) (by omega)
        have HW2 := Lib.hid hw2
        clear c0 c1 hat2 hcell3 hbel htk hor hon hM4 hT4 hea hti hal
        have HNT2 := Lib.hid HNTB.out
        cases o with
        | true =>
          obtain ⟨g1, hg1⟩ : ∃ g1, g1 = (c16 && (ts.take i).all tyLong && decide (rels.length ≤ 16)) := ⟨_, rfl⟩
          have HG1 := Lib.hid hg1
          have HOT := Lib.hid (show true = !g1 from by
            rw [hg1]
            have := HO.out
            revert this
            cases c16 <;> cases (ts.take i).all tyLong <;> simp)
          clear hg1
          go_wp2_with fail
          clear hta ht4 hst d0 d1 hw1 hw2 hlt
          generalize wr.heap.size = tb at *
          go_loopw [7, 54] (fun lv jj wr => ∃ (j : Nat) (N : List R2) (o : Bool), j ≤ rels.length ∧ jj = .int .i64 j ∧ lv = .bool o ∧ o = !(g1 && (rels.take j).all fun r => decide (r.2.sz ≤ 32)) ∧ Mp Tryz.prog 102 r2V bV wr bn (blR N) ∧ NamesI (namesOf (ts.take i) ++ nmsP tn (rels.take j)) N ∧ Tk bn w4 wr) (fun _ jj _ => rels.length - (intOf jj).toNat)
          case atStart => exact ⟨0, addR N ⟨tn, ByteArray.empty⟩, true, by omega, rfl, rfl, by rw [List.take_zero]; first | (simp; done) | (simpa using HOT.out), HM4.out, HN4.out, Tk.refl _ _⟩
          case round =>
            obtain ⟨j, N, o, hj, rfl, rfl, ho, hm, hn, htk⟩ := hrel
            have HOR := Lib.hid ho
            have HMR := Lib.hid hm
            have HNI := Lib.hid hn
            have HTKR := Lib.hid htk
            clear HM4 HN4 ho hm hn
            by_cases hlt : j < rels.length
            · have hbel : Below w.heap.size w wr := HB4.out.trans (htk.below HB4.out.size HBN.out)
              have HOR1 := HORT.out _ (List.getElem_mem hlt)
              have hsz1 := HSZT.out _ (List.getElem_mem hlt)
              have HJ1 := Lib.hid hlt
              have HNP := Lib.hid (nmsP_take (n := tn) hlt)
              have HJS := Lib.hid (show ((rels.take (j + 1)).all fun r => decide (r.2.sz ≤ 32)) = ((rels.take j).all (fun r => decide (r.2.sz ≤ 32)) && decide (rels[j].2.sz ≤ 32)) from by rw [List.take_succ_eq_append_getElem hlt, List.all_append]; simp only [List.all_cons, List.all_nil, Bool.and_true]; rfl)
              obtain ⟨bb, off, pv, hbo, hb, c0, c1, c2, c3, c4, hat2⟩ := HC3.out j hlt
              cases hbo
              have d0 := (hbel.cell (p := ⟨bb, off + j * 5, none⟩) hb).trans c0
              have d1 := (hbel.cell (p := ⟨bb, off + j * 5 + 1, none⟩) hb).trans c1
              have d2 := (hbel.cell (p := ⟨bb, off + j * 5 + 2, none⟩) hb).trans c2
              have d3 := (hbel.cell (p := ⟨bb, off + j * 5 + 3, none⟩) hb).trans c3
              have d4 := (hbel.cell (p := ⟨bb, off + j * 5 + 4, none⟩) hb).trans c4
              obtain ⟨ao3, c3', rfl, -⟩ := hat2.rows
              generalize rels[j] = x at *
              obtain ⟨xn, p⟩ := x
              dsimp only at *
              have HKX := Lib.hid (show xn.size ≤ maxLen from by have := HOR1.1; unfold maxLen; omega)
              have hea : Ext wr (wr.alloc (.cells #[.string xn, .int .i64 p.k, .string p.a, .string p.b, .slice ao3 p.ps.length c3'] 100)) := Ext.alloc _ _
              have HRB := Lib.hid (Blk.made wr #[.string xn, .int .i64 p.k, .string p.a, .string p.b, .slice ao3 p.ps.length c3'] 100)
              have hbx := HRB.out.cells
              have HSZ4 := Lib.hid (sizeR_any p _ _ (RTAt.mono (hat2.same (Same.below (hbel.trans (hea.mono hbel.size)))) (fun x hx => Nat.lt_of_lt_of_le hx (Nat.le_trans hbel.size hea.size))) hsz1)
              unfold rV at HSZ4
              clear c0 c1 c2 c3 c4 hat2 hb htk hbel HOR1 hsz1 hlt
              cases o with
              | true =>
                have HXE := Lib.hid (show Ext wr (wr.alloc (.cells #[.string xn, .int .i64 p.k, .string p.a, .string p.b, .slice ao3 p.ps.length c3'] 100)) from hea)
                obtain ⟨w6, hst, hM6, hT6⟩ := (HMR.out.below HXE.out).store refK r2V_inj Tryz.underlying113 (ref_key ⟨tn, xn⟩ ⟨HKT.out, HKX.out⟩) true
                rw [put_addR] at hM6
                unfold r2V bV at hst
                dsimp only at hst
                have HM6 := Lib.hid hM6
                have HTK6 := Lib.hid (Tk.next HTKR.out (Tk.next (Tk.of HXE.out) (Tk.turned hT6)))
                have r5 := HRB.out.cells
                have t5 := ((HTKR.out.box HTA.out HNT2.out).below HXE.out).cells
                clear hM6 hT6
                have HO6 := Lib.hid (show true = !(g1 && (rels.take (j + 1)).all fun r => decide (r.2.sz ≤ 32)) from by
                  rw [HJS.out]
                  have := HOR.out
                  revert this
                  cases g1 <;> cases (rels.take j).all fun r => decide (r.2.sz ≤ 32) <;> simp)
                have HN6 := Lib.hid (show NamesI (namesOf (ts.take i) ++ nmsP tn (rels.take (j + 1))) (addR N ⟨tn, xn⟩) from by
                  rw [HNP.out, ← List.append_assoc]
                  exact HNI.out.step _)
                have hlt2 := HJ1.out
                clear HXE
                go_wp2_with fail
                clear r5 t5 hst d0 d1 d2 d3 d4
                go_roundw
                case rel => exact ⟨j + 1, addR N ⟨tn, xn⟩, true, by omega, by go_num, rfl, HO6.out, HM6.out, HN6.out, HTK6.out⟩
                case measure => simp [intOf]; omega
              | false =>
                go_wp2_with fail
                refine HSZ4.out.mono ?_
                rintro e w5 ⟨rfl, hb5⟩
                have HB5 := Lib.hid hb5
                clear HSZ4 hb5
                have HXE := Lib.hid (show Ext wr w5 from Ext.trans hea HB5.out)
                obtain ⟨w6, hst, hM6, hT6⟩ := (HMR.out.below HXE.out).store refK r2V_inj Tryz.underlying113 (ref_key ⟨tn, xn⟩ ⟨HKT.out, HKX.out⟩) true
                rw [put_addR] at hM6
                unfold r2V bV at hst
                dsimp only at hst
                have HM6 := Lib.hid hM6
                have HTK6 := Lib.hid (Tk.next HTKR.out (Tk.next (Tk.of HXE.out) (Tk.turned hT6)))
                have r5 := (HRB.out.below HB5.out).cells
                have t5 := ((HTKR.out.box HTA.out HNT2.out).below HXE.out).cells
                clear hM6 hT6
                have HO6 := Lib.hid (show (decide ((32 : Int) < (p.sz : Int))) = !(g1 && (rels.take (j + 1)).all fun r => decide (r.2.sz ≤ 32)) from by
                  rw [HJS.out]
                  have := HOR.out
                  rw [show (decide ((32 : Int) < (p.sz : Int))) = !decide (p.sz ≤ 32) from by by_cases h : p.sz ≤ 32 <;> simp [h] <;> omega]
                  revert this
                  cases g1 <;> cases (rels.take j).all fun r => decide (r.2.sz ≤ 32) <;> simp)
                have HN6 := Lib.hid (show NamesI (namesOf (ts.take i) ++ nmsP tn (rels.take (j + 1))) (addR N ⟨tn, xn⟩) from by
                  rw [HNP.out, ← List.append_assoc]
                  exact HNI.out.step _)
                have hlt2 := HJ1.out
                clear HXE
                go_wp2_with fail
                clear r5 t5 hst d0 d1 d2 d3 d4
                go_roundw
                case rel => exact ⟨j + 1, addR N ⟨tn, xn⟩, (decide ((32 : Int) < (p.sz : Int))), by omega, by go_num, rfl, HO6.out, HM6.out, HN6.out, HTK6.out⟩
                case measure => simp [intOf]; omega
            · obtain rfl : j = rels.length := by omega
              rw [List.take_length] at HOR HNI
              have HOE := Lib.hid (show o = !(c16 && (ts.take (i + 1)).all tyLong) from by
                have he : ts[i]'HI1.out = ⟨tn, rels⟩ := HTI.out
                rw [HOR.out, HG1.out, List.take_succ_eq_append_getElem HI1.out, List.all_append, he]
                show _ = !(c16 && ((ts.take i).all tyLong && (tyLong ⟨tn, rels⟩ && true)))
                unfold tyLong
                dsimp only
                simp only [Bool.and_assoc, Bool.and_true])
              have HNE := Lib.hid (show NamesI (namesOf (ts.take (i + 1))) N from by rw [HNT.out]; exact HNI.out)
              have HAE := Lib.hid (show Value.int .i64 (wrap64 (((namesOf (ts.take i)).length : Int) + (1 + (rels.length : Int)))) = .int .i64 (((namesOf (ts.take (i + 1))).length : Nat) : Int) from by
                have e : (((namesOf (ts.take i)).length : Int) + (1 + (rels.length : Int))) = (((namesOf (ts.take (i + 1))).length : Nat) : Int) := by
                  rw [HNT.out, List.length_append, nmsP_length]
                  omega
                rw [HW2.out, e])
              have HTE := Lib.hid (Tk.next HTK4.out htk)
              have hlt2 := HI1.out
              clear htk
              go_wp2_with fail
              go_roundw
              case rel => exact ⟨i + 1, N, o, by omega, by go_num, HAE.out, rfl, HOE.out, HMR.out, HNE.out, HTE.out⟩
              case measure => simp [intOf]; omega
        | false =>
          obtain ⟨g1, hg1⟩ : ∃ g1, g1 = (c16 && (ts.take i).all tyLong && decide (rels.length ≤ 16)) := ⟨_, rfl⟩
          have HG1 := Lib.hid hg1
          have HOT := Lib.hid (show (decide ((16 : Int) < (rels.length : Int))) = !g1 from by
            rw [hg1]
            have := HO.out
            revert this
            rw [show (decide ((16 : Int) < (rels.length : Int))) = !decide (rels.length ≤ 16) from by by_cases h : rels.length ≤ 16 <;> simp [h] <;> omega]
            cases c16 <;> cases (ts.take i).all tyLong <;> simp)
          clear hg1
          go_wp2_with fail
          clear hta ht4 hst d0 d1 hw1 hw2 hlt
          rw [HOT.out]
          have HOT := Lib.hid (show (!g1) = !g1 from rfl)
          generalize wr.heap.size = tb at *
          go_loopw [7, 54] (fun lv jj wr => ∃ (j : Nat) (N : List R2) (o : Bool), j ≤ rels.length ∧ jj = .int .i64 j ∧ lv = .bool o ∧ o = !(g1 && (rels.take j).all fun r => decide (r.2.sz ≤ 32)) ∧ Mp Tryz.prog 102 r2V bV wr bn (blR N) ∧ NamesI (namesOf (ts.take i) ++ nmsP tn (rels.take j)) N ∧ Tk bn w4 wr) (fun _ jj _ => rels.length - (intOf jj).toNat)
          case atStart => exact ⟨0, addR N ⟨tn, ByteArray.empty⟩, !g1, by omega, rfl, rfl, by rw [List.take_zero]; first | (simp; done) | (simpa using HOT.out), HM4.out, HN4.out, Tk.refl _ _⟩
          case round =>
            obtain ⟨j, N, o, hj, rfl, rfl, ho, hm, hn, htk⟩ := hrel
            have HOR := Lib.hid ho
            have HMR := Lib.hid hm
            have HNI := Lib.hid hn
            have HTKR := Lib.hid htk
            clear HM4 HN4 ho hm hn
            by_cases hlt : j < rels.length
            · have hbel : Below w.heap.size w wr := HB4.out.trans (htk.below HB4.out.size HBN.out)
              have HOR1 := HORT.out _ (List.getElem_mem hlt)
              have hsz1 := HSZT.out _ (List.getElem_mem hlt)
              have HJ1 := Lib.hid hlt
              have HNP := Lib.hid (nmsP_take (n := tn) hlt)
              have HJS := Lib.hid (show ((rels.take (j + 1)).all fun r => decide (r.2.sz ≤ 32)) = ((rels.take j).all (fun r => decide (r.2.sz ≤ 32)) && decide (rels[j].2.sz ≤ 32)) from by rw [List.take_succ_eq_append_getElem hlt, List.all_append]; simp only [List.all_cons, List.all_nil, Bool.and_true]; rfl)
              obtain ⟨bb, off, pv, hbo, hb, c0, c1, c2, c3, c4, hat2⟩ := HC3.out j hlt
              cases hbo
              have d0 := (hbel.cell (p := ⟨bb, off + j * 5, none⟩) hb).trans c0
              have d1 := (hbel.cell (p := ⟨bb, off + j * 5 + 1, none⟩) hb).trans c1
              have d2 := (hbel.cell (p := ⟨bb, off + j * 5 + 2, none⟩) hb).trans c2
              have d3 := (hbel.cell (p := ⟨bb, off + j * 5 + 3, none⟩) hb).trans c3
              have d4 := (hbel.cell (p := ⟨bb, off + j * 5 + 4, none⟩) hb).trans c4
              obtain ⟨ao3, c3', rfl, -⟩ := hat2.rows
              generalize rels[j] = x at *
              obtain ⟨xn, p⟩ := x
              dsimp only at *
              have HKX := Lib.hid (show xn.size ≤ maxLen from by have := HOR1.1; unfold maxLen; omega)
              have hea : Ext wr (wr.alloc (.cells #[.string xn, .int .i64 p.k, .string p.a, .string p.b, .slice ao3 p.ps.length c3'] 100)) := Ext.alloc _ _
              have HRB := Lib.hid (Blk.made wr #[.string xn, .int .i64 p.k, .string p.a, .string p.b, .slice ao3 p.ps.length c3'] 100)
              have hbx := HRB.out.cells
              have HSZ4 := Lib.hid (sizeR_any p _ _ (RTAt.mono (hat2.same (Same.below (hbel.trans (hea.mono hbel.size)))) (fun x hx => Nat.lt_of_lt_of_le hx (Nat.le_trans hbel.size hea.size))) hsz1)
              unfold rV at HSZ4
              clear c0 c1 c2 c3 c4 hat2 hb htk hbel HOR1 hsz1 hlt
              cases o with
              | true =>
                have HXE := Lib.hid (show Ext wr (wr.alloc (.cells #[.string xn, .int .i64 p.k, .string p.a, .string p.b, .slice ao3 p.ps.length c3'] 100)) from hea)
                obtain ⟨w6, hst, hM6, hT6⟩ := (HMR.out.below HXE.out).store refK r2V_inj Tryz.underlying113 (ref_key ⟨tn, xn⟩ ⟨HKT.out, HKX.out⟩) true
                rw [put_addR] at hM6
                unfold r2V bV at hst
                dsimp only at hst
                have HM6 := Lib.hid hM6
                have HTK6 := Lib.hid (Tk.next HTKR.out (Tk.next (Tk.of HXE.out) (Tk.turned hT6)))
                have r5 := HRB.out.cells
                have t5 := ((HTKR.out.box HTA.out HNT2.out).below HXE.out).cells
                clear hM6 hT6
                have HO6 := Lib.hid (show true = !(g1 && (rels.take (j + 1)).all fun r => decide (r.2.sz ≤ 32)) from by
                  rw [HJS.out]
                  have := HOR.out
                  revert this
                  cases g1 <;> cases (rels.take j).all fun r => decide (r.2.sz ≤ 32) <;> simp)
                have HN6 := Lib.hid (show NamesI (namesOf (ts.take i) ++ nmsP tn (rels.take (j + 1))) (addR N ⟨tn, xn⟩) from by
                  rw [HNP.out, ← List.append_assoc]
                  exact HNI.out.step _)
                have hlt2 := HJ1.out
                clear HXE
                go_wp2_with fail
                clear r5 t5 hst d0 d1 d2 d3 d4
                go_roundw
                case rel => exact ⟨j + 1, addR N ⟨tn, xn⟩, true, by omega, by go_num, rfl, HO6.out, HM6.out, HN6.out, HTK6.out⟩
                case measure => simp [intOf]; omega
              | false =>
                go_wp2_with fail
                refine HSZ4.out.mono ?_
                rintro e w5 ⟨rfl, hb5⟩
                have HB5 := Lib.hid hb5
                clear HSZ4 hb5
                have HXE := Lib.hid (show Ext wr w5 from Ext.trans hea HB5.out)
                obtain ⟨w6, hst, hM6, hT6⟩ := (HMR.out.below HXE.out).store refK r2V_inj Tryz.underlying113 (ref_key ⟨tn, xn⟩ ⟨HKT.out, HKX.out⟩) true
                rw [put_addR] at hM6
                unfold r2V bV at hst
                dsimp only at hst
                have HM6 := Lib.hid hM6
                have HTK6 := Lib.hid (Tk.next HTKR.out (Tk.next (Tk.of HXE.out) (Tk.turned hT6)))
                have r5 := (HRB.out.below HB5.out).cells
                have t5 := ((HTKR.out.box HTA.out HNT2.out).below HXE.out).cells
                clear hM6 hT6
                have HO6 := Lib.hid (show (decide ((32 : Int) < (p.sz : Int))) = !(g1 && (rels.take (j + 1)).all fun r => decide (r.2.sz ≤ 32)) from by
                  rw [HJS.out]
                  have := HOR.out
                  rw [show (decide ((32 : Int) < (p.sz : Int))) = !decide (p.sz ≤ 32) from by by_cases h : p.sz ≤ 32 <;> simp [h] <;> omega]
                  revert this
                  cases g1 <;> cases (rels.take j).all fun r => decide (r.2.sz ≤ 32) <;> simp)
                have HN6 := Lib.hid (show NamesI (namesOf (ts.take i) ++ nmsP tn (rels.take (j + 1))) (addR N ⟨tn, xn⟩) from by
                  rw [HNP.out, ← List.append_assoc]
                  exact HNI.out.step _)
                have hlt2 := HJ1.out
                clear HXE
                go_wp2_with fail
                clear r5 t5 hst d0 d1 d2 d3 d4
                go_roundw
                case rel => exact ⟨j + 1, addR N ⟨tn, xn⟩, (decide ((32 : Int) < (p.sz : Int))), by omega, by go_num, rfl, HO6.out, HM6.out, HN6.out, HTK6.out⟩
                case measure => simp [intOf]; omega
            · obtain rfl : j = rels.length := by omega
              rw [List.take_length] at HOR HNI
              have HOE := Lib.hid (show o = !(c16 && (ts.take (i + 1)).all tyLong) from by
                have he : ts[i]'HI1.out = ⟨tn, rels⟩ := HTI.out
                rw [HOR.out, HG1.out, List.take_succ_eq_append_getElem HI1.out, List.all_append, he]
                show _ = !(c16 && ((ts.take i).all tyLong && (tyLong ⟨tn, rels⟩ && true)))
                unfold tyLong
                dsimp only
                simp only [Bool.and_assoc, Bool.and_true])
              have HNE := Lib.hid (show NamesI (namesOf (ts.take (i + 1))) N from by rw [HNT.out]; exact HNI.out)
              have HAE := Lib.hid (show Value.int .i64 (wrap64 (((namesOf (ts.take i)).length : Int) + (1 + (rels.length : Int)))) = .int .i64 (((namesOf (ts.take (i + 1))).length : Nat) : Int) from by
                have e : (((namesOf (ts.take i)).length : Int) + (1 + (rels.length : Int))) = (((namesOf (ts.take (i + 1))).length : Nat) : Int) := by
                  rw [HNT.out, List.length_append, nmsP_length]
                  omega
                rw [HW2.out, e])
              have HTE := Lib.hid (Tk.next HTK4.out htk)
              have hlt2 := HI1.out
              clear htk
              go_wp2_with fail
              go_roundw
              case rel => exact ⟨i + 1, N, o, by omega, by go_num, HAE.out, rfl, HOE.out, HMR.out, HNE.out, HTE.out⟩
              case measure => simp [intOf]; omega
      · obtain rfl : i = ts.length := by omega
        rw [List.take_length] at HO HN
        have hlg : longOk ts = !o := by rw [HO.out, HC16.out]; unfold longOk; simp
        have HB4 := Lib.hid (HB3.out.trans (htk.below HB3.out.size HBN.out))
        have HG2 := Lib.hid (show g = if longOk ts then (if uniqOk ts then (if namesOk ts then 0 else 2) else 3) else 10 from by rw [HG.out, if_pos HP.out])
        have HST := Lib.hid (htk.box HS3.out HNS.out)
        have hmlen := HM.out.len Tryz.underlying113
        have hbl : (blR N).length = N.length := by simp [blR]
        rw [hbl] at hmlen
        have HNL := Lib.hid HN.out.lt
        have HOB := Lib.hid (fun (hu : uniqOk ts = true) => open_bk ts _ wr (HTS.out.up HB4.out) HOK.out hu HLR.out)
        have s4 := HST.out.cells
        clear htk hbl
        cases o with
        | true =>
          have HF := Lib.hid (show g = 10 from by rw [HG2.out, hlg]; rfl)
          clear hlg
          go_wp2_with fail
          go_ret
          exact ⟨by rw [HF.out]; rfl, HB4.out⟩
        | false =>
          have HG3 := Lib.hid (show g = if uniqOk ts then (if namesOk ts then 0 else 2) else 3 from by rw [HG2.out, hlg]; rfl)
          clear hlg
          by_cases hnd : (namesOf ts).Nodup
          rotate_left
          · have HF := Lib.hid (show g = 3 from by rw [HG3.out, if_neg (fun h => hnd ((names_nodup HP.out).2 h))])
            have hlt : (N.length : Int) < ((namesOf ts).length : Int) := by have := HNL.out.2 hnd; omega
            clear hnd
            go_wp2_with fail
            go_ret
            exact ⟨by rw [HF.out]; rfl, HB4.out⟩
          have hu := (names_nodup HP.out).1 hnd
          have HU := Lib.hid hu
          have HG4 := Lib.hid (show g = if namesOk ts then 0 else 2 from by rw [HG3.out, if_pos hu])
          have hge : ¬ ((N.length : Int) < ((namesOf ts).length : Int)) := by
            have : ¬ N.length < (namesOf ts).length := fun h => HNL.out.1 h hnd
            omega
          have HOB2 := Lib.hid (HOB.out hu)
          clear hnd hu HOB
          go_wp2_with fail
          refine HOB2.out.mono ?_
          rintro e w5 ⟨b1, b2, b3, rfl, hbk, hb5⟩
          have HBK0 := Lib.hid hbk
          have HB5 := Lib.hid (HB4.out.trans (hb5.mono HB4.out.size))
          obtain ⟨w6, hw6⟩ : ∃ x, x = w5.alloc (.cells #[.map (some b1), .map (some b2), .map (some b3)] 184) := ⟨_, rfl⟩
          have x56 : Ext w5 w6 := by rw [hw6]; exact Ext.alloc _ _
          have HBC := Lib.hid (show Blk w6 w5.heap.size #[.map (some b1), .map (some b2), .map (some b3)] 184 from by rw [hw6]; exact Blk.made _ _ _)
          have HBK := Lib.hid (hbk.up x56)
          have HB6 := Lib.hid (show Below w.heap.size w w6 from HB5.out.trans (x56.mono HB5.out.size))
          obtain ⟨lr, hM, hLP, hLA⟩ := HBK.out.R
          have HLP := Lib.hid hLP
          have HLA := Lib.hid hLA
          have c6 := HBC.out.cells
          subst hw6
          clear HOB2 hbk hb5 x56 hLP hLA s4 hmlen hge
          go_wp2_with (at_range; go_must (refine wpList_mp_range _ rfl _ 180 rfl Tryz.underlying180 rfl hM ?_); intro wR hRg hbR hszR)
          try go_frame
          have HRG0 := Lib.hid hRg
          have HBR := Lib.hid hbR
          clear c6 hM hRg hbR hszR
          obtain ⟨w6, hw6⟩ : ∃ x, x = w5.alloc (.cells #[.map (some b1), .map (some b2), .map (some b3)] 184) := ⟨_, rfl⟩
          rw [← hw6] at HBC HBK HB6 HLA HRG0 HBR ⊢
          clear hw6
          obtain ⟨nR, hnR⟩ : ∃ nR, nR = w6.heap.size := ⟨_, rfl⟩
          rw [← hnR] at HRG0 ⊢
          have HNRL := Lib.hid (show w6.heap.size ≤ nR from by omega)
          clear hnR
          generalize w5.heap.size = bc at *
          go_loopw [85] (fun _ wr => ∃ rem : List (R2 × RV), Rng Tryz.prog 102 r2V rvV wr b1 nR lr rem ∧ (∀ x ∈ lr, x ∈ rem ∨ x.2.1.pnamed (refsOf ts) x.1.t = true) ∧ (∀ x ∈ rem, x ∈ lr) ∧ Below w6.heap.size w6 wr) (fun _ wr => wr.rangeLeft b1 nR)
          case atStart => exact ⟨lr, HRG0.out, fun x hx => .inl hx, fun x hx => hx, HBR.out⟩
          case round =>
            obtain ⟨rem, hRg, hall, hsub, hbel⟩ := hrel
            have HALL := Lib.hid hall
            have HSUB := Lib.hid hsub
            have HBL := Lib.hid hbel
            clear HRG0 HBR hall hsub hbel
            go_wp2_with (at_next; go_must (refine wpList_mp_next _ rfl _ rfl rfl hRg ?_ ?_))
            · intro hrem
              subst hrem
              have HF := Lib.hid (show g = 0 from by
                rw [HG4.out, if_pos]
                refine (names_all HP.out HU.out).1 fun x hx => ?_
                rw [← HLP.out] at hx
                obtain ⟨y, hy, rfl⟩ := List.mem_map.1 hx
                rcases HALL.out y hy with h | h
                · cases h
                · exact h)
              have HBE := Lib.hid (HB6.out.trans (HBL.out.mono HB6.out.size))
              clear hRg
              go_wp2_with fail
              go_ret
              exact ⟨by rw [HF.out]; rfl, HBE.out⟩
            · rintro pre ⟨kt, kr⟩ p pv post w7 hrem hRg2 hk2 hs2 hen
              have hum : ((⟨kt, kr⟩, (p, pv)) : R2 × RV) ∈ lr := HSUB.out _ (by rw [hrem]; simp)
              have hup : (⟨⟨kt, kr⟩, p⟩ : R2 × RT) ∈ refsOf ts := by rw [← HLP.out]; exact List.mem_map.2 ⟨_, hum, rfl⟩
              obtain ⟨t, ht, r, hr, he⟩ := refs_mem.1 hup
              have hok1 := HOK.out t ht
              have hok2 := hok1.2 r hr
              have hkt : kt.size ≤ maxLen := by injection he with e1 e2; injection e1 with e3 e4; rw [e3]; have := hok1.1; unfold maxLen; omega
              have hpo : p.Ok := by injection he with e1 e2; rw [e2]; exact hok2.2
              have hb7 : Below w6.heap.size w6 w7 := HBL.out.trans (Kept.below hk2 fun x hx => by have := HNRL.out; show x ≠ nR; omega)
              have hat7 := (HLA.out _ hum).up hb7
              dsimp only at hat7
              obtain ⟨ao3, c3', rfl, -⟩ := hat7.rows
              have HB7 := Lib.hid hb7
              obtain ⟨w8, hw8⟩ : ∃ x, x = w7.alloc (.cells #[.string kt, .string kr] 102) := ⟨_, rfl⟩
              obtain ⟨w9, hw9⟩ : ∃ x, x = w8.alloc (.cells #[.int .i64 p.k, .string p.a, .string p.b, .slice ao3 p.ps.length c3'] 98) := ⟨_, rfl⟩
              have e8 : w8.heap.size = w7.heap.size + 1 := by rw [hw8]; simp
              have x78 : Ext w7 w8 := by rw [hw8]; exact Ext.alloc _ _
              have x89 : Ext w8 w9 := by rw [hw9]; exact Ext.alloc _ _
              have k9 := (show Blk w9 w7.heap.size #[.string kt, .string kr] 102 from Blk.below (by rw [hw8]; exact Blk.made _ _ _) x89).cells
              have r9 := (show Blk w9 (w7.heap.size + 1) #[.int .i64 p.k, .string p.a, .string p.b, .slice ao3 p.ps.length c3'] 98 from by rw [hw9, ← e8]; exact Blk.made _ _ _).cells
              have HB9 := Lib.hid (show Below w6.heap.size w6 w9 from hb7.trans ((x78.trans x89).mono hb7.size))
              have b9 := (HBC.out.below HB9.out).cells
              have HNM := Lib.hid (pnamed_any kt hkt p _ w9 (HBK.out.up HB9.out) (hat7.up (x78.trans x89)) hpo)
              have HRG9 := Lib.hid (hRg2.below (x78.trans x89))
              have HREM := Lib.hid hrem
              have hrl : wr.rangeLeft b1 nR = rem.length := hRg.left_eq
              have HRL := Lib.hid hrl
              unfold r2V rvV rV at hen
              unfold rV at HNM
              dsimp only at hen
              subst hw9 hw8
              clear hum hup ht hr he hok1 hok2 hkt hpo hb7 hat7 e8 x78 x89 hRg2 hRg hk2 hs2 hrl
              cases hpn : p.pnamed (refsOf ts) kt with
              | false =>
                rw [hpn] at HNM
                have HF := Lib.hid (show g = 2 from by
                  rw [HG4.out, if_neg]
                  intro h
                  have h1 := (names_all HP.out HU.out).2 h (⟨kt, kr⟩, p) (by rw [← HLP.out]; exact List.mem_map.2 ⟨((⟨kt, kr⟩, (p, .slice ao3 p.ps.length c3')) : R2 × RV), HSUB.out _ (by rw [hrem]; simp), rfl⟩)
                  dsimp only at h1
                  rw [hpn] at h1
                  cases h1)
                clear hrem hpn
                go_wp2_with fail
                refine HNM.out.mono ?_
                rintro e wa ⟨rfl, hba⟩
                have HBE := Lib.hid (HB6.out.trans ((HB9.out.trans (hba.mono HB9.out.size)).mono HB6.out.size))
                clear HNM hba k9 r9 b9 hen
                go_wp2_with fail
                go_ret
                exact ⟨by rw [HF.out]; rfl, HBE.out⟩
              | true =>
                rw [hpn] at HNM
                have HPN := Lib.hid hpn
                clear hrem hpn
                go_wp2_with fail
                refine HNM.out.mono ?_
                rintro e wa ⟨rfl, hba⟩
                have hRa := HRG9.out.below hba
                have HRA := Lib.hid hRa
                have HBE := Lib.hid (HB9.out.trans (hba.mono HB9.out.size))
                clear HNM hba k9 r9 b9 hen hRa
                go_wp2_with fail
                go_roundw
                case rel =>
                  refine ⟨pre ++ post, HRA.out, fun x hx => ?_, fun x hx => HSUB.out x (by rw [HREM.out]; rcases List.mem_append.1 hx with h | h <;> simp [h]), HBE.out⟩
                  rcases HALL.out x hx with h | h
                  · rw [HREM.out] at h
                    rcases List.mem_append.1 h with h | h
                    · exact .inl (List.mem_append_left _ h)
                    · rcases List.mem_cons.1 h with rfl | h
                      · exact .inr HPN.out
                      · exact .inl (List.mem_append_right _ h)
                  · exact .inr h
                case measure => rw [HRA.out.left_eq, HRL.out, HREM.out]; simp
end Go.Proofs.YtjdigpfipmckhaaGreat
