/- Lemmas for the claim, no condition. -/
import Derived.Test.YtipddhcfcehcaaaYT33
namespace Go.Proofs.Ytipddhcfcehcaaa
open Go Go.RowKit Go.Maps

set_option maxRecDepth 100000 in
set_option maxHeartbeats 4000000 in
theorem apply7_any (ts us : List TyS) (tv uv : Value) (w : World) (ht : TysAt (· < w.heap.size) w ts tv) (hu : TysAt (· < w.heap.size) w us uv) (k1 : SOk ts) (k2 : SOk us) (h0 : chk06 ts = 0) (h1 : chk06 us = 0) :
    Calls Try.prog 23 #[.agg #[tv], .agg #[uv]] w fun e w' => ∃ sv : Value, e = .returned (.agg #[sv]) ∧ TysAt (· < w'.heap.size) w' (appL ts us) sv ∧ Ext w w' := by
  have HT := Lib.hid ht
  have HU := Lib.hid hu
  have HK := Lib.hid (And.intro k1 k2)
  have HC := Lib.hid (And.intro h0 h1)
  obtain ⟨aot, ct, rfl, hct1, hct2, hrt⟩ := ht.rows
  obtain ⟨aou, cu, rfl, hcu1, hcu2, hru⟩ := hu.rows
  have HRT := Lib.hid hrt
  have HRU := Lib.hid hru
  clear ht hu k1 k2 h0 h1 hrt hru
  obtain ⟨wa, hwa⟩ : ∃ x, x = w.alloc (.cells #[.slice aot ts.length ct] 24) := ⟨_, rfl⟩
  obtain ⟨wc, hwc⟩ : ∃ x, x = wa.alloc (.cells #[.slice aou us.length cu] 24) := ⟨_, rfl⟩
  obtain ⟨we, hwe⟩ : ∃ x, x = wc.alloc (.cells #[.slice none 0 0] 24) := ⟨_, rfl⟩
  obtain ⟨wb, hwb⟩ : ∃ x, x = we.alloc (.cells #[.slice none 0 0] 24) := ⟨_, rfl⟩
  have ea : wa.heap.size = w.heap.size + 1 := by rw [hwa]; simp
  have ec : wc.heap.size = w.heap.size + 1 + 1 := by rw [hwc]; simp [ea]
  have ee : we.heap.size = w.heap.size + 1 + 1 + 1 := by rw [hwe]; simp [ec]
  have xa : Ext w wa := by rw [hwa]; exact Ext.alloc _ _
  have xc : Ext wa wc := by rw [hwc]; exact Ext.alloc _ _
  have xe : Ext wc we := by rw [hwe]; exact Ext.alloc _ _
  have xb : Ext we wb := by rw [hwb]; exact Ext.alloc _ _
  have HA := Lib.hid (show Blk wb w.heap.size #[.slice aot ts.length ct] 24 from Blk.below (by rw [hwa]; exact Blk.made _ _ _) (xc.trans (xe.trans xb)))
  have HB := Lib.hid (show Blk wb (w.heap.size + 1) #[.slice aou us.length cu] 24 from Blk.below (by rw [hwc, ← ea]; exact Blk.made _ _ _) (xe.trans xb))
  have HR := Lib.hid (show Blk wb (w.heap.size + 1 + 1) #[.slice none 0 0] 24 from Blk.below (by rw [hwe, ← ec]; exact Blk.made _ _ _) xb)
  have HO := Lib.hid (show ScBox7 w.heap.size w (w.heap.size + 1 + 1 + 1) (w.heap.size + 1 + 1 + 1 + 1) [] wb [] (.slice none 0 0) from ⟨by rw [hwb, ← ee]; exact Blk.made _ _ _, Own.nil _ _ _ _, by simp⟩)
  have HX := Lib.hid (show Ext w wb from xa.trans (xc.trans (xe.trans xb)))
  have ab := HA.out.cells
  clear xa xc xe xb ea ec ee
  subst hwb hwe hwc hwa
  go_enter Try.func23, Try.ntmps23
  go_wp2_with fail
  generalize (((w.alloc (.cells #[.slice aot ts.length ct] 24)).alloc (.cells #[.slice aou us.length cu] 24)).alloc (.cells #[.slice none 0 0] 24)).alloc (.cells #[.slice none 0 0] 24) = wb at *
  clear ab
  obtain ⟨b0, hb0⟩ : ∃ x, x = w.heap.size := ⟨_, rfl⟩
  obtain ⟨bo, hbo⟩ : ∃ x, x = w.heap.size + 1 + 1 + 1 := ⟨_, rfl⟩
  rw [← hbo] at HO ⊢
  rw [← hb0] at HA HB HR ⊢
  have HBO := Lib.hid (show bo = b0 + 1 + 1 + 1 ∧ w.heap.size = b0 from by omega)
  clear hb0 hbo
  go_loopw [26] (fun iv wr => ∃ (i : Nat) (q : List (TyS × Value)) (ov : Value), i ≤ ts.length ∧ iv = .int .i64 i ∧ q.map (·.1) = (ts.take i).filterMap (appF us) ∧ ScBox7 w.heap.size w bo (bo + 1) [] wr q ov ∧ Below bo wb wr) (fun iv _ => ts.length - (intOf iv).toNat)
  case atStart => exact ⟨0, [], .slice none 0 0, by omega, rfl, rfl, HO.out, Below.refl _ _⟩
  case round =>
    obtain ⟨i, q, ov, hi, rfl, hq, hbx, hbe⟩ := hrel
    have HQ := Lib.hid hq
    have HBX0 := Lib.hid hbx
    have HBE := Lib.hid hbe
    obtain ⟨aos, ks, css, rfl, -, -, -⟩ := hbx.row.sl.len
    have HPS := Lib.hid (fun g (e : Value.ownBlock (.slice aos ks css) = some g) => hbx.row.block g e)
    have HLS := Lib.hid (show q.length ≤ 4000000 from by
      have h1 := congrArg List.length hq
      rw [List.length_map] at h1
      have h2 := fm_len (appF us) (ts.take i)
      rw [List.length_take] at h2
      have := HK.out.1.tl
      omega)
    have hwn : w.heap.size ≤ bo := by have := HBO.out; omega
    have HXW := Lib.hid (show Ext w wr from Below.trans HX.out (hbe.mono hwn))
    have HBS := Lib.hid (show bo < wr.heap.size from hbx.box.lt)
    clear HO hq hbx hwn
    by_cases hlt : i < ts.length
    · obtain ⟨bl, offl, rvl, haol, hbb, d0, d1, hrtl⟩ := HRT.out i hlt
      have d0 := HXW.out.cell (a := ⟨bl, offl + i * 2, none⟩) d0
      have d1 := HXW.out.cell (a := ⟨bl, offl + i * 2 + 1, none⟩) d1
      have HNX := Lib.hid (fm_snoc (appF us) hlt)
      have HLKt := Lib.hid (look_own HC.out.1 (List.getElem_mem hlt))
      have HLR1 := Lib.hid (show ts[i].rels.length ≤ 2000000 from Nat.le_trans (rels_le (List.getElem_mem hlt)) HK.out.1.lr)
      subst haol
      generalize ts[i] = x at *
      obtain ⟨nm, rl⟩ := x
      dsimp only at d0 d1 hrtl HLKt HLR1
      obtain ⟨aor, cr, rfl, hcr1, hcr2, hrr⟩ := hrtl.rows
      have HRR := Lib.hid hrr
      obtain ⟨wp, hwp⟩ : ∃ x, x = wr.alloc (.cells #[.string nm, .slice aor rl.length cr] 49) := ⟨_, rfl⟩
      have xp : Ext wr wp := by rw [hwp]; exact Ext.alloc _ _
      have hpb : Blk wp wr.heap.size #[.string nm, .slice aor rl.length cr] 49 := by rw [hwp]; exact Blk.made _ _ _
      have HPB := Lib.hid hpb
      have HXWp := Lib.hid (show Ext w wp from HXW.out.trans xp)
      have HEP := Lib.hid (show Below bo wb wp from hbe.trans (Below.mono xp (by have := HBS.out; omega)))
      have HBP := Lib.hid (HBX0.out.keep (Below.kept xp fun b hb => hb.1) (xp.block _ HBS.out))
      have HTY := Lib.hid (typ7_at us _ nm wp (S := (· < w.heap.size)) (fun b (hb : b < w.heap.size) => Nat.lt_of_lt_of_le hb HXWp.out.size) (HU.out.same (Same.below HXWp.out)))
      have mb := (show Blk wp (b0 + 1) #[.slice aou us.length cu] 24 from (HEP.out.block _ (by have := HBO.out; omega)).trans HB.out).cells
      have pb := hpb.cells
      clear hrr hrtl xp hpb HXW hbe HBE HBX0
      rcases htf : typF us nm with _ | u
      · rw [htf] at HTY
        dsimp only [tyOr, Option.getD, Option.isSome] at HTY
        have HFX := Lib.hid (show appF us ⟨nm, rl⟩ = none from by unfold appF; rw [htf]; rfl)
        rw [HFX.out] at HNX
        clear htf HFX
        subst hwp
        go_wp2_with fail
        refine HTY.out.mono ?_
        rintro e w2 ⟨rv, rfl, hrv, hb2⟩
        obtain ⟨ao2, c2, rfl, -, -, -⟩ := hrv.rows
        generalize wr.alloc (.cells #[.string nm, .slice aor rl.length cr] 49) = wp at *
        generalize wr.heap.size = nP at *
        obtain ⟨w3, hw3⟩ : ∃ x, x = w2.alloc (.cells #[.string ⟨#[]⟩, .slice ao2 ([] : List (ByteArray × RT)).length c2] 49) := ⟨_, rfl⟩
        have x3 : Ext wp w3 := Ext.trans hb2 (by rw [hw3]; exact Ext.alloc _ _)
        have HB3 := Lib.hid (HBP.out.keep (Below.kept x3 fun b hb => hb.1) (x3.block _ HBP.out.box.lt))
        have HE3 := Lib.hid (show Below bo wb w3 from HEP.out.trans (x3.mono (by have := HBP.out.box.lt; omega)))
        have HQN := Lib.hid (show q.map (·.1) = (ts.take (i + 1)).filterMap (appF us) from by rw [HQ.out, HNX.out]; exact (List.append_nil _).symm)
        dsimp only [List.length_nil] at hw3
        clear HTY hrv hb2 x3 mb pb d0 d1 HPB HBP HEP
        subst hw3
        go_wp2_with fail
        go_roundw
        case rel => exact ⟨i + 1, q, _, by omega, by go_num, HQN.out, HB3.out, HE3.out⟩
        case measure => simp [intOf]; omega
      · have hun : u.name = nm := (typ_some htf).2
        rw [htf] at HTY
        dsimp only [tyOr, Option.getD, Option.isSome] at HTY
        have HFX := Lib.hid (show appF us ⟨nm, rl⟩ = some ⟨nm, mrgR rl u.rels⟩ from by unfold appF; rw [htf]; rfl)
        have HLKu := Lib.hid (look_typ HC.out.2 htf)
        have HLR2 := Lib.hid (show u.rels.length ≤ 2000000 from Nat.le_trans (rels_le (typ_some htf).1) HK.out.2.lr)
        rw [HFX.out] at HNX
        rw [hun] at HTY
        generalize u.rels = ru at HTY HNX HLKu HLR2
        have HLR := Lib.hid (show rl.length + ru.length ≤ 4000000 from by have := HLR1.out; have := HLR2.out; omega)
        clear htf HFX hun u HLR1 HLR2
        subst hwp
        go_wp2_with fail
        refine HTY.out.mono ?_
        rintro e w2 ⟨rv, rfl, hrv, hb2⟩
        obtain ⟨ao2, c2, rfl, hcu3, hcu4, hru5⟩ := (hrv.same (w' := w) (fun b hb => ((HXWp.out.trans hb2).block b hb).symm)).rows
        have HRU5 := Lib.hid hru5
        generalize wr.alloc (.cells #[.string nm, .slice aor rl.length cr] 49) = wp at *
        obtain ⟨nP, hnP⟩ : ∃ x, x = wr.heap.size := ⟨_, rfl⟩
        rw [← hnP] at HPB pb ⊢
        obtain ⟨nQ, hnQ⟩ : ∃ x, x = w2.heap.size := ⟨_, rfl⟩
        obtain ⟨w3, hw3⟩ : ∃ x, x = w2.alloc (.cells #[.string nm, .slice ao2 ru.length c2] 49) := ⟨_, rfl⟩
        have x3 : Ext wp w3 := Ext.trans hb2 (by rw [hw3]; exact Ext.alloc _ _)
        have HW3 := Lib.hid (show w3.heap.size = nQ + 1 from by rw [hw3, hnQ]; simp)
        have HQB := Lib.hid (show Blk w3 nQ #[.string nm, .slice ao2 ru.length c2] 49 from by rw [hw3, hnQ]; exact Blk.made _ _ _)
        have HPB3 := Lib.hid (HPB.out.below x3)
        have HX3 := Lib.hid (show Ext w w3 from HXWp.out.trans x3)
        have HSB := Lib.hid (HBP.out.keep (Below.kept x3 fun b hb => hb.1) (x3.block _ HBP.out.box.lt))
        have HBE3 := Lib.hid (show Below bo wb w3 from HEP.out.trans (x3.mono (by have := HBP.out.box.lt; omega)))
        have HA3 := Lib.hid (show Blk w3 b0 #[.slice (some ⟨bl, offl, none⟩) ts.length ct] 24 from (HBE3.out.block _ (by have := HBO.out; omega)).trans HA.out)
        have HB3 := Lib.hid (show Blk w3 (b0 + 1) #[.slice aou us.length cu] 24 from (HBE3.out.block _ (by have := HBO.out; omega)).trans HB.out)
        have HXX := Lib.hid (Ext.alloc w3 (.cells #[.string nm, .slice none 0 0] 49))
        have HXB := Lib.hid (show TyBox7 w.heap.size w (nQ + 1) (nQ + 1 + 1) [.string nm] (w3.alloc (.cells #[.string nm, .slice none 0 0] 49)) [] (.slice none 0 0) from ⟨by rw [← HW3.out]; exact Blk.made _ _ _, Own.nil _ _ _ _, by simp⟩)
        have pb := HPB3.out.cells
        have pb2 := (HPB3.out.below HXX.out).cells
        clear hnP HTY hrv hb2 x3 mb d0 d1 HPB HXWp HBP HEP hru5
        subst hw3
        go_wp2_with fail
        rw [← hnQ]
        generalize w2.alloc (.cells #[.string nm, .slice ao2 ru.length c2] 49) = w3 at *
        clear hnQ pb pb2
        generalize w3.alloc (.cells #[.string nm, .slice none 0 0] 49) = wx at *
        go_loopw [45] (fun kv wq => ∃ (k : Nat) (q5 : List ((ByteArray × RT) × Value)) (ov : Value), k ≤ rl.length ∧ kv = .int .i64 k ∧ q5.map (·.1) = (rl.take k).filterMap (mrgF ru) ∧ TyBox7 w.heap.size w (nQ + 1) (nQ + 1 + 1) [.string nm] wq q5 ov ∧ Ext w3 wq) (fun kv _ => rl.length - (intOf kv).toNat)
        case atStart => exact ⟨0, [], .slice none 0 0, by omega, rfl, rfl, HXB.out, HXX.out⟩
        case round =>
          obtain ⟨k, q5, ov, hk, rfl, hq5, hbx, hxq⟩ := hrel
          have HQ5 := Lib.hid hq5
          have HBX := Lib.hid hbx
          have HXQ3 := Lib.hid hxq
          obtain ⟨aov, kv, cv, rfl, -, -, -⟩ := hbx.row.sl.len
          have HPO := Lib.hid (fun g (e : Value.ownBlock (.slice aov kv cv) = some g) => hbx.row.block g e)
          have HLQ := Lib.hid (show q5.length ≤ 4000000 from by
            have h1 := congrArg List.length hq5
            rw [List.length_map] at h1
            have h2 : ((rl.take k).filterMap (mrgF ru)).length ≤ rl.length + ru.length := by have := List.length_filterMap_le (mrgF ru) (rl.take k); rw [List.length_take] at this; omega
            have := HLR.out
            omega)
          clear hq5 hbx HXB HXX
          by_cases hlk : k < rl.length
          · obtain ⟨b2, off2, pv, haor, hb2, e0, e1, e2, e3, e4, hat⟩ := HRR.out k hlk
            have hxw : Ext w wr := HX3.out.trans hxq
            have e0 := hxw.cell (a := ⟨b2, off2 + k * 5, none⟩) e0
            have e1 := hxw.cell (a := ⟨b2, off2 + k * 5 + 1, none⟩) e1
            have e2 := hxw.cell (a := ⟨b2, off2 + k * 5 + 2, none⟩) e2
            have e3 := hxw.cell (a := ⟨b2, off2 + k * 5 + 3, none⟩) e3
            have e4 := hxw.cell (a := ⟨b2, off2 + k * 5 + 4, none⟩) e4
            have HSTEP := Lib.hid (fm_snoc (mrgF ru) hlk)
            subst haor
            generalize rl[k] = y at *
            obtain ⟨yn, yr⟩ := y
            dsimp only at e0 e1 e2 e3 e4 hat
            have HAT := Lib.hid hat
            obtain ⟨aop, cp, rfl, -, -, -⟩ := hat.rows
            obtain ⟨wk, hwk⟩ : ∃ x, x = wr.alloc (.cells #[.string yn, .int .i64 yr.k, .string yr.a, .string yr.b, .slice aop yr.ps.length cp] 82) := ⟨_, rfl⟩
            have xk : Ext wr wk := by rw [hwk]; exact Ext.alloc _ _
            have HRK := Lib.hid (show Blk wk wr.heap.size #[.string yn, .int .i64 yr.k, .string yr.a, .string yr.b, .slice aop yr.ps.length cp] 82 from by rw [hwk]; exact Blk.made _ _ _)
            have HX3k := Lib.hid (show Ext w3 wk from hxq.trans xk)
            have HBk := Lib.hid (HBX.out.keep (Below.kept xk fun b hb => hb.1) (xk.block _ HBX.out.box.lt))
            have hrk := HRK.out.cells
            have hpk := (HPB3.out.below HX3k.out).cells
            have hbk := (HB3.out.below HX3k.out).cells
            have HFI := Lib.hid (find06_at us _ nm yn wk (S := (· < w.heap.size)) (fun b (hb : b < w.heap.size) => Nat.lt_of_lt_of_le hb (HX3.out.trans HX3k.out).size) (HU.out.same (Same.below (HX3.out.trans HX3k.out))) (chk_uq HC.out.2))
            rw [HLKu.out yn] at HFI
            clear hat hxw xk hxq
            rcases hlo : lookA ru yn with _ | q
            · rw [hlo] at HFI
              dsimp only [Option.isSome] at HFI
              subst hwk
              go_wp2_with fail
              refine HFI.out.mono ?_
              rintro e w5 ⟨⟨zq, zv⟩, rfl, hz1, hz3, hz2, hb5⟩
              try dsimp only at hz1
              obtain ⟨aoz, cz, rfl, -, -, -⟩ := hz1.rows
              unfold rvV rV
              try dsimp only
              generalize wr.alloc (.cells #[.string yn, .int .i64 yr.k, .string yr.a, .string yr.b, .slice aop yr.ps.length cp] 82) = wk at *
              obtain ⟨w6, hw6⟩ : ∃ x, x = w5.alloc (.cells #[.int .i64 zq.k, .string zq.a, .string zq.b, .slice aoz zq.ps.length cz] 72) := ⟨_, rfl⟩
              have x56 : Ext w5 w6 := by rw [hw6]; exact Ext.alloc _ _
              have x6 : Ext wk w6 := Ext.trans hb5 x56
              have HX6 := Lib.hid (show Ext w3 w6 from HX3k.out.trans x6)
              have HB6 := Lib.hid (HBk.out.keep (Below.kept x6 fun b hb => hb.1) (x6.block _ HBk.out.box.lt))
              have HQN := Lib.hid (show q5.map (·.1) = (rl.take (k + 1)).filterMap (mrgF ru) from HQ5.out.trans (by rw [HSTEP.out, show mrgF ru (yn, yr) = none from by unfold mrgF; rw [hlo]; rfl]; exact (List.append_nil _).symm))
              clear HFI hz1 hz3 hb5 x56 x6 e0 e1 e2 e3 e4 hrk hpk hbk HRK HBk hlo
              subst hw6
              go_wp2_with fail
              go_roundw
              case rel => exact ⟨k + 1, q5, _, by omega, by go_num, HQN.out, HB6.out, HX6.out⟩
              case measure => simp [intOf]; omega
            · rw [hlo] at HFI
              dsimp only [Option.isSome] at HFI
              subst hwk
              go_wp2_with fail
              refine HFI.out.mono ?_
              rintro e w5 ⟨⟨zq, zv⟩, rfl, hz1, hz3, -, hb5⟩
              try dsimp only at hz1
              obtain rfl : zq = q := hz3 q rfl
              obtain ⟨aoz, cz, rfl, -, -, -⟩ := hz1.rows
              unfold rvV rV
              try dsimp only
              generalize wr.alloc (.cells #[.string yn, .int .i64 yr.k, .string yr.a, .string yr.b, .slice aop yr.ps.length cp] 82) = wk at *
              obtain ⟨w6, hw6⟩ : ∃ x, x = w5.alloc (.cells #[.int .i64 zq.k, .string zq.a, .string zq.b, .slice aoz zq.ps.length cz] 72) := ⟨_, rfl⟩
              have x56 : Ext w5 w6 := by rw [hw6]; exact Ext.alloc _ _
              have x6 : Ext wk w6 := Ext.trans hb5 x56
              have HX6 := Lib.hid (show Ext w3 w6 from HX3k.out.trans x6)
              have HB6 := Lib.hid (HBk.out.keep (Below.kept x6 fun b hb => hb.1) (x6.block _ HBk.out.box.lt))
              have HQN := Lib.hid (show (q5 ++ [(((yn, zq), .slice aoz zq.ps.length cz) : (ByteArray × RT) × Value)]).map (·.1) = (rl.take (k + 1)).filterMap (mrgF ru) from by rw [List.map_append, HQ5.out]; exact by rw [HSTEP.out, show mrgF ru (yn, yr) = some (yn, zq) from by unfold mrgF; rw [hlo]; rfl]; rfl)
              have HEL := Lib.hid (show RTAt (· < w.heap.size) w (((yn, zq), .slice aoz zq.ps.length cz) : (ByteArray × RT) × Value).1.2 (((yn, zq), .slice aoz zq.ps.length cz) : (ByteArray × RT) × Value).2 from hz1.same (fun b hb => ((HX3.out.trans (HX3k.out.trans hb5)).block b hb).symm))
              have X9 := Lib.hid (Ext.alloc w6 (.cells #[.string yn, .int .i64 zq.k, .string zq.a, .string zq.b, .slice aoz zq.ps.length cz] 82))
              have HZ6 := Lib.hid (show nQ + 1 + 1 ≤ w6.heap.size from HB6.out.box.lt)
              have h6c := HB6.out.box.cells
              have hr6 := (HRK.out.below x6).cells
              have h13 := (show Blk w6 w5.heap.size #[.int .i64 zq.k, .string zq.a, .string zq.b, .slice aoz zq.ps.length cz] 72 from by rw [hw6]; exact Blk.made _ _ _).cells
              clear HFI hz1 hz3 hb5 x56 x6 e0 e1 e2 e3 e4 hrk hpk hbk HBk hlo
              subst hw6
              go_wp2_with (at_builtin; go_must (refine wpList_ownw relsElT rfl (.tmp 60) (.tmp 65) rfl rfl (HB6.out.row.below X9.out) rfl (m := 1) (news := [.string yn, .int .i64 zq.k, .string zq.a, .string zq.b, .slice aoz zq.ps.length cz]) rfl (by intro j u hu; rw [Addr.add_lit, cell_of_row _ (w5.heap.size + 1) (0 + j) #[.string yn, .int .i64 zq.k, .string zq.a, .string zq.b, .slice aoz zq.ps.length cz] 82 (0, 0) (by have h0 := heap_alloc_new (w5.alloc (.cells #[.int .i64 zq.k, .string zq.a, .string zq.b, .slice aoz zq.ps.length cz] 72)) (.cells #[.string yn, .int .i64 zq.k, .string zq.a, .string zq.b, .slice aoz zq.ps.length cz] 82); simpa using h0)]; simpa using hu) (by simp [Value.oneCell']) (by have := HLQ.out; rw [flat_length relC_length]; simp; omega) (by have := HLQ.out; rw [flat_length relC_length]; simp; omega) (by have := X9.out.size; have := HZ6.out; omega) ?_; intro v11 w11 hown11 hb11 hgr11; have HADD := Lib.hid (HB6.out.add (n0 := ((w5.alloc (.cells #[.int .i64 zq.k, .string zq.a, .string zq.b, .slice aoz zq.ps.length cz] 72))).heap.size) (x := ((yn, zq), .slice aoz zq.ps.length cz)) (Nat.lt_succ_self _) (fun b h1 h2 => (hgr11.block b (Nat.lt_of_lt_of_le h1 X9.out.size) (fun e => h2 e.symm)).trans (X9.out.block b h1)) (Nat.le_trans X9.out.size hgr11.size) hown11 (fun g hg => (hb11 g hg).imp id (fun h => Nat.le_trans X9.out.size h)) (ElR7.old HEL.out) (HZ6.out) (fun g hg => (HB6.out.row.block g hg).2)); have HK11 := Lib.hid (show Kept (fun b => b < ((w5.alloc (.cells #[.int .i64 zq.k, .string zq.a, .string zq.b, .slice aoz zq.ps.length cz] 72))).heap.size ∧ Value.ownBlock (.slice aov kv cv) ≠ some b) (w5.alloc (.cells #[.int .i64 zq.k, .string zq.a, .string zq.b, .slice aoz zq.ps.length cz] 72)) w11 from ⟨hgr11.os.trans X9.out.os, hgr11.tape.trans X9.out.tape, hgr11.output.trans X9.out.output, Nat.le_trans X9.out.size hgr11.size, fun b hb => (hgr11.block b (Nat.lt_of_lt_of_le hb.1 X9.out.size) (fun e => hb.2 e.symm)).trans (X9.out.block b hb.1)⟩); have h11 := HK11.out.blk HB6.out.box ⟨HB6.out.box.lt, fun e => by have := (HPO.out _ e).1; omega⟩; have h11f := Blk.free h11; have h11c := Blk.cells h11 1; obtain ⟨ao11, k11, c11, rfl, -, -, -⟩ := hown11.sl.len; clear hown11 hb11 hgr11 h11 h6c hr6 h13))
              have HX11 := Lib.hid (show Ext w3 (w11.setCell ⟨nQ + 1, 1, none⟩ (.slice ao11 k11 c11)) from Below.setCell (Below.trans HX6.out (HK11.out.below fun b (hb : b < w3.heap.size) => ⟨Nat.lt_of_lt_of_le hb HX6.out.size, fun e => by have := (HPO.out _ e).1; have := HW3.out; omega⟩)) (by have := HW3.out; show w3.heap.size ≤ nQ + 1; omega) _)
              go_roundw
              case rel => exact ⟨k + 1, _, _, by omega, by go_num, HQN.out, HADD.out, HX11.out⟩
              case measure => simp [intOf]; omega
          · obtain rfl : k = rl.length := by omega
            rw [List.take_length] at HQ5
            clear hlk
            have hq8 := (HQB.out.below hxq).cells
            clear hxq HPO HLQ
            go_wp2_with fail
            clear hq8
            go_loopw [72] (fun kv wq => ∃ (k : Nat) (q5 : List ((ByteArray × RT) × Value)) (ov : Value), k ≤ ru.length ∧ kv = .int .i64 k ∧ q5.map (·.1) = rl.filterMap (mrgF ru) ++ (ru.take k).filter (fun r => (lookA rl r.1).isNone) ∧ TyBox7 w.heap.size w (nQ + 1) (nQ + 1 + 1) [.string nm] wq q5 ov ∧ Ext w3 wq) (fun kv _ => ru.length - (intOf kv).toNat)
            case atStart => exact ⟨0, q5, .slice aov kv cv, by omega, rfl, by rw [HQ5.out]; simp, HBX.out, HXQ3.out⟩
            case round =>
              obtain ⟨k, q5, ov, hk, rfl, hq5, hbx, hxq⟩ := hrel
              have HQ5 := Lib.hid hq5
              have HBX := Lib.hid hbx
              have HXQ3 := Lib.hid hxq
              obtain ⟨aov, kv, cv, rfl, -, -, -⟩ := hbx.row.sl.len
              have HPO := Lib.hid (fun g (e : Value.ownBlock (.slice aov kv cv) = some g) => hbx.row.block g e)
              have HLQ := Lib.hid (show q5.length ≤ 4000000 from by
                have h1 := congrArg List.length hq5
                rw [List.length_map] at h1
                have h2 : (rl.filterMap (mrgF ru) ++ (ru.take k).filter (fun r => (lookA rl r.1).isNone)).length ≤ rl.length + ru.length := by rw [List.length_append]; have := List.length_filterMap_le (mrgF ru) rl; have h4 := List.length_filter_le (fun r : ByteArray × RT => (lookA rl r.1).isNone) (ru.take k); rw [List.length_take] at h4; omega
                have := HLR.out
                omega)
              clear hq5 hbx 
              by_cases hlk : k < ru.length
              · obtain ⟨b2, off2, pv, haor, hb2, e0, e1, e2, e3, e4, hat⟩ := HRU5.out k hlk
                have hxw : Ext w wr := HX3.out.trans hxq
                have e0 := hxw.cell (a := ⟨b2, off2 + k * 5, none⟩) e0
                have e1 := hxw.cell (a := ⟨b2, off2 + k * 5 + 1, none⟩) e1
                have e2 := hxw.cell (a := ⟨b2, off2 + k * 5 + 2, none⟩) e2
                have e3 := hxw.cell (a := ⟨b2, off2 + k * 5 + 3, none⟩) e3
                have e4 := hxw.cell (a := ⟨b2, off2 + k * 5 + 4, none⟩) e4
                have HSTEP := Lib.hid (congrArg (fun z => rl.filterMap (mrgF ru) ++ z) (fl_snoc (fun r : ByteArray × RT => (lookA rl r.1).isNone) hlk))
                subst haor
                generalize ru[k] = y at *
                obtain ⟨yn, yr⟩ := y
                dsimp only at e0 e1 e2 e3 e4 hat
                have HAT := Lib.hid hat
                obtain ⟨aop, cp, rfl, -, -, -⟩ := hat.rows
                obtain ⟨wk, hwk⟩ : ∃ x, x = wr.alloc (.cells #[.string yn, .int .i64 yr.k, .string yr.a, .string yr.b, .slice aop yr.ps.length cp] 82) := ⟨_, rfl⟩
                have xk : Ext wr wk := by rw [hwk]; exact Ext.alloc _ _
                have HRK := Lib.hid (show Blk wk wr.heap.size #[.string yn, .int .i64 yr.k, .string yr.a, .string yr.b, .slice aop yr.ps.length cp] 82 from by rw [hwk]; exact Blk.made _ _ _)
                have HX3k := Lib.hid (show Ext w3 wk from hxq.trans xk)
                have HBk := Lib.hid (HBX.out.keep (Below.kept xk fun b hb => hb.1) (xk.block _ HBX.out.box.lt))
                have hrk := HRK.out.cells
                have hpk := (HPB3.out.below HX3k.out).cells
                have hbk := (HA3.out.below HX3k.out).cells
                have HFI := Lib.hid (find06_at ts _ nm yn wk (S := (· < w.heap.size)) (fun b (hb : b < w.heap.size) => Nat.lt_of_lt_of_le hb (HX3.out.trans HX3k.out).size) (HT.out.same (Same.below (HX3.out.trans HX3k.out))) (chk_uq HC.out.1))
                rw [HLKt.out yn] at HFI
                clear hat hxw xk hxq
                rcases hlo : lookA rl yn with _ | q
                · rw [hlo] at HFI
                  dsimp only [Option.isSome] at HFI
                  subst hwk
                  go_wp2_with fail
                  refine HFI.out.mono ?_
                  rintro e w5 ⟨⟨zq, zv⟩, rfl, hz1, hz3, hz2, hb5⟩
                  try dsimp only at hz1
                  obtain ⟨aoz, cz, rfl, -, -, -⟩ := hz1.rows
                  unfold rvV rV
                  try dsimp only
                  generalize wr.alloc (.cells #[.string yn, .int .i64 yr.k, .string yr.a, .string yr.b, .slice aop yr.ps.length cp] 82) = wk at *
                  obtain ⟨w6, hw6⟩ : ∃ x, x = w5.alloc (.cells #[.int .i64 zq.k, .string zq.a, .string zq.b, .slice aoz zq.ps.length cz] 72) := ⟨_, rfl⟩
                  have x56 : Ext w5 w6 := by rw [hw6]; exact Ext.alloc _ _
                  have x6 : Ext wk w6 := Ext.trans hb5 x56
                  have HX6 := Lib.hid (show Ext w3 w6 from HX3k.out.trans x6)
                  have HB6 := Lib.hid (HBk.out.keep (Below.kept x6 fun b hb => hb.1) (x6.block _ HBk.out.box.lt))
                  have HQN := Lib.hid (show (q5 ++ [(((yn, yr), .slice aop yr.ps.length cp) : (ByteArray × RT) × Value)]).map (·.1) = rl.filterMap (mrgF ru) ++ (ru.take (k + 1)).filter (fun r => (lookA rl r.1).isNone) from by rw [List.map_append, HQ5.out]; exact by rw [HSTEP.out, if_pos (by rw [hlo]; rfl), ← List.append_assoc]; rfl)
                  have HEL := Lib.hid (show RTAt (· < w.heap.size) w (((yn, yr), .slice aop yr.ps.length cp) : (ByteArray × RT) × Value).1.2 (((yn, yr), .slice aop yr.ps.length cp) : (ByteArray × RT) × Value).2 from HAT.out)
                  have X9 := Lib.hid (Ext.alloc w6 (.cells #[.string yn, .int .i64 yr.k, .string yr.a, .string yr.b, .slice aop yr.ps.length cp] 82))
                  have HZ6 := Lib.hid (show nQ + 1 + 1 ≤ w6.heap.size from HB6.out.box.lt)
                  have h6c := HB6.out.box.cells
                  have hr6 := (HRK.out.below x6).cells
                  clear HFI hz1 hz3 hb5 x56 x6 e0 e1 e2 e3 e4 hrk hpk hbk HBk hlo
                  subst hw6
                  go_wp2_with (at_builtin; go_must (refine wpList_ownw relsElT rfl (.tmp 88) (.tmp 90) rfl rfl (HB6.out.row.below X9.out) rfl (m := 1) (news := [.string yn, .int .i64 yr.k, .string yr.a, .string yr.b, .slice aop yr.ps.length cp]) rfl (by intro j u hu; rw [Addr.add_lit, cell_of_row _ (w5.heap.size + 1) (0 + j) #[.string yn, .int .i64 yr.k, .string yr.a, .string yr.b, .slice aop yr.ps.length cp] 82 (0, 0) (by have h0 := heap_alloc_new (w5.alloc (.cells #[.int .i64 zq.k, .string zq.a, .string zq.b, .slice aoz zq.ps.length cz] 72)) (.cells #[.string yn, .int .i64 yr.k, .string yr.a, .string yr.b, .slice aop yr.ps.length cp] 82); simpa using h0)]; simpa using hu) (by simp [Value.oneCell']) (by have := HLQ.out; rw [flat_length relC_length]; simp; omega) (by have := HLQ.out; rw [flat_length relC_length]; simp; omega) (by have := X9.out.size; have := HZ6.out; omega) ?_; intro v11 w11 hown11 hb11 hgr11; have HADD := Lib.hid (HB6.out.add (n0 := ((w5.alloc (.cells #[.int .i64 zq.k, .string zq.a, .string zq.b, .slice aoz zq.ps.length cz] 72))).heap.size) (x := ((yn, yr), .slice aop yr.ps.length cp)) (Nat.lt_succ_self _) (fun b h1 h2 => (hgr11.block b (Nat.lt_of_lt_of_le h1 X9.out.size) (fun e => h2 e.symm)).trans (X9.out.block b h1)) (Nat.le_trans X9.out.size hgr11.size) hown11 (fun g hg => (hb11 g hg).imp id (fun h => Nat.le_trans X9.out.size h)) (ElR7.old HEL.out) (HZ6.out) (fun g hg => (HB6.out.row.block g hg).2)); have HK11 := Lib.hid (show Kept (fun b => b < ((w5.alloc (.cells #[.int .i64 zq.k, .string zq.a, .string zq.b, .slice aoz zq.ps.length cz] 72))).heap.size ∧ Value.ownBlock (.slice aov kv cv) ≠ some b) (w5.alloc (.cells #[.int .i64 zq.k, .string zq.a, .string zq.b, .slice aoz zq.ps.length cz] 72)) w11 from ⟨hgr11.os.trans X9.out.os, hgr11.tape.trans X9.out.tape, hgr11.output.trans X9.out.output, Nat.le_trans X9.out.size hgr11.size, fun b hb => (hgr11.block b (Nat.lt_of_lt_of_le hb.1 X9.out.size) (fun e => hb.2 e.symm)).trans (X9.out.block b hb.1)⟩); have h11 := HK11.out.blk HB6.out.box ⟨HB6.out.box.lt, fun e => by have := (HPO.out _ e).1; omega⟩; have h11f := Blk.free h11; have h11c := Blk.cells h11 1; obtain ⟨ao11, k11, c11, rfl, -, -, -⟩ := hown11.sl.len; clear hown11 hb11 hgr11 h11 h6c hr6))
                  have HX11 := Lib.hid (show Ext w3 (w11.setCell ⟨nQ + 1, 1, none⟩ (.slice ao11 k11 c11)) from Below.setCell (Below.trans HX6.out (HK11.out.below fun b (hb : b < w3.heap.size) => ⟨Nat.lt_of_lt_of_le hb HX6.out.size, fun e => by have := (HPO.out _ e).1; have := HW3.out; omega⟩)) (by have := HW3.out; show w3.heap.size ≤ nQ + 1; omega) _)
                  go_roundw
                  case rel => exact ⟨k + 1, _, _, by omega, by go_num, HQN.out, HADD.out, HX11.out⟩
                  case measure => simp [intOf]; omega
                · rw [hlo] at HFI
                  dsimp only [Option.isSome] at HFI
                  subst hwk
                  go_wp2_with fail
                  refine HFI.out.mono ?_
                  rintro e w5 ⟨⟨zq, zv⟩, rfl, hz1, hz3, -, hb5⟩
                  try dsimp only at hz1
                  obtain ⟨aoz, cz, rfl, -, -, -⟩ := hz1.rows
                  unfold rvV rV
                  try dsimp only
                  generalize wr.alloc (.cells #[.string yn, .int .i64 yr.k, .string yr.a, .string yr.b, .slice aop yr.ps.length cp] 82) = wk at *
                  obtain ⟨w6, hw6⟩ : ∃ x, x = w5.alloc (.cells #[.int .i64 zq.k, .string zq.a, .string zq.b, .slice aoz zq.ps.length cz] 72) := ⟨_, rfl⟩
                  have x56 : Ext w5 w6 := by rw [hw6]; exact Ext.alloc _ _
                  have x6 : Ext wk w6 := Ext.trans hb5 x56
                  have HX6 := Lib.hid (show Ext w3 w6 from HX3k.out.trans x6)
                  have HB6 := Lib.hid (HBk.out.keep (Below.kept x6 fun b hb => hb.1) (x6.block _ HBk.out.box.lt))
                  have HQN := Lib.hid (show q5.map (·.1) = rl.filterMap (mrgF ru) ++ (ru.take (k + 1)).filter (fun r => (lookA rl r.1).isNone) from HQ5.out.trans (by rw [HSTEP.out, if_neg (by rw [hlo]; simp), List.append_nil]))
                  clear HFI hz1 hz3 hb5 x56 x6 e0 e1 e2 e3 e4 hrk hpk hbk HRK HBk hlo
                  subst hw6
                  go_wp2_with fail
                  go_roundw
                  case rel => exact ⟨k + 1, q5, _, by omega, by go_num, HQN.out, HB6.out, HX6.out⟩
                  case measure => simp [intOf]; omega
              · obtain rfl : k = ru.length := by omega
                rw [List.take_length] at HQ5
                clear hlk
                have HSBr := Lib.hid (HSB.out.keep (Below.kept HXQ3.out fun b hb => hb.1) (HXQ3.out.block _ HSB.out.box.lt))
                have HEL0 := HBX.out.el (nm := nm) (Nat.le_refl _)
                rw [HQ5.out] at HEL0
                have HEL := Lib.hid HEL0
                have X9 := Lib.hid (Ext.alloc wr (.cells #[.string nm, .slice aov kv cv] 49))
                have HZ6 := Lib.hid (show bo + 1 ≤ wr.heap.size from HSBr.out.box.lt)
                have HZB := Lib.hid (show bo + 1 ≤ nQ + 1 + 1 from by have := HSB.out.box.lt; have := HW3.out; omega)
                have HQN := Lib.hid (show (q ++ [((⟨nm, mrgR rl ru⟩ : TyS), Value.slice aov kv cv)]).map (·.1) = (ts.take (i + 1)).filterMap (appF us) from by rw [List.map_append, HQ.out]; exact HNX.out.symm)
                have h6c := HSBr.out.box.cells
                have h6x := HBX.out.box.cells
                clear hxq HEL0
                go_wp2_with (at_builtin; go_must (refine wpList_ownw tysT rfl (.tmp 95) (.tmp 97) rfl rfl (HSBr.out.row.below X9.out) rfl (m := 1) (news := [.string nm, .slice aov kv cv]) rfl (by intro j u hu; rw [Addr.add_lit, cell_of_row _ (wr.heap.size) (0 + j) #[.string nm, .slice aov kv cv] 49 (0, 0) (by have h0 := heap_alloc_new wr (.cells #[.string nm, .slice aov kv cv] 49); simpa using h0)]; simpa using hu) (by simp [Value.oneCell']) (by have := HLS.out; rw [flat_length tyC_length]; simp; omega) (by have := HLS.out; rw [flat_length tyC_length]; simp; omega) (by have := X9.out.size; have := HZ6.out; omega) ?_; intro v11 w11 hown11 hb11 hgr11; have HADD := Lib.hid (HSBr.out.add (n0 := nQ + 1 + 1) (x := ((⟨nm, mrgR rl ru⟩ : TyS), .slice aov kv cv)) (Nat.lt_succ_self _) (fun b h1 h2 => (hgr11.block b (Nat.lt_of_lt_of_le h1 X9.out.size) (fun e => h2 e.symm)).trans (X9.out.block b h1)) (Nat.le_trans X9.out.size hgr11.size) hown11 (fun g hg => (hb11 g hg).imp id (fun h => Nat.le_trans X9.out.size h)) (HEL.out) (HZB.out) (fun g hg => by have := (HSB.out.row.block g hg).2; have := HW3.out; omega)); have HK11 := Lib.hid (show Kept (fun b => b < (wr).heap.size ∧ Value.ownBlock (.slice aos ks css) ≠ some b) wr w11 from ⟨hgr11.os.trans X9.out.os, hgr11.tape.trans X9.out.tape, hgr11.output.trans X9.out.output, Nat.le_trans X9.out.size hgr11.size, fun b hb => (hgr11.block b (Nat.lt_of_lt_of_le hb.1 X9.out.size) (fun e => hb.2 e.symm)).trans (X9.out.block b hb.1)⟩); have h11 := HK11.out.blk HSBr.out.box ⟨HSBr.out.box.lt, fun e => by have := (HPS.out _ e).1; omega⟩; have h11f := Blk.free h11; have h11c := Blk.cells h11 0; obtain ⟨ao11, k11, c11, rfl, -, -, -⟩ := hown11.sl.len; clear hown11 hb11 hgr11 h11 h6c h6x))
                have HX11 := Lib.hid (show Below bo wb (w11.setCell ⟨bo, 0, none⟩ (.slice ao11 k11 c11)) from Below.setCell (Below.trans HBE3.out (Below.trans (HXQ3.out.mono (by have := HSB.out.box.lt; omega)) (HK11.out.below fun b (hb : b < bo) => ⟨by have := HZ6.out; omega, fun e => by have := (HPS.out _ e).1; omega⟩))) (Nat.le_refl _) _)
                go_roundw
                case rel => exact ⟨i + 1, _, _, by omega, by go_num, HQN.out, HADD.out, HX11.out⟩
                case measure => simp [intOf]; omega
    · obtain rfl : i = ts.length := by omega
      rw [List.take_length] at HQ
      clear hlt
      have bb := (show Blk wr (b0 + 1) #[.slice aou us.length cu] 24 from (HBE.out.block _ (by have := HBO.out; omega)).trans HB.out).cells
      clear hbe
      go_wp2_with fail
      clear bb
      go_loopw [104] (fun iv wr => ∃ (i : Nat) (q : List (TyS × Value)) (ov : Value), i ≤ us.length ∧ iv = .int .i64 i ∧ q.map (·.1) = ts.filterMap (appF us) ++ (us.take i).filter (fun u => (typF ts u.name).isNone) ∧ ScBox7 w.heap.size w bo (bo + 1) [] wr q ov ∧ Below bo wb wr) (fun iv _ => us.length - (intOf iv).toNat)
      case atStart => exact ⟨0, q, .slice aos ks css, by omega, rfl, by rw [HQ.out]; simp, HBX0.out, HBE.out⟩
      case round =>
        clear HPS HLS HBX0 HBE HXW HBS HQ
        obtain ⟨i, q, ov, hi, rfl, hq, hbx, hbe⟩ := hrel
        have HQ := Lib.hid hq
        have HBX0 := Lib.hid hbx
        have HBE := Lib.hid hbe
        obtain ⟨aos, ks, css, rfl, -, -, -⟩ := hbx.row.sl.len
        have HPS := Lib.hid (fun g (e : Value.ownBlock (.slice aos ks css) = some g) => hbx.row.block g e)
        have HLS := Lib.hid (show q.length ≤ 4000000 from by
          have h1 := congrArg List.length hq
          rw [List.length_map, List.length_append] at h1
          have h2 := fm_len (appF us) ts
          have h3 := List.length_filter_le (fun u : TyS => (typF ts u.name).isNone) (us.take i)
          rw [List.length_take] at h3
          have := HK.out.1.tl
          have := HK.out.2.tl
          omega)
        have hwn : w.heap.size ≤ bo := by have := HBO.out; omega
        have HXW := Lib.hid (show Ext w wr from Below.trans HX.out (hbe.mono hwn))
        have HBS := Lib.hid (show bo < wr.heap.size from hbx.box.lt)
        clear hq hbx hwn
        by_cases hlt : i < us.length
        · obtain ⟨bl, offl, rvl, haol, hbb, d0, d1, hrtl⟩ := HRU.out i hlt
          have d0 := HXW.out.cell (a := ⟨bl, offl + i * 2, none⟩) d0
          have d1 := HXW.out.cell (a := ⟨bl, offl + i * 2 + 1, none⟩) d1
          have HNX := Lib.hid (fl_snoc (fun u : TyS => (typF ts u.name).isNone) hlt)
          subst haol
          generalize us[i] = x at *
          obtain ⟨nm, rl⟩ := x
          dsimp only at d0 d1 hrtl HNX
          have HAT := Lib.hid hrtl
          obtain ⟨aor, cr, rfl, hcr1, hcr2, -⟩ := hrtl.rows
          obtain ⟨wp, hwp⟩ : ∃ x, x = wr.alloc (.cells #[.string nm, .slice aor rl.length cr] 49) := ⟨_, rfl⟩
          have xp : Ext wr wp := by rw [hwp]; exact Ext.alloc _ _
          have hpb : Blk wp wr.heap.size #[.string nm, .slice aor rl.length cr] 49 := by rw [hwp]; exact Blk.made _ _ _
          have HPB := Lib.hid hpb
          have HXWp := Lib.hid (show Ext w wp from HXW.out.trans xp)
          have HEP := Lib.hid (show Below bo wb wp from hbe.trans (Below.mono xp (by have := HBS.out; omega)))
          have HBP := Lib.hid (HBX0.out.keep (Below.kept xp fun b hb => hb.1) (xp.block _ HBS.out))
          have HTY := Lib.hid (typ7_at ts _ nm wp (S := (· < w.heap.size)) (fun b (hb : b < w.heap.size) => Nat.lt_of_lt_of_le hb HXWp.out.size) (HT.out.same (Same.below HXWp.out)))
          have mb := (show Blk wp b0 #[.slice aot ts.length ct] 24 from (HEP.out.block _ (by have := HBO.out; omega)).trans HA.out).cells
          have pb := hpb.cells
          clear hrtl xp hpb HXW hbe HBE HBX0
          rcases htf : typF ts nm with _ | u
          · rw [htf] at HTY
            dsimp only [tyOr, Option.getD, Option.isSome] at HTY
            rw [htf, if_pos (by rfl)] at HNX
            clear htf
            subst hwp
            go_wp2_with fail
            refine HTY.out.mono ?_
            rintro e w2 ⟨rv, rfl, hrv, hb2⟩
            obtain ⟨ao2, c2, rfl, -, -, -⟩ := hrv.rows
            generalize wr.alloc (.cells #[.string nm, .slice aor rl.length cr] 49) = wp at *
            obtain ⟨nP, hnP⟩ : ∃ x, x = wr.heap.size := ⟨_, rfl⟩
            rw [← hnP] at HPB pb ⊢
            obtain ⟨w3, hw3⟩ : ∃ x, x = w2.alloc (.cells #[.string ⟨#[]⟩, .slice ao2 ([] : List (ByteArray × RT)).length c2] 49) := ⟨_, rfl⟩
            have x3 : Ext wp w3 := Ext.trans hb2 (by rw [hw3]; exact Ext.alloc _ _)
            have HB3 := Lib.hid (HBP.out.keep (Below.kept x3 fun b hb => hb.1) (x3.block _ HBP.out.box.lt))
            have HE3 := Lib.hid (show Below bo wb w3 from HEP.out.trans (x3.mono (by have := HBP.out.box.lt; omega)))
            have HQN := Lib.hid (show (q ++ [((⟨nm, rl⟩ : TyS), Value.slice aor rl.length cr)]).map (·.1) = ts.filterMap (appF us) ++ (us.take (i + 1)).filter (fun u => (typF ts u.name).isNone) from by rw [List.map_append, HQ.out, HNX.out, List.append_assoc]; rfl)
            have X9 := Lib.hid (Ext.alloc w3 (.cells #[.string nm, .slice aor rl.length cr] 49))
            have HZ6 := Lib.hid (show bo + 1 ≤ w3.heap.size from HB3.out.box.lt)
            have h6c := HB3.out.box.cells
            have h6x := (HPB.out.below x3).cells
            dsimp only [List.length_nil] at hw3
            clear hnP HTY hrv hb2 x3 mb pb d0 d1 HPB HBP HEP
            subst hw3
            go_wp2_with (at_builtin; go_must (refine wpList_ownw tysT rfl (.tmp 118) (.tmp 120) rfl rfl (HB3.out.row.below X9.out) rfl (m := 1) (news := [.string nm, .slice aor rl.length cr]) rfl (by intro j u hu; rw [Addr.add_lit, cell_of_row _ (w2.heap.size + 1) (0 + j) #[.string nm, .slice aor rl.length cr] 49 (0, 0) (by have h0 := heap_alloc_new (w2.alloc (.cells #[.string ⟨#[]⟩, .slice ao2 0 c2] 49)) (.cells #[.string nm, .slice aor rl.length cr] 49); simpa using h0)]; simpa using hu) (by simp [Value.oneCell']) (by have := HLS.out; rw [flat_length tyC_length]; simp; omega) (by have := HLS.out; rw [flat_length tyC_length]; simp; omega) (by have := X9.out.size; have := HZ6.out; omega) ?_; intro v11 w11 hown11 hb11 hgr11; have HADD := Lib.hid (HB3.out.add (n0 := ((w2.alloc (.cells #[.string ⟨#[]⟩, .slice ao2 0 c2] 49))).heap.size) (x := ((⟨nm, rl⟩ : TyS), Value.slice aor rl.length cr)) (Nat.lt_succ_self _) (fun b h1 h2 => (hgr11.block b (Nat.lt_of_lt_of_le h1 X9.out.size) (fun e => h2 e.symm)).trans (X9.out.block b h1)) (Nat.le_trans X9.out.size hgr11.size) hown11 (fun g hg => (hb11 g hg).imp id (fun h => Nat.le_trans X9.out.size h)) (ElT7.old HAT.out) (HZ6.out) (fun g hg => (HB3.out.row.block g hg).2)); have HK11 := Lib.hid (show Kept (fun b => b < ((w2.alloc (.cells #[.string ⟨#[]⟩, .slice ao2 0 c2] 49))).heap.size ∧ Value.ownBlock (.slice aos ks css) ≠ some b) (w2.alloc (.cells #[.string ⟨#[]⟩, .slice ao2 0 c2] 49)) w11 from ⟨hgr11.os.trans X9.out.os, hgr11.tape.trans X9.out.tape, hgr11.output.trans X9.out.output, Nat.le_trans X9.out.size hgr11.size, fun b hb => (hgr11.block b (Nat.lt_of_lt_of_le hb.1 X9.out.size) (fun e => hb.2 e.symm)).trans (X9.out.block b hb.1)⟩); have h11 := HK11.out.blk HB3.out.box ⟨HB3.out.box.lt, fun e => by have := (HPS.out _ e).1; omega⟩; have h11f := Blk.free h11; have h11c := Blk.cells h11 0; obtain ⟨ao11, k11, c11, rfl, -, -, -⟩ := hown11.sl.len; clear hown11 hb11 hgr11 h11 h6c h6x))
            have HX11 := Lib.hid (show Below bo wb (w11.setCell ⟨bo, 0, none⟩ (.slice ao11 k11 c11)) from Below.setCell (Below.trans HE3.out (HK11.out.below fun b (hb : b < bo) => ⟨by have := HZ6.out; omega, fun e => by have := (HPS.out _ e).1; omega⟩)) (Nat.le_refl _) _)
            go_roundw
            case rel => exact ⟨i + 1, _, _, by omega, by go_num, HQN.out, HADD.out, HX11.out⟩
            case measure => simp [intOf]; omega
          · rw [htf] at HTY
            dsimp only [tyOr, Option.getD, Option.isSome] at HTY
            rw [htf, if_neg (by simp), List.append_nil] at HNX
            clear htf
            subst hwp
            go_wp2_with fail
            refine HTY.out.mono ?_
            rintro e w2 ⟨rv, rfl, hrv, hb2⟩
            obtain ⟨ao2, c2, rfl, -, -, -⟩ := hrv.rows
            generalize wr.alloc (.cells #[.string nm, .slice aor rl.length cr] 49) = wp at *
            generalize wr.heap.size = nP at *
            obtain ⟨w3, hw3⟩ : ∃ x, x = w2.alloc (.cells #[.string u.name, .slice ao2 u.rels.length c2] 49) := ⟨_, rfl⟩
            have x3 : Ext wp w3 := Ext.trans hb2 (by rw [hw3]; exact Ext.alloc _ _)
            have HB3 := Lib.hid (HBP.out.keep (Below.kept x3 fun b hb => hb.1) (x3.block _ HBP.out.box.lt))
            have HE3 := Lib.hid (show Below bo wb w3 from HEP.out.trans (x3.mono (by have := HBP.out.box.lt; omega)))
            have HQN := Lib.hid (show q.map (·.1) = ts.filterMap (appF us) ++ (us.take (i + 1)).filter (fun u => (typF ts u.name).isNone) from by rw [HQ.out, HNX.out])
            clear HTY hrv hb2 x3 mb pb d0 d1 HPB HBP HEP
            subst hw3
            go_wp2_with fail
            go_roundw
            case rel => exact ⟨i + 1, q, _, by omega, by go_num, HQN.out, HB3.out, HE3.out⟩
            case measure => simp [intOf]; omega
        · obtain rfl : i = us.length := by omega
          rw [List.take_length] at HQ
          clear hlt hbe
          have ob := HBX0.out.box.cells
          have hrb : Blk wr (b0 + 1 + 1) #[.slice none 0 0] 24 := (HBE.out.block _ (by have := HBO.out; omega)).trans HR.out
          have HRB := Lib.hid hrb
          have rb := hrb.cells
          have rf := hrb.free
          clear hrb
          go_wp2_with fail
          clear ob rb rf
          have hks : Kept (fun b => b ≠ b0 + 1 + 1) wr (wr.setCell ⟨b0 + 1 + 1, 0, none⟩ (.slice aos ks css)) := (Kept.refl _ wr).set (a := ⟨b0 + 1 + 1, 0, none⟩) (fun h => h rfl) _
          have hty := HBX0.out.tys HXW.out (Nat.le_of_lt (by have := HBS.out; have := HBO.out; omega))
          rw [HQ.out] at hty
          refine bodyPost_ret (v := .agg #[.slice aos ks css]) (results_cell_row rfl _ _ (b0 + 1 + 1) 24 #[.slice aos ks css] (0, 0) _ rfl (HRB.out.set_to 0 (.slice aos ks css) rfl) Try.underlying24 rfl (by kernel_rfl)) rfl ⟨.slice aos ks css, rfl, ?_, Below.trans HXW.out (hks.below fun b (hb : b < w.heap.size) => (by have := HBO.out; show b ≠ b0 + 1 + 1; omega))⟩
          have hne : ∀ b, (b < w.heap.size ∨ (bo + 1 ≤ b ∧ b < wr.heap.size)) → b ≠ b0 + 1 + 1 := fun b hb => by
            have := HBO.out
            rcases hb with hb | hb <;> omega
          exact (hty.same fun b hb => hks.block b (hne b hb)).mono fun b hb => by
            have h1 : wr.heap.size ≤ (wr.setCell ⟨b0 + 1 + 1, 0, none⟩ (.slice aos ks css)).heap.size := hks.size
            have := HXW.out.size
            show b < (wr.setCell ⟨b0 + 1 + 1, 0, none⟩ (.slice aos ks css)).heap.size
            rcases hb with hb | hb <;> omega

end Go.Proofs.Ytipddhcfcehcaaa
