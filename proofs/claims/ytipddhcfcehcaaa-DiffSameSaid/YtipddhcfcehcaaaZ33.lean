/- slices.ContainsFunc at tuples; the walk of Safe. The walk of DiffBreaks. A tuple among the arguments, opened. No condition: lemmas. -/
import Derived.Test.YtipddhcfcehcaaaZ32
import Derived.Test.YtipddhcfcehcaaaZ17
import Derived.Test.YtipddhcfcehcaaaZ27
import Derived.Test.YtipddhcfcehcaaaZ23
namespace Go.Proofs.Ytipddhcfcehcaaa
open Go Go.RowKit Go.Maps

set_option maxRecDepth 100000 in
set_option maxHeartbeats 1000000 in
theorem indexTup_any (w : World) (l : List Tup) (lv : Value) (g : Nat) (cap : Array Value) (eg : ∀ args W, (callFunc g args).run Try.prog W = .ok (.enter g args) W) (q : Tup → Bool) (hat : Sl (· < w.heap.size) w 6 lv (tuCs l)) (hf : ∀ i (hi : i < l.length) W, Ext w W → Calls Try.prog g (#[tV l[i]] ++ cap) W fun e W' => e = .returned (.bool (q l[i])) ∧ Ext W W') :
    Calls Try.prog 61 #[lv, .func (.func g) #[] cap] w fun e w' => ∃ k : Int, e = .returned (.int .i64 k) ∧ (0 ≤ k ↔ l.any q = true) ∧ Ext w w' := by
  obtain ⟨ao, c, rfl, hlc, hcm, hcell⟩ := tups_rows hat
  have HC := Lib.hid hcell
  have HF := Lib.hid hf
  clear hat hcell hf
  go_enter Try.func61, Try.ntmps61
  go_wp2_with fail
  go_loopw [5, 8] (fun _ ii wr => ∃ i : Nat, i ≤ l.length ∧ ii = .int .i64 i ∧ (∀ j (hj : j < l.length), j < i → q l[j] = false) ∧ Ext w wr) (fun _ ii _ => l.length - (intOf ii).toNat)
  case atStart => exact ⟨0, by omega, rfl, fun _ _ h => absurd h (by omega), Ext.refl _⟩
  case round =>
    obtain ⟨i, hi, rfl, hall, hbel⟩ := hrel
    have HALL := Lib.hid hall
    have HB := Lib.hid hbel
    clear hall
    by_cases hlt : i < l.length
    · have HUP := Lib.hid (fun h => upto_succ (p := fun j hj => q l[j] = false) HALL.out hlt h)
      have HAN := Lib.hid (fun (h : q l[i] = true) => (show l.any q = true from List.any_eq_true.2 ⟨_, List.getElem_mem hlt, h⟩))
      obtain ⟨b, off, rfl, hb, k0, k1, k2, k3, k4, k5⟩ := HC.out i hlt
      have d0 := hbel.cell (a := ⟨b, off + i * 6, none⟩) k0
      have d1 := hbel.cell (a := ⟨b, off + i * 6 + 1, none⟩) k1
      have d2 := hbel.cell (a := ⟨b, off + i * 6 + 2, none⟩) k2
      have d3 := hbel.cell (a := ⟨b, off + i * 6 + 3, none⟩) k3
      have d4 := hbel.cell (a := ⟨b, off + i * 6 + 4, none⟩) k4
      have d5 := hbel.cell (a := ⟨b, off + i * 6 + 5, none⟩) k5
      have HR := Lib.hid (HF.out i hlt wr hbel)
      generalize l[i] = t at *
      cases hq : q t with
      | true =>
        rw [hq] at HR
        have HT := Lib.hid (HAN.out hq)
        obtain ⟨⟨t0, t1, t2⟩, ⟨t3, t4, t5⟩⟩ := t
        dsimp only at d0 d1 d2 d3 d4 d5
        unfold tV at HR
        dsimp only at HR
        clear HUP HAN hq k0 k1 k2 k3 k4 k5 hbel
        go_wp2_with fail
        refine HR.out.mono ?_
        rintro e w5 ⟨rfl, hb5⟩
        have HBE := Lib.hid (HB.out.trans hb5)
        clear HR hb5 d0 d1 d2 d3 d4 d5
        go_wp2_with fail
        go_ret
        exact ⟨_, rfl, ⟨fun _ => HT.out, fun _ => by omega⟩, HBE.out⟩
      | false =>
        rw [hq] at HR
        have HN := Lib.hid (HUP.out hq)
        obtain ⟨⟨t0, t1, t2⟩, ⟨t3, t4, t5⟩⟩ := t
        dsimp only at d0 d1 d2 d3 d4 d5
        unfold tV at HR
        dsimp only at HR
        clear HUP HAN hq k0 k1 k2 k3 k4 k5 hbel
        go_wp2_with fail
        refine HR.out.mono ?_
        rintro e w5 ⟨rfl, hb5⟩
        have HBE := Lib.hid (HB.out.trans hb5)
        clear HR hb5 d0 d1 d2 d3 d4 d5
        go_wp2_with fail
        go_roundw
        case rel => exact ⟨i + 1, by omega, by go_num, HN.out, HBE.out⟩
        case measure => simp [intOf]; omega
    · obtain rfl : i = l.length := by omega
      have HN := Lib.hid (show ¬ l.any q = true from fun h => by
        obtain ⟨x, hx, hq⟩ := List.any_eq_true.1 h
        obtain ⟨j, hj, rfl⟩ := List.getElem_of_mem hx
        rw [HALL.out j hj hj] at hq
        cases hq)
      clear hbel
      go_wp2_with fail
      go_ret
      exact ⟨_, rfl, ⟨fun h => absurd h (by omega), fun h => absurd h HN.out⟩, HB.out⟩

set_option maxRecDepth 100000 in
set_option maxHeartbeats 1000000 in
theorem containsTup_any (w : World) (l : List Tup) (lv : Value) (g : Nat) (cap : Array Value) (eg : ∀ args W, (callFunc g args).run Try.prog W = .ok (.enter g args) W) (q : Tup → Bool) (hat : Sl (· < w.heap.size) w 6 lv (tuCs l)) (hf : ∀ i (hi : i < l.length) W, Ext w W → Calls Try.prog g (#[tV l[i]] ++ cap) W fun e W' => e = .returned (.bool (q l[i])) ∧ Ext W W') :
    Calls Try.prog 31 #[lv, .func (.func g) #[] cap] w fun e w' => e = .returned (.bool (l.any q)) ∧ Ext w w' := by
  have HI := Lib.hid (indexTup_any w l lv g cap eg q hat hf)
  clear hat hf
  go_enter Try.func31, Try.ntmps31
  go_wp2_with fail
  refine HI.out.mono ?_
  rintro e w2 ⟨k, rfl, hk, hb⟩
  have HK := Lib.hid hk
  have HB := Lib.hid hb
  clear HI hk hb
  by_cases h0 : 0 ≤ k
  · have HM := Lib.hid (HK.out.1 h0)
    go_wp2_with fail
    go_ret
    exact ⟨by rw [HM.out]; simp [h0], HB.out⟩
  · have HM := Lib.hid (show l.any q = false from by cases h : l.any q with | false => rfl | true => exact absurd (HK.out.2 h) h0)
    go_wp2_with fail
    go_ret
    exact ⟨by rw [HM.out]; simp [h0], HB.out⟩

set_option maxRecDepth 100000 in
set_option maxHeartbeats 1000000 in
theorem safe_any (ts us : List TyS) (tv uv : Value) (l : List Tup) (lv : Value) (w : World) (ht : TysAt (· < w.heap.size) w ts tv) (hu : TysAt (· < w.heap.size) w us uv) (k1 : SOk ts) (k2 : SOk us) (u1 : uniqOk ts = true) (u2 : uniqOk us = true) (hl : Sl (· < w.heap.size) w 6 lv (tuCs l)) (hlo : ∀ t ∈ l, t.Ok) (hn : l.length ≤ 100000) :
    Calls Try.prog 15 #[.agg #[tv], .agg #[uv], lv] w fun e w' => e = .returned (.bool (!(brkL us l).any fun t => decide (wrN ts t = 0))) ∧ Ext w w' := by
  obtain ⟨aot, ct, rfl, -, -, -⟩ := ht.rows
  obtain ⟨aou, cu, rfl, -, -, -⟩ := hu.rows
  obtain ⟨wa, hwa⟩ : ∃ x, x = w.alloc (.cells #[.slice aot ts.length ct] 24) := ⟨_, rfl⟩
  obtain ⟨wb, hwb⟩ : ∃ x, x = wa.alloc (.cells #[.slice aou us.length cu] 24) := ⟨_, rfl⟩
  have ea : wa.heap.size = w.heap.size + 1 := by rw [hwa]; simp
  have xa : Ext w wa := by rw [hwa]; exact Ext.alloc _ _
  have xb : Ext wa wb := by rw [hwb]; exact Ext.alloc _ _
  have HSA := Lib.hid (show Blk wb w.heap.size #[.slice aot ts.length ct] 24 from Blk.below (by rw [hwa]; exact Blk.made _ _ _) xb)
  have HSB := Lib.hid (show Blk wb (w.heap.size + 1) #[.slice aou us.length cu] 24 from by rw [hwb, ← ea]; exact Blk.made _ _ _)
  have HX := Lib.hid (xa.trans xb)
  have HT := Lib.hid (ht.up HX.out)
  have HK := Lib.hid (And.intro k1 u1)
  have HLO := Lib.hid hlo
  have HB := Lib.hid (breaksP_any us _ l lv wb (hu.up HX.out) k2 u2 (hl.up HX.out) hlo hn)
  have sb := HSB.out.cells
  have hmf : ∀ (fn : Fn) (first cap : Array Value) (w : World), (Instr.makeFunc fn first cap).run Try.prog w = .ok (.func fn first cap) w := fun _ _ _ _ => rfl
  obtain ⟨aol, nl, cl, rfl, -, -, -⟩ := hl.len
  clear ht hu k1 k2 u1 u2 hl hlo hn xa xb ea
  subst hwb hwa
  go_enter Try.func15, Try.ntmps15
  go_wp2_with fail
  refine HB.out.mono ?_
  rintro e w1 ⟨v1, rfl, ho1, hb1⟩
  have HX1 := Lib.hid (show Ext w w1 from HX.out.trans hb1)
  have HC := Lib.hid (containsTup_any w1 (brkL us l) v1 32 #[.pointer (some ⟨w.heap.size, 0, none⟩)] (enters_of Try.func32 (by kernel_rfl) rfl) (fun t => decide (wrN ts t = 0)) (ho1.sl.mono fun b hb => hb.2) (fun i hi W hW => safe1_any ts _ _ w.heap.size W (HT.out.up (Ext.trans hb1 hW)) (HSA.out.below (Ext.trans hb1 hW)) HK.out.1 HK.out.2 (HLO.out _ ((List.mem_filter.1 (List.getElem_mem hi)).1))))
  clear hb1 ho1 HB sb
  go_wp2_with fail
  refine HC.out.mono ?_
  rintro e w2 ⟨rfl, hb2⟩
  have HX2 := Lib.hid (show Ext w w2 from HX1.out.trans hb2)
  clear hb2 HC
  go_wp2_with fail
  go_ret
  exact ⟨rfl, HX2.out⟩

end Go.Proofs.Ytipddhcfcehcaaa
namespace Go.Proofs.Ytipddhcfcehcaaa
open Go Go.RowKit Go.Maps

set_option maxRecDepth 100000 in
set_option maxHeartbeats 2000000 in
theorem breaksLaw_any (ts us : List TyS) (tv uv : Value) (l : List Tup) (lv : Value) (w : World) (ht : TysAt (· < w.heap.size) w ts tv) (hu : TysAt (· < w.heap.size) w us uv) (hb1 : schBk ts ≤ 1048576) (hb2 : schBk us ≤ 1048576) (ho1 : ∀ t ∈ ts, t.Ok) (ho2 : ∀ t ∈ us, t.Ok) (hl : Sl (· < w.heap.size) w 6 lv (tuCs l)) (hlo : ∀ t ∈ l, t.Ok) :
    Calls Try.prog 3 #[.agg #[tv], .agg #[uv], lv] w fun e w' => e = .returned (.bool true) ∧ Ext w w' := by
  obtain ⟨aot, ct, rfl, -, -, -⟩ := ht.rows
  obtain ⟨aou, cu, rfl, -, -, -⟩ := hu.rows
  obtain ⟨wa, hwa⟩ : ∃ x, x = w.alloc (.cells #[.slice aot ts.length ct] 24) := ⟨_, rfl⟩
  obtain ⟨wb, hwb⟩ : ∃ x, x = wa.alloc (.cells #[.slice aou us.length cu] 24) := ⟨_, rfl⟩
  have ea : wa.heap.size = w.heap.size + 1 := by rw [hwa]; simp
  have xa : Ext w wa := by rw [hwa]; exact Ext.alloc _ _
  have xb : Ext wa wb := by rw [hwb]; exact Ext.alloc _ _
  have HSA := Lib.hid (show Blk wb w.heap.size #[.slice aot ts.length ct] 24 from Blk.below (by rw [hwa]; exact Blk.made _ _ _) xb)
  have HSB := Lib.hid (show Blk wb (w.heap.size + 1) #[.slice aou us.length cu] 24 from by rw [hwb, ← ea]; exact Blk.made _ _ _)
  have HX := Lib.hid (xa.trans xb)
  have HT := Lib.hid ht
  have HU := Lib.hid hu
  have HL := Lib.hid hl
  have HLO := Lib.hid hlo
  have HK1 := Lib.hid (SOk.bk hb1 ho1)
  have HK2 := Lib.hid (SOk.bk hb2 ho2)
  have HW := Lib.hid (show schW ts ≤ 80000000 ∧ schW us ≤ 80000000 from ⟨by have := schW_bk ts; omega, by have := schW_bk us; omega⟩)
  have HF := Lib.hid (fixed07_any wb)
  obtain ⟨aol, cl, rfl, -, hlm, hlc⟩ := tups_rows hl
  have HLC := Lib.hid hlc
  clear ht hu hl hlo hb1 hb2 ho1 ho2 xa xb ea hlc
  subst hwb hwa
  go_enter Try.func3, Try.ntmps3
  go_wp2_with fail
  refine HF.out.mono ?_
  rintro e w1 ⟨rfl, hb1⟩
  have HX1 := Lib.hid (show Ext w w1 from HX.out.trans hb1)
  have HA1 := Lib.hid (HSA.out.below hb1)
  have HB1 := Lib.hid (HSB.out.below hb1)
  have HFW := Lib.hid (few07_any ts us _ _ w1 (HT.out.up HX1.out) (HU.out.up HX1.out) HK1.out.ok HK2.out.ok)
  have a1 := HA1.out.cells
  have b1 := HB1.out.cells
  clear hb1 HF HSA HSB HX
  cases hfe : (fewT ts 200 && fewT us 200) with
  | false =>
    rw [hfe] at HFW
    clear hfe
    go_wp2_with fail
    refine HFW.out.mono ?_
    rintro e w2 ⟨rfl, hb2⟩
    have HX2 := Lib.hid (show Ext w w2 from HX1.out.trans hb2)
    clear hb2 HFW
    go_wp2_with fail
    go_ret
    exact ⟨rfl, HX2.out⟩
  | true =>
    rw [hfe] at HFW
    clear hfe
    by_cases hl60 : (60 : Int) < (l.length : Int)
    · go_wp2_with fail
      refine HFW.out.mono ?_
      rintro e w2 ⟨rfl, hb2⟩
      have HX2 := Lib.hid (show Ext w w2 from HX1.out.trans hb2)
      clear hb2 HFW
      go_wp2_with fail
      go_ret
      exact ⟨rfl, HX2.out⟩
    have HL60 := Lib.hid (show l.length ≤ 60 from by omega)
    go_wp2_with fail
    refine HFW.out.mono ?_
    rintro e w2 ⟨rfl, hb2⟩
    have HX2 := Lib.hid (show Ext w w2 from HX1.out.trans hb2)
    have HA2 := Lib.hid (HA1.out.below hb2)
    have HB2 := Lib.hid (HB1.out.below hb2)
    have HCK := Lib.hid (check07_any ts us _ _ w2 (HT.out.up HX2.out) (HU.out.up HX2.out) HK1.out.ok HK2.out.ok HW.out.1 HW.out.2)
    have a2 := HA2.out.cells
    have b2 := HB2.out.cells
    clear hb2 HFW a1 b1 HA1 HB1 HX1
    by_cases hck : (if chk06 ts = 0 then chk06 us else chk06 ts) = 0
    case neg =>
      have hne : ((if chk06 ts = 0 then chk06 us else chk06 ts) != 0) = true := by rw [bne_iff_ne]; exact hck
      clear hck
      generalize (if chk06 ts = 0 then chk06 us else chk06 ts) = ck at *
      go_wp2_with fail
      refine HCK.out.mono ?_
      rintro e w3 ⟨rfl, hb3⟩
      have HX3 := Lib.hid (show Ext w w3 from HX2.out.trans hb3)
      clear hb3 HCK
      go_wp2_with fail
      go_ret
      exact ⟨rfl, HX3.out⟩
    have HC1 := Lib.hid (show chk06 ts = 0 from by
      by_cases h : chk06 ts = 0
      · exact h
      · rw [if_neg h] at hck; exact hck)
    have HC2 := Lib.hid (show chk06 us = 0 from by rw [if_pos HC1.out] at hck; exact hck)
    rw [hck] at HCK
    clear hck
    have HQ1 := Lib.hid (chk_uq HC1.out)
    have HQ2 := Lib.hid (chk_uq HC2.out)
    go_wp2_with fail
    refine HCK.out.mono ?_
    rintro e w3 ⟨rfl, hb3⟩
    have HX3 := Lib.hid (show Ext w w3 from HX2.out.trans hb3)
    have HA3 := Lib.hid (HA2.out.below hb3)
    have HB3 := Lib.hid (HB2.out.below hb3)
    clear hb3 HCK a2 b2 HA2 HB2 HX2
    go_wp2_with fail
    go_loopw [34] (fun iv wr => ∃ i : Nat, i ≤ l.length ∧ iv = .int .i64 i ∧ Ext w3 wr) (fun iv _ => l.length - (intOf iv).toNat)
    case atStart => exact ⟨0, by omega, rfl, Ext.refl _⟩
    case round =>
      obtain ⟨i, hi, rfl, hext⟩ := hrel
      have HE := Lib.hid hext
      have hlm2 := hlm
      by_cases hlt : i < l.length
      · obtain ⟨b, off, hbo, hb, k0, k1, k2, k3, k4, k5⟩ := HLC.out i hlt
        cases hbo
        have HEW := Lib.hid (HX3.out.trans hext)
        have d0 := HEW.out.cell (a := ⟨b, off + i * 6, none⟩) k0
        have d1 := HEW.out.cell (a := ⟨b, off + i * 6 + 1, none⟩) k1
        have d2 := HEW.out.cell (a := ⟨b, off + i * 6 + 2, none⟩) k2
        have d3 := HEW.out.cell (a := ⟨b, off + i * 6 + 3, none⟩) k3
        have d4 := HEW.out.cell (a := ⟨b, off + i * 6 + 4, none⟩) k4
        have d5 := HEW.out.cell (a := ⟨b, off + i * 6 + 5, none⟩) k5
        generalize l[i] = t at *
        have HIT := Lib.hid hlt
        obtain ⟨⟨t0, t1, t2⟩, ⟨t3, t4, t5⟩⟩ := t
        dsimp only at d0 d1 d2 d3 d4 d5
        have x1 := Ext.alloc wr (.cells #[.string t0, .string t1, .string t2, .string t3, .string t4, .string t5] 35)
        have HE1 := Lib.hid (show Ext w3 _ from hext.trans x1)
        have tb1 := (Blk.made wr #[.string t0, .string t1, .string t2, .string t3, .string t4, .string t5] 35).cells
        have HPA := Lib.hid (parts_any ⟨⟨t0, t1, t2⟩, ⟨t3, t4, t5⟩⟩ (wr.alloc (.cells #[.string t0, .string t1, .string t2, .string t3, .string t4, .string t5] 35)))
        unfold tV at HPA
        dsimp only at HPA
        clear k0 k1 k2 k3 k4 k5 hext x1
        go_wp2_with fail
        refine HPA.out.mono ?_
        rintro e w4 ⟨rfl, hpb, hb4⟩
        have HE4 := Lib.hid (HE1.out.trans hb4)
        have HPR := Lib.hid (show ∀ i (hi : i < 6), w4.cell? ⟨(wr.alloc (.cells #[.string t0, .string t1, .string t2, .string t3, .string t4, .string t5] 35)).heap.size + 1, i, none⟩ = some (.string ((prts ⟨⟨t0, t1, t2⟩, ⟨t3, t4, t5⟩⟩)[i]'hi)) from fun i hi => by
          rw [hpb.cells]
          match i, hi with
          | 0, _ => rfl
          | 1, _ => rfl
          | 2, _ => rfl
          | 3, _ => rfl
          | 4, _ => rfl
          | 5, _ => rfl)
        clear hb4 hpb HPA tb1 d0 d1 d2 d3 d4 d5
        generalize (wr.alloc (.cells #[.string t0, .string t1, .string t2, .string t3, .string t4, .string t5] 35)).heap.size + 1 = bp at *
        go_wp2_with fail
        go_loopw [41] (fun ii wr => ∃ j : Nat, j ≤ 6 ∧ ii = .int .i64 j ∧ wr = w4) (fun ii _ => 6 - (intOf ii).toNat)
        case atStart => exact ⟨0, by omega, rfl, rfl⟩
        case round =>
          obtain ⟨j, hj, rfl, rfl⟩ := hrel
          by_cases hjt : j < 6
          · have hcl := HPR.out j hjt
            have hjt' : (j : Int) < 6 := by omega
            generalize (prts ⟨⟨t0, t1, t2⟩, ⟨t3, t4, t5⟩⟩)[j]'hjt = q at *
            by_cases hq : (100 : Int) < (q.size : Int)
            · go_wp2_with fail
              go_ret
              exact ⟨rfl, HX3.out.trans HE4.out⟩
            · go_wp2_with fail
              go_roundw
              case rel => exact ⟨j + 1, by omega, by go_num, trivial⟩
              case measure => simp [intOf]; omega
          · obtain rfl : j = 6 := by omega
            have hit := HIT.out
            go_wp2_with fail
            go_roundw
            case rel => exact ⟨i + 1, by omega, by go_num, HE4.out⟩
            case measure => simp [intOf]; omega
      · obtain rfl : i = l.length := by omega
        have HX5 := Lib.hid (show Ext w wr from HX3.out.trans hext)
        have HA5 := Lib.hid (HA3.out.below hext)
        have HB5 := Lib.hid (HB3.out.below hext)
        have HBD := Lib.hid (breaksD_any us _ l _ wr (HU.out.up HX5.out) HK2.out HQ2.out (HL.out.up HX5.out) HLO.out (by have := HL60.out; omega))
        have b5 := HB5.out.cells
        clear hext HE HA3 HB3 HX3
        go_wp2_with fail
        refine HBD.out.mono ?_
        rintro e w6 ⟨v6, rfl, ho6, hb6⟩
        have HX6 := Lib.hid (show Ext w w6 from HX5.out.trans hb6)
        have HA6 := Lib.hid (HA5.out.below hb6)
        have HB6 := Lib.hid (HB5.out.below hb6)
        have HO6 := Lib.hid (ho6.sl.mono (T := (· < w6.heap.size)) fun b hb => hb.2)
        obtain ⟨ao6, c6, rfl, -, -, h6c⟩ := tups_rows HO6.out
        have H6C := Lib.hid h6c
        have HBL := Lib.hid (show (brkL us l).length ≤ 60 from by have := brkL_le us l; have := HL60.out; omega)
        have HBO := Lib.hid (show ∀ t ∈ brkL us l, t.Ok from fun t ht => HLO.out t (List.mem_filter.1 ht).1)
        have HTG := Lib.hid (show (!(brkL us l).any fun t => decide (wrN ts t = 0)) = (brkL us l).all fun t => decide (wrN ts t ≠ 0) from by
          rw [List.not_any_eq_all_not]
          congr 1
          funext t
          by_cases h : wrN ts t = 0 <;> simp [h])
        clear hb6 ho6 HBD b5 h6c HA5 HB5 HX5
        go_wp2_with fail
        go_loopw [12, 55] (fun sv iv wr => ∃ i : Nat, i ≤ (brkL us l).length ∧ sv = .bool (((brkL us l).take i).all fun t => decide (wrN ts t ≠ 0)) ∧ iv = .int .i64 i ∧ Ext w6 wr) (fun _ iv _ => (brkL us l).length - (intOf iv).toNat)
        case atStart => exact ⟨0, by omega, rfl, rfl, Ext.refl _⟩
        case round =>
          obtain ⟨i, hi, rfl, rfl, hext⟩ := hrel
          have HE := Lib.hid hext
          have hbl := HBL.out
          by_cases hlt : i < (brkL us l).length
          · obtain ⟨b, off, hbo, hb, k0, k1, k2, k3, k4, k5⟩ := H6C.out i hlt
            cases hbo
            have d0 := hext.cell (a := ⟨b, off + i * 6, none⟩) k0
            have d1 := hext.cell (a := ⟨b, off + i * 6 + 1, none⟩) k1
            have d2 := hext.cell (a := ⟨b, off + i * 6 + 2, none⟩) k2
            have d3 := hext.cell (a := ⟨b, off + i * 6 + 3, none⟩) k3
            have d4 := hext.cell (a := ⟨b, off + i * 6 + 4, none⟩) k4
            have d5 := hext.cell (a := ⟨b, off + i * 6 + 5, none⟩) k5
            have HTK := Lib.hid (show ((brkL us l).take (i + 1)).all (fun t => decide (wrN ts t ≠ 0)) = (((brkL us l).take i).all (fun t => decide (wrN ts t ≠ 0)) && decide (wrN ts (brkL us l)[i] ≠ 0)) from by rw [List.take_succ_eq_append_getElem hlt, List.all_append]; simp)
            have HTO := Lib.hid (HBO.out _ (List.getElem_mem hlt))
            generalize ((brkL us l).take i).all (fun t => decide (wrN ts t ≠ 0)) = sm at *
            generalize (brkL us l)[i] = t at *
            have HIT := Lib.hid hlt
            obtain ⟨⟨t0, t1, t2⟩, ⟨t3, t4, t5⟩⟩ := t
            dsimp only at d0 d1 d2 d3 d4 d5
            have x1 := Ext.alloc wr (.cells #[.string t0, .string t1, .string t2, .string t3, .string t4, .string t5] 35)
            have HE1 := Lib.hid (show Ext w6 _ from hext.trans x1)
            have tb1 := (Blk.made wr #[.string t0, .string t1, .string t2, .string t3, .string t4, .string t5] 35).cells
            have a6 := (HA6.out.below HE1.out).cells
            have HWR := Lib.hid (writes06_any ts _ ⟨⟨t0, t1, t2⟩, ⟨t3, t4, t5⟩⟩ _ (HT.out.up (show Ext w _ from HX6.out.trans HE1.out)) HQ1.out HTO.out)
            unfold tV at HWR
            dsimp only at HWR
            clear k0 k1 k2 k3 k4 k5 hext x1
            cases sm with
            | false =>
              go_wp2_with fail
              go_roundw
              case rel => exact ⟨i + 1, by omega, by rw [HTK.out]; rfl, by go_num, HE1.out⟩
              case measure => simp [intOf]; omega
            | true =>
              generalize hwn : wrN ts ⟨⟨t0, t1, t2⟩, ⟨t3, t4, t5⟩⟩ = wn at *
              have hneq : (wn != 0) = decide (wn ≠ 0) := by rw [Bool.eq_iff_iff]; simp
              clear hwn
              go_wp2_with fail
              refine HWR.out.mono ?_
              rintro e w7 ⟨rfl, hb7⟩
              have HE7 := Lib.hid (HE1.out.trans hb7)
              clear hb7 HWR tb1 a6 d0 d1 d2 d3 d4 d5
              go_wp2_with fail
              go_roundw
              case rel => exact ⟨i + 1, by have := HIT.out; omega, (by rw [HTK.out, Bool.true_and, ← hneq]; rfl), by go_num, HE7.out⟩
              case measure => have := HIT.out; simp [intOf]; omega
          · obtain rfl : i = (brkL us l).length := by omega
            rw [List.take_length, ← HTG.out]
            have HX8 := Lib.hid (show Ext w wr from HX6.out.trans hext)
            have HA8 := Lib.hid (HA6.out.below hext)
            have HB8 := Lib.hid (HB6.out.below hext)
            have HO8 := Lib.hid (HO6.out.up hext)
            have HBP := Lib.hid (breaksP_any us _ l _ wr (HU.out.up HX8.out) HK2.out HQ2.out (HL.out.up HX8.out) HLO.out (by have := HL60.out; omega))
            have b8 := HB8.out.cells
            clear hext HE HA6 HB6 HX6
            go_wp2_with fail
            refine HBP.out.mono ?_
            rintro e w9 ⟨v9, rfl, ho9, hb9⟩
            have HX9 := Lib.hid (show Ext w w9 from HX8.out.trans hb9)
            have HA9 := Lib.hid (HA8.out.below hb9)
            have HB9 := Lib.hid (HB8.out.below hb9)
            have HST := Lib.hid (sameT_any v9 _ (brkL us l) w9 (ho9.sl.mono (T := (· < w9.heap.size)) fun b hb => hb.2) (HO8.out.up hb9))
            clear hb9 ho9 HBP b8 HA8 HB8 HX8
            go_wp2_with fail
            refine HST.out.mono ?_
            rintro e w10 ⟨rfl, hb10⟩
            have HX10 := Lib.hid (show Ext w w10 from HX9.out.trans hb10)
            have a10 := (HA9.out.below hb10).cells
            have b10 := (HB9.out.below hb10).cells
            have HSF := Lib.hid (safe_any ts us _ _ l _ w10 (HT.out.up HX10.out) (HU.out.up HX10.out) HK1.out HK2.out HQ1.out HQ2.out (HL.out.up HX10.out) HLO.out (by have := HL60.out; omega))
            generalize (!(brkL us l).any fun t => decide (wrN ts t = 0)) = sf at *
            have hsf : (sf == sf) = true := beq_self_eq_true _
            clear hb10 HST
            go_wp2_with fail
            refine HSF.out.mono ?_
            rintro e w11 ⟨rfl, hb11⟩
            have HX11 := Lib.hid (show Ext w w11 from HX10.out.trans hb11)
            clear hb11 HSF a10 b10
            go_wp2_with fail
            go_ret
            exact ⟨rfl, HX11.out⟩

end Go.Proofs.Ytipddhcfcehcaaa
namespace Go.Proofs.Ytipddhcfcehcaaa
open Go Go.RowKit Go.ChangeShapes Go.WideShapes Go.ChangeAt

def pC4 (p : P3) : List Value := [.string p.t, .string p.i, .string p.r]
def tC4 (t : Tup) : List Value := [.string t.o.t, .string t.o.i, .string t.o.r, .string t.s.t, .string t.s.i, .string t.s.r]
section
variable {H : Type} {enc : TypeId × Value → H} {W : World} {base : Nat} {v : Value} {d : DataW H} {ps : List MemPlace}

set_option maxRecDepth 100000 in
theorem open_obj_cells {fuel : Nat} {cs : List Value} {y : DataW H × List MemPlace} (hy : DataW.trod enc Try.prog W 0 (fun _ => true) true fuel 31 cs = some y) : ∃ a b : ByteArray, cs = [.string a, .string b] ∧ a.size ≤ maxLen ∧ b.size ≤ maxLen := by
  obtain ⟨xs, n, _, _, hl, hlen, hf⟩ := DataW.trod_struct Try.underlying31 hy
  rw [show Try.prog.cellsOf 31 = 2 from by kernel_rfl] at hl
  obtain ⟨c0, c1, rfl⟩ : ∃ c0 c1, cs = [c0, c1] := by
    match cs, hl with
    | [c0, c1], _ => exact ⟨c0, c1, rfl⟩
  have h0 := hf 0 _ rfl
  have h1 := hf 1 _ rfl
  obtain ⟨y0, y1, rfl⟩ : ∃ y0 y1, xs = [y0, y1] := by
    match xs, hlen with
    | [y0, y1], _ => exact ⟨y0, y1, rfl⟩
  obtain ⟨a, e0, _, wa⟩ := DataW.trod_string Try.underlying9 h0
  obtain ⟨b, e1, _, wb⟩ := DataW.trod_string Try.underlying9 h1
  have k1 : Try.prog.cellsOf 9 = 1 := by kernel_rfl
  simp [k1] at e0 e1
  subst e0 e1
  exact ⟨a, b, rfl, wa, wb⟩

set_option maxRecDepth 100000 in
theorem open_sub_cells {fuel : Nat} {cs : List Value} {y : DataW H × List MemPlace} (hy : DataW.trod enc Try.prog W 0 (fun _ => true) true fuel 33 cs = some y) : ∃ p : P3, cs = pC4 p ∧ p.Ok := by
  obtain ⟨xs, n, _, _, hl, hlen, hf⟩ := DataW.trod_struct Try.underlying33 hy
  rw [show Try.prog.cellsOf 33 = 3 from by kernel_rfl] at hl
  obtain ⟨c0, c1, c2, rfl⟩ : ∃ c0 c1 c2, cs = [c0, c1, c2] := by
    match cs, hl with
    | [c0, c1, c2], _ => exact ⟨c0, c1, c2, rfl⟩
  have h0 := hf 0 _ rfl
  have h1 := hf 1 _ rfl
  obtain ⟨y0, y1, rfl⟩ : ∃ y0 y1, xs = [y0, y1] := by
    match xs, hlen with
    | [y0, y1], _ => exact ⟨y0, y1, rfl⟩
  have k0 : Try.prog.cellsOf 31 = 2 := by kernel_rfl
  have k1 : Try.prog.cellsOf 9 = 1 := by kernel_rfl
  obtain ⟨a, b, e0, wa, wb⟩ := open_obj_cells h0
  obtain ⟨c, e1, _, wc⟩ := DataW.trod_string Try.underlying9 h1
  simp [k0] at e0
  simp [k1] at e1
  obtain ⟨rfl, rfl⟩ := e0
  subst e1
  exact ⟨⟨a, b, c⟩, rfl, wa, wb, wc⟩

set_option maxRecDepth 100000 in
theorem open_tup_cells {fuel : Nat} {cs : List Value} {y : DataW H × List MemPlace} (hy : DataW.trod enc Try.prog W 0 (fun _ => true) true fuel 35 cs = some y) : ∃ t : Tup, cs = tC4 t ∧ t.Ok := by
  obtain ⟨xs, n, _, _, hl, hlen, hf⟩ := DataW.trod_struct Try.underlying35 hy
  rw [show Try.prog.cellsOf 35 = 6 from by kernel_rfl] at hl
  obtain ⟨c0, c1, c2, c3, c4, c5, rfl⟩ : ∃ c0 c1 c2 c3 c4 c5, cs = [c0, c1, c2, c3, c4, c5] := by
    match cs, hl with
    | [c0, c1, c2, c3, c4, c5], _ => exact ⟨c0, c1, c2, c3, c4, c5, rfl⟩
  have h0 := hf 0 _ rfl
  have h1 := hf 1 _ rfl
  have h2 := hf 2 _ rfl
  obtain ⟨y0, y1, y2, rfl⟩ : ∃ y0 y1 y2, xs = [y0, y1, y2] := by
    match xs, hlen with
    | [y0, y1, y2], _ => exact ⟨y0, y1, y2, rfl⟩
  have k0 : Try.prog.cellsOf 31 = 2 := by kernel_rfl
  have k1 : Try.prog.cellsOf 9 = 1 := by kernel_rfl
  have k2 : Try.prog.cellsOf 33 = 3 := by kernel_rfl
  obtain ⟨a, b, e0, wa, wb⟩ := open_obj_cells h0
  obtain ⟨c, e1, _, wc⟩ := DataW.trod_string Try.underlying9 h1
  obtain ⟨p, e2, wp⟩ := open_sub_cells h2
  simp [k0] at e0
  simp [k1] at e1
  simp [k2, pC4] at e2
  obtain ⟨rfl, rfl⟩ := e0
  obtain ⟨rfl, rfl, rfl⟩ := e2
  subst e1
  exact ⟨⟨⟨a, b, c⟩, p⟩, rfl, ⟨wa, wb, wc⟩, wp⟩

set_option maxRecDepth 100000 in
theorem open_tupV (hok : Value.okWide Try.prog W .any base 35 v) (h : DataW.Trod enc Try.prog W 0 (fun _ => true) true 35 v d ps) : ∃ t : Tup, v = tV t ∧ t.Ok := by
  obtain ⟨ca, rfl, _⟩ := okWide_struct Try.underlying35 hok
  obtain ⟨fuel, hy⟩ := h
  obtain ⟨t, hc, ht⟩ := open_tup_cells hy
  exact ⟨t, congrArg Value.agg (Array.toList_inj.1 hc), ht⟩
end

end Go.Proofs.Ytipddhcfcehcaaa
