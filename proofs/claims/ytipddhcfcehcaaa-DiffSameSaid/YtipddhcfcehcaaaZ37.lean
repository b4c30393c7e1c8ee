/- The tape: Tuples. The walk of DiffSame. No condition: lemmas. -/
import Derived.Test.YtipddhcfcehcaaaZ36
import Derived.Test.YtipddhcfcehcaaaZ26
namespace Go.Proofs.Ytipddhcfcehcaaa
open Go Go.RowKit Go.Maps

theorem mkTuple_any (ts : List TyS) (tv : Value) (tp : Nat) (w : World) (htp : Tp w tp) (ht : TysAt (fun b => b < w.heap.size ∧ b ≠ tp) w ts tv) (hok : ∀ t ∈ ts, t.Ok) (hn : 1 ≤ ts.length ∧ ts.length ≤ 1000) (hr : ∀ t ∈ ts, 1 ≤ t.rels.length ∧ t.rels.length ≤ 1000) :
    Calls Try.prog 40 #[.pointer (some ⟨tp, 0, none⟩), .agg #[tv]] w fun e w' => ∃ t : Tup, e = .returned (tV t) ∧ t.Ok ∧ Tp w' tp ∧ KT tp w w' := by
  obtain ⟨b, off, c, rfl, hrow⟩ := ht.row hok hn.1 hr
  exact mkTuple_row ts.length b off c tp w htp hrow hn
theorem tup_eql (a b : Tup) (W : World) : (binOp BinOp.eql 35 (tV a) (tV b)).run Try.prog W = .ok (.bool (decide (a = b))) W := by
  obtain ⟨⟨a1, a2, a3⟩, ⟨a4, a5, a6⟩⟩ := a
  obtain ⟨⟨b1, b2, b3⟩, ⟨b4, b5, b6⟩⟩ := b
  unfold tV
  dsimp only
  go_simp
  simp only [ba_toList]
  by_cases h1 : a1 = b1
  · by_cases h2 : a2 = b2
    · by_cases h3 : a3 = b3
      · by_cases h4 : a4 = b4
        · by_cases h5 : a5 = b5
          · by_cases h6 : a6 = b6 <;> simp [h1, h2, h3, h4, h5, h6]
          · simp [h1, h2, h3, h4, h5]
        · simp [h1, h2, h3, h4]
      · simp [h1, h2, h3]
    · simp [h1, h2]
  · simp [h1]

set_option maxRecDepth 100000 in
set_option maxHeartbeats 1000000 in
theorem mkTuples_any (ts : List TyS) (tv : Value) (most tp : Nat) (w : World) (htp : Tp w tp) (ht : TysAt (fun b => b < w.heap.size ∧ b ≠ tp) w ts tv) (hok : ∀ t ∈ ts, t.Ok) (hu : uniqOk ts = true) (hn : 1 ≤ ts.length ∧ ts.length ≤ 1000) (hr : ∀ t ∈ ts, 1 ≤ t.rels.length ∧ t.rels.length ≤ 1000) (hm : most ≤ 1000) :
    Calls Try.prog 18 #[.pointer (some ⟨tp, 0, none⟩), .agg #[tv], .int .i64 most] w fun e w' => ∃ (v : Value) (l : List Tup), e = .returned v ∧ Sl (fun b => w.heap.size ≤ b ∧ b < w'.heap.size) w' 6 v (tuCs l) ∧ (∀ t ∈ l, t.Ok) ∧ l.length ≤ most ∧ Tp w' tp ∧ KT tp w w' := by
  obtain ⟨aot, ct, rfl, -, -, -⟩ := ht.rows
  have HTY := Lib.hid ht
  have HOK := Lib.hid hok
  have HU := Lib.hid hu
  have HN := Lib.hid hn
  have HR := Lib.hid hr
  have HM := Lib.hid hm
  have HLT := Lib.hid htp.lt
  obtain ⟨wa, hwa⟩ : ∃ x, x = w.alloc (.cells #[.slice aot ts.length ct] 24) := ⟨_, rfl⟩
  have xa : Ext w wa := by rw [hwa]; exact Ext.alloc _ _
  have HSB := Lib.hid (show Blk wa w.heap.size #[.slice aot ts.length ct] 24 from by rw [hwa]; exact Blk.made _ _ _)
  have HTA := Lib.hid (htp.ext xa)
  have HKA := Lib.hid (KT.of (tp := tp) xa)
  have HNX := Lib.hid (next_any tp ((most : Int) + 1) wa HTA.out (by omega) (by omega))
  have hm1 : wrap64 ((most : Int) + 1) = (most : Int) + 1 := wrap_in _ (by omega) (by omega)
  have hm2 : IntKind.i64.wrap ((most : Int) + 1) = (most : Int) + 1 := IntWalk.i64_in _ (by omega)
  clear ht hok hu hn hr hm htp xa
  subst hwa
  go_enter Try.func18, Try.ntmps18
  go_wp2_with fail
  refine HNX.out.mono ?_
  rintro e w1 ⟨k, rfl, hk, ht1, hk1⟩
  have HT1 := Lib.hid ht1
  have HK1 := Lib.hid (KT.trans HKA.out hk1)
  have HB1 := Lib.hid (hk1.blk HSB.out (by have := HLT.out; omega))
  have HKM := Lib.hid (show k ≤ most from by omega)
  clear ht1 hk1 hk hm1 hm2 HNX HTA HKA HSB
  go_wp2_with fail
  go_loopw [7, 8] (fun ov iv wr => ∃ (l : List Tup) (i : Nat), iv = .int .i64 i ∧ l.length + i ≤ most ∧ Own wr (w.heap.size + 1) 35 6 ov (tuCs l) ∧ (∀ t ∈ l, t.Ok) ∧ Blk wr w.heap.size #[.slice aot ts.length ct] 24 ∧ Tp wr tp ∧ KT tp w wr) (fun _ iv _ => (intOf iv).toNat)
  case atStart => exact ⟨[], k, rfl, by have := HKM.out; simp; omega, Own.nil _ _ _ _, by simp, HB1.out, HT1.out, HK1.out⟩
  case round =>
    obtain ⟨l, i, rfl, hli, how, hlo, hbs, htr, hkr⟩ := hrel
    clear HT1 HK1 HB1 HKM
    have HLI := Lib.hid hli
    have HOW := Lib.hid how
    have HLO := Lib.hid hlo
    have HB := Lib.hid hbs
    have HT := Lib.hid htr
    have HK := Lib.hid hkr
    have hsb := hbs.cells
    clear hli how hlo hbs htr hkr
    cases i with
    | zero =>
      have h0 : ¬ ((0 : Int) < ((0 : Nat) : Int)) := by omega
      go_wp2_with fail
      go_ret
      exact ⟨_, rfl, l, HOW.out.sl.mono fun b hb => ⟨by have := hb.1; omega, hb.2⟩, HLO.out, by have := HLI.out; omega, HT.out, HK.out⟩
    | succ i =>
      have h0 : (0 : Int) < ((i + 1 : Nat) : Int) := by omega
      have HTU := Lib.hid (mkTuple_any ts _ tp wr HT.out ((HTY.out.same (KT.same HK.out fun b hb => hb)).mono fun b hb => ⟨Nat.lt_of_lt_of_le hb.1 HK.out.size, hb.2⟩) HOK.out HN.out HR.out)
      go_wp2_with fail
      refine HTU.out.mono ?_
      rintro e w2 ⟨t, rfl, hto, ht2, hk2⟩
      obtain ⟨⟨t0, t1, t2⟩, ⟨t3, t4, t5⟩⟩ := t
      unfold tV
      dsimp only
      have x3 := Ext.alloc w2 (.cells #[.string t0, .string t1, .string t2, .string t3, .string t4, .string t5] 35)
      have HTB := Lib.hid (Blk.made w2 #[.string t0, .string t1, .string t2, .string t3, .string t4, .string t5] 35)
      have hk3 := KT.trans hk2 (KT.of x3)
      have HK3 := Lib.hid (KT.trans HK.out hk3)
      have HT3 := Lib.hid (ht2.ext x3)
      have HB3 := Lib.hid (hk3.blk HB.out (by have := HLT.out; omega))
      have HO3 := Lib.hid (Own.keepOwn HOW.out fun g hg => hk3.block g ⟨(HOW.out.block g hg).2, by have := (HOW.out.block g hg).1; have := HLT.out; omega⟩)
      have HZ3 := Lib.hid (show w.heap.size + 1 ≤ w2.heap.size from Nat.le_trans HB.out.lt hk2.size)
      have HTO := Lib.hid hto
      have HW := Lib.hid (writes06_any ts _ ⟨⟨t0, t1, t2⟩, ⟨t3, t4, t5⟩⟩ _ ((HTY.out.same (KT.same HK3.out fun b hb => hb)).mono fun b hb => Nat.lt_of_lt_of_le hb.1 HK3.out.size) HU.out hto)
      unfold tV at HW
      dsimp only at HW
      have tb3 := HTB.out.cells
      have sb3 := HB3.out.cells
      clear hto ht2 hk2 x3 hk3 HTU hsb HOW HB HT HK
      generalize (wrN ts ⟨⟨t0, t1, t2⟩, ⟨t3, t4, t5⟩⟩) = wn at *
      go_wp2_with fail
      refine HW.out.mono ?_
      rintro e w4 ⟨rfl, hb4⟩
      have HT4 := Lib.hid (HT3.out.ext hb4)
      have HK4 := Lib.hid (KT.trans HK3.out (KT.of hb4))
      have HB4 := Lib.hid (HB3.out.below hb4)
      have HO4 := Lib.hid (HO3.out.below hb4)
      have HTB4 := Lib.hid (HTB.out.below hb4)
      have HZ4 := Lib.hid (show w.heap.size + 1 ≤ w4.heap.size from by have := HZ3.out; have := HTB4.out.lt; omega)
      clear hb4 HW tb3 sb3 HT3 HK3 HB3 HO3 HTB
      obtain ⟨aoo, co, rfl, hoc, hom, hor⟩ := tups_rows HO4.out.sl
      have HOR := Lib.hid hor
      clear hor
      generalize w2.heap.size = tb at *
      go_wp2_with fail
      go_loopw [10, 30] (fun av jv wq => ∃ (j : Nat) (a : Bool), j ≤ l.length ∧ jv = .int .i64 j ∧ av = .bool a ∧ Ext w4 wq) (fun _ jv _ => l.length - (intOf jv).toNat)
      case atStart => exact ⟨0, _, by omega, rfl, rfl, Ext.refl _⟩
      case round =>
        obtain ⟨j, a, hj, rfl, rfl, hext⟩ := hrel
        have HE := Lib.hid hext
        by_cases hjt : j < l.length
        · obtain ⟨b, off, hbo, hb, k0, k1, k2, k3, k4, k5⟩ := HOR.out j hjt
          cases hbo
          have d0 := hext.cell (a := ⟨b, off + j * 6, none⟩) k0
          have d1 := hext.cell (a := ⟨b, off + j * 6 + 1, none⟩) k1
          have d2 := hext.cell (a := ⟨b, off + j * 6 + 2, none⟩) k2
          have d3 := hext.cell (a := ⟨b, off + j * 6 + 3, none⟩) k3
          have d4 := hext.cell (a := ⟨b, off + j * 6 + 4, none⟩) k4
          have d5 := hext.cell (a := ⟨b, off + j * 6 + 5, none⟩) k5
          generalize l[j] = y at *
          obtain ⟨⟨y0, y1, y2⟩, ⟨y3, y4, y5⟩⟩ := y
          dsimp only at d0 d1 d2 d3 d4 d5
          have x1 := Ext.alloc wr (.cells #[.string y0, .string y1, .string y2, .string y3, .string y4, .string y5] 35)
          have HE1 := Lib.hid (show Ext w4 _ from hext.trans x1)
          have yb1 := (Blk.made wr #[.string y0, .string y1, .string y2, .string y3, .string y4, .string y5] 35).cells
          have tb1 := (HTB4.out.below HE1.out).cells
          have heq := fun W => tup_eql ⟨⟨t0, t1, t2⟩, ⟨t3, t4, t5⟩⟩ ⟨⟨y0, y1, y2⟩, ⟨y3, y4, y5⟩⟩ W
          unfold tV at heq
          dsimp only at heq
          generalize decide ((⟨⟨t0, t1, t2⟩, ⟨t3, t4, t5⟩⟩ : Tup) = ⟨⟨y0, y1, y2⟩, ⟨y3, y4, y5⟩⟩) = eq at *
          clear k0 k1 k2 k3 k4 k5 hext x1
          cases a with
          | true =>
            go_wp2_with fail
            go_roundw
            case rel => exact ⟨j + 1, _, by omega, by go_num, rfl, HE1.out⟩
            case measure => simp [intOf]; omega
          | false =>
            go_wp2_with fail
            go_roundw
            case rel => exact ⟨j + 1, _, by omega, by go_num, rfl, HE1.out⟩
            case measure => simp [intOf]; omega
        · obtain rfl : j = l.length := by omega
          have HT5 := Lib.hid (HT4.out.ext hext)
          have HK5 := Lib.hid (KT.trans HK4.out (KT.of hext))
          have HB5 := Lib.hid (HB4.out.below hext)
          have HO5 := Lib.hid (HO4.out.below hext)
          have tb5 := (HTB4.out.below hext).cells
          have HZ5 := Lib.hid (show w.heap.size + 1 ≤ wr.heap.size from by have := HZ4.out; have := hext.size; omega)
          have hwi : wrap64 (i : Int) = (i : Int) := wrap_in _ (by omega) (by have := HLI.out; have := HM.out; omega)
          have hwi2 : IntKind.i64.wrap (i : Int) = (i : Int) := IntWalk.i64_in _ (by have := HLI.out; have := HM.out; omega)
          clear hext HE HT4 HK4 HB4 HO4
          cases a with
          | true =>
            go_wp2_with fail
            go_roundw
            case rel => exact ⟨l, i, by go_num, by have := HLI.out; omega, HO5.out, HLO.out, HB5.out, HT5.out, HK5.out⟩
            case measure => simp [intOf]
          | false =>
            go_wp2_with (at_builtin; go_must (refine wpList_own_lit tupT rfl (.tmp 43) (.tmp 45) rfl rfl HO5.out rfl rfl (by simp [Value.oneCell']) (by have := HLI.out; have := HM.out; rw [tuCs_length]; simp; omega) (by have := HLI.out; have := HM.out; rw [tuCs_length]; simp; omega) HZ5.out ?_; intro v6 w6 hown6 hb6 hgr6; have HO6 := Lib.hid (show Own w6 (w.heap.size + 1) 35 6 v6 (tuCs (l ++ [⟨⟨t0, t1, t2⟩, ⟨t3, t4, t5⟩⟩])) from by rw [tuCs_append]; exact hown6); have HG6 := Lib.hid hb6; clear hown6 hb6 hgr6))
            go_roundw
            case rel => exact ⟨l ++ [⟨⟨t0, t1, t2⟩, ⟨t3, t4, t5⟩⟩], i, by go_num, by have := HLI.out; simp; omega, HO6.out, fun x hx => by
              rcases List.mem_append.1 hx with hx | hx
              · exact HLO.out x hx
              · rw [List.mem_singleton.1 hx]; exact HTO.out, HB5.out.same (Same.below HG6.out) (by show w.heap.size < w.heap.size + 1; omega), HT5.out.kept (K := fun b => b < w.heap.size + 1) (Below.kept HG6.out fun b hb => hb) (fun b hb => by have := HLT.out; show b < w.heap.size + 1; omega), Kept.trans HK5.out (Below.kept HG6.out fun b (hb : b < w.heap.size ∧ b ≠ tp) => by have := hb.1; omega)⟩
            case measure => simp [intOf]

end Go.Proofs.Ytipddhcfcehcaaa
namespace Go.Proofs.Ytipddhcfcehcaaa
open Go Go.RowKit Go.Maps

theorem FineS.sok {ts : List TyS} (h : FineS ts) : SOk ts := SOk.bk (by have := h.bk; omega) h.ok
theorem turn_step {α : Type} {q : List α} {i : Nat} (hi : i < q.length) : (q.drop i).reverse = (q.drop (i + 1)).reverse ++ [q[i]] := by
  rw [List.drop_eq_getElem_cons hi, List.reverse_cons]
theorem safe_like {ts us : List TyS} (h : Like ts us) (l : List Tup) : (!(brkL us l).any fun t => decide (wrN ts t = 0)) = true := by
  rw [Bool.not_eq_true', List.any_eq_false]
  intro t ht
  have := (List.mem_filter.1 ht).2
  rw [wr_like h]
  simpa using this

set_option maxRecDepth 100000 in
set_option maxHeartbeats 1500000 in
theorem sameLaw_any (l l2 : List UInt8) (v v2 : Value) (w : World) (h : Sl (· < w.heap.size) w 1 v (bc l)) (h2 : Sl (· < w.heap.size) w 1 v2 (bc l2)) : Calls Try.prog 4 #[v, v2] w fun e w' => e = .returned (.bool true) ∧ Below w.heap.size w w' := by
  have HF := Lib.hid (fixed07_any w)
  have HSL := Lib.hid h
  have HSL2 := Lib.hid h2
  obtain ⟨ao, ln, c, rfl, hln, -, hcm⟩ := h.len
  rw [bc_length, Nat.mul_one] at hln
  subst hln
  obtain ⟨ao2, ln2, c2, rfl, hln2, -, hcm2⟩ := h2.len
  rw [bc_length, Nat.mul_one] at hln2
  subst hln2
  clear h h2
  go_enter Try.func4, Try.ntmps4
  go_wp2_with fail
  refine HF.out.mono ?_
  rintro e w1 ⟨rfl, hb1⟩
  have HB1 := Lib.hid (show Below w.heap.size w w1 from hb1)
  clear hb1 HF
  by_cases hlen : (300 : Int) < (l.length : Int)
  · go_wp2_with fail
    go_ret
    exact ⟨rfl, HB1.out⟩
  by_cases hlen2 : (300 : Int) < (l2.length : Int)
  · go_wp2_with fail
    go_ret
    exact ⟨rfl, HB1.out⟩
  have hx12 := Ext.alloc w1 (.cells #[.slice ao l.length c, .int .i64 0] 46)
  have HT2 := Lib.hid (show Tp (w1.alloc (.cells #[.slice ao l.length c, .int .i64 0] 46)) w1.heap.size from ⟨_, l, 0, Nat.zero_le _, (HSL.out.same (Same.below (HB1.out.trans (hx12.mono HB1.out.size)))).mono fun b (hb : b < w.heap.size) => Nat.lt_of_lt_of_le hb HB1.out.size, Blk.made _ _ _⟩)
  have HMK := Lib.hid (mkSchema_any _ _ HT2.out)
  have HB2 := Lib.hid (show Below w.heap.size w _ from HB1.out.trans (hx12.mono HB1.out.size))
  clear hx12
  go_wp2_with fail
  refine HMK.out.mono ?_
  rintro e w3 ⟨ts, tv, rfl, hgs, hty, htp, hkt⟩
  have HFS := Lib.hid (GoodS.fine hgs)
  have HB3 := Lib.hid (show Below w.heap.size w w3 from HB2.out.trans (hkt.below fun b hb => ⟨Nat.lt_of_lt_of_le hb HB2.out.size, by have := HB1.out.size; omega⟩))
  have hty3 := hty.mono (S' := (· < w3.heap.size)) fun b hb => hb.2
  obtain ⟨q, hq1, hq2, hq3⟩ := hty3
  obtain ⟨aot, ct, rfl, htc, htcm, htr⟩ := Sl.rows tyC_length (by decide) hq3
  have hql : q.length = ts.length := by rw [← hq1, List.length_map]
  obtain ⟨w4, hw4⟩ : ∃ x, x = w3.alloc (.cells #[.slice aot q.length ct] 24) := ⟨_, rfl⟩
  obtain ⟨w5, hw5⟩ : ∃ x, x = w4.alloc (.cells #[.slice none 0 0] 24) := ⟨_, rfl⟩
  have e4 : w4.heap.size = w3.heap.size + 1 := by rw [hw4]; simp
  have e5 : w5.heap.size = w3.heap.size + 1 + 1 := by rw [hw5]; simp [e4]
  have x34 : Ext w3 w4 := by rw [hw4]; exact Ext.alloc _ _
  have x45 : Ext w4 w5 := by rw [hw5]; exact Ext.alloc _ _
  have HS5 := Lib.hid (show Blk w5 w3.heap.size #[.slice aot q.length ct] 24 from Blk.below (by rw [hw4]; exact Blk.made _ _ _) x45)
  have HU5 := Lib.hid (show Blk w5 (w3.heap.size + 1) #[.slice none 0 0] 24 from by rw [hw5, ← e4]; exact Blk.made _ _ _)
  have x35 : Ext w3 w5 := x34.trans x45
  have HTY5 := Lib.hid (show TysAt (· < w3.heap.size) w5 ts (.slice aot q.length ct) from TysAt.same ⟨q, hq1, hq2, hq3⟩ (Same.below x35))
  have HP5 := Lib.hid (show ∀ x ∈ q, RelsAt (· < w3.heap.size) w5 x.1.rels x.2 from fun x hx => (hq2 x hx).same (Same.below x35))
  have HROW := Lib.hid (show ∀ i (hi : i < q.length), ∃ b off, aot = some ⟨b, off, none⟩ ∧ b < w3.heap.size ∧ w5.cell? ⟨b, off + i * 2, none⟩ = some (.string q[i].1.name) ∧ w5.cell? ⟨b, off + i * 2 + 1, none⟩ = some q[i].2 from fun i hi => by
    obtain ⟨b, off, e, hb, hc⟩ := htr (by omega)
    exact ⟨b, off, e, hb, x35.cell (a := ⟨b, off + i * 2, none⟩) (hc i hi 0 _ rfl), x35.cell (a := ⟨b, off + i * 2 + 1, none⟩) (hc i hi 1 _ rfl)⟩)
  have HB5 := Lib.hid (show Below w.heap.size w w5 from HB3.out.trans (x35.mono HB3.out.size))
  have HQ := Lib.hid (And.intro hql hq1)
  have HQ3 := Lib.hid (show q.length ≤ 3 from by have := HFS.out.two; omega)
  have HL2 := Lib.hid (show w.heap.size ≤ w3.heap.size from HB3.out.size)
  have hqw1 : wrap64 ((q.length : Int) - 1) = (q.length : Int) - 1 := wrap_in _ (by omega) (by have := HQ3.out; omega)
  have hqw2 : IntKind.i64.wrap ((q.length : Int) - 1) = (q.length : Int) - 1 := IntWalk.i64_in _ (by have := HQ3.out; omega)
  clear hgs hty htp hkt HMK HT2 HB2 HB1 HSL hlen hlen2 HB3 x34 x45 x35 hq1 hq2 hq3 htr hql
  subst hw5 hw4
  go_wp2_with fail
  obtain ⟨w5, hw5⟩ : ∃ x, x = (w3.alloc (.cells #[.slice aot q.length ct] 24)).alloc (.cells #[.slice none 0 0] 24) := ⟨_, rfl⟩
  rw [← hw5] at HS5 HU5 HTY5 HP5 HROW HB5 e5 ⊢
  clear hw5 e4
  generalize w3.heap.size = b5 at *
  have HE5 := Lib.hid e5
  clear hqw1 hqw2 htc e5
  go_loopw [7] (fun iv wr => ∃ (i : Nat) (ov : Value), i ≤ q.length ∧ iv = .int .i64 ((i : Int) - 1) ∧ Own wr (b5 + 1 + 1) 49 2 ov ((q.drop i).reverse.flatMap tyC) ∧ Blk wr (b5 + 1) #[ov] 24 ∧ Below (b5 + 1) w5 wr) (fun iv _ => (intOf iv + 1).toNat)
  case atStart => exact ⟨q.length, .slice none 0 0, Nat.le_refl _, rfl, by rw [List.drop_length]; exact Own.nil _ _ _ _, HU5.out, Below.refl _ _⟩
  case round =>
    obtain ⟨i, ov, hi, rfl, how, hbu, hbe⟩ := hrel
    have HO := Lib.hid how
    have HU := Lib.hid hbu
    have HE := Lib.hid hbe
    have HZ := Lib.hid (show b5 + 1 + 1 ≤ wr.heap.size from hbu.lt)
    clear HU5
    cases i with
    | zero =>
      obtain ⟨aov, kv, cv, rfl, -, -, -⟩ := how.sl.len
      clear how hbu hbe
      have HTU := Lib.hid (show TysAt (· < wr.heap.size) wr ts.reverse (.slice aov kv cv) from ⟨q.reverse, by rw [List.map_reverse, HQ.out.2], fun x hx => ((HP5.out x (List.mem_reverse.1 hx)).same fun b (hb : b < b5) => HE.out.block b (by omega)).mono fun b (hb : b < b5) => by have := HZ.out; show b < wr.heap.size; omega, by have := HO.out.sl; rw [List.drop_zero] at this; exact this.mono fun b hb => hb.2⟩)
      have HTY := Lib.hid (show TysAt (· < wr.heap.size) wr ts (.slice aot q.length ct) from (HTY5.out.same fun b (hb : b < b5) => HE.out.block b (by omega)).mono fun b (hb : b < b5) => by have := HZ.out; show b < wr.heap.size; omega)
      have HS := Lib.hid (show Blk wr b5 #[.slice aot q.length ct] 24 from (HE.out.block b5 (Nat.lt_succ_self _)).trans HS5.out)
      have HX := Lib.hid (show Below w.heap.size w wr from HB5.out.trans (HE.out.mono (by have := HL2.out; omega)))
      have HFU := Lib.hid (HFS.out.perm (List.reverse_perm ts))
      have HL1 := Lib.hid (Like.of_mem HFS.out.chk HFS.out.chk (fun _ => Iff.rfl))
      have HL3 := Lib.hid (Like.of_mem HFS.out.chk HFU.out.chk (fun t => (List.mem_reverse (x := t)).symm))
      have HZW := Lib.hid (show w.heap.size < wr.heap.size from by have := HZ.out; have := HL2.out; omega)
      have HD1 := Lib.hid (diff_ok ts ts _ _ wr HTY.out HTY.out HFS.out.sok HFS.out.sok HFS.out.chk HFS.out.chk)
      have s1 := HS.out.cells
      clear HO HE HZ HP5 HTY5 HROW HS5 HB5 HQ HE5
      generalize b5 + 1 = b6 at *
      generalize q.length = n at *
      go_wp2_with fail
      refine HD1.out.mono ?_
      rintro e w6 ⟨v6, cs6, rfl, -, hp6, ho6, hb6⟩
      have hc6 : cs6 = [] := by rw [diff_like HL1.out HFS.out.chk] at hp6; exact hp6.eq_nil
      subst hc6
      obtain ⟨ao6, n6, c6, rfl, hn6, -, -⟩ := ho6.sl.len
      have hn6 : n6 = 0 := by simp [chcs] at hn6; omega
      subst hn6
      have HX6 := Lib.hid (show Below w.heap.size w w6 from HX.out.trans (Below.mono hb6 HX.out.size))
      have HS6 := Lib.hid (HS.out.below hb6)
      have HU6 := Lib.hid (HU.out.below hb6)
      have HTY6 := Lib.hid (HTY.out.up hb6)
      have HTU6 := Lib.hid (HTU.out.up hb6)
      have HD2 := Lib.hid (diff_ok ts ts.reverse _ _ w6 HTY6.out HTU6.out HFS.out.sok HFU.out.sok HFS.out.chk HFU.out.chk)
      have s6 := HS6.out.cells
      have u6 := HU6.out.cells
      clear hp6 ho6 hb6 HX HS HU HTY HTU HD1 s1
      go_wp2_with fail
      refine HD2.out.mono ?_
      rintro e w7 ⟨v7, cs7, rfl, -, hp7, ho7, hb7⟩
      have hc7 : cs7 = [] := by rw [diff_like HL3.out HFS.out.chk] at hp7; exact hp7.eq_nil
      subst hc7
      obtain ⟨ao7, n7, c7, rfl, hn7, -, -⟩ := ho7.sl.len
      have hn7 : n7 = 0 := by simp [chcs] at hn7; omega
      subst hn7
      have HX7 := Lib.hid (show Below w.heap.size w w7 from HX6.out.trans (Below.mono hb7 HX6.out.size))
      have HS7 := Lib.hid (HS6.out.below hb7)
      have HU7 := Lib.hid (HU6.out.below hb7)
      have HTY7 := Lib.hid (HTY6.out.up hb7)
      have HTU7 := Lib.hid (HTU6.out.up hb7)
      clear hp7 ho7 hb7 HX6 HS6 HU6 HTY6 HTU6 HD2 s6 u6
      go_wp2_with fail
      obtain ⟨wd, hwd⟩ : ∃ wd, wd = w7.drew := ⟨_, rfl⟩
      have HXd := Lib.hid (show Below w.heap.size w wd from by rw [hwd]; exact HX7.out.trans (Below.mono (Ext.drew w7) HX7.out.size))
      have HSd := Lib.hid (show Blk wd b5 #[.slice aot n ct] 24 from by rw [hwd]; exact HS7.out)
      have HUd := Lib.hid (show Blk wd b6 #[.slice aov kv cv] 24 from by rw [hwd]; exact HU7.out)
      have HTYd := Lib.hid (show TysAt (· < wd.heap.size) wd ts (.slice aot n ct) from by rw [hwd]; exact HTY7.out.up (Ext.drew w7))
      have HTUd := Lib.hid (show TysAt (· < wd.heap.size) wd ts.reverse (.slice aov kv cv) from by rw [hwd]; exact HTU7.out.up (Ext.drew w7))
      refine region_walkN (Ext wd) (by rw [← hwd]; exact Ext.refl _) (by kernel_rfl) (by kernel_rfl) (fun _ _ d _ _ h => by cases d <;> exact h) ?_
      rw [← hwd]
      clear hwd HX7 HS7 HU7 HTY7 HTU7
      have g5 : ∀ W, Ext wd W → W.cell? ⟨b5, 0, none⟩ = some (.slice aot n ct) := fun W h => h.cell (a := ⟨b5, 0, none⟩) (HSd.out.cells 0)
      have g6 : ∀ W, Ext wd W → W.cell? ⟨b6, 0, none⟩ = some (.slice aov kv cv) := fun W h => h.cell (a := ⟨b6, 0, none⟩) (HUd.out.cells 0)
      ((refine WalkN.take 0 _ ?_ (by simp only [List.getElem?_toArray, List.getElem?_cons_zero]; rfl) (by kernel_rfl) (by kernel_rfl) (by rfl) (fun W hW => ?_) ?_; rotate_left; · (go_simp; try with_reducible rfl)); simp only [Act.put, List.setIfInBounds_toArray, List.set_cons_zero, List.set_cons_succ]); ((refine WalkN.take 1 _ ?_ (by simp only [List.getElem?_toArray, List.getElem?_cons_succ, List.getElem?_cons_zero]; rfl) (by kernel_rfl) (by kernel_rfl) (by rfl) (fun W hW => ?_) ?_; rotate_left; · (go_simp; try with_reducible rfl)); simp only [Act.put, List.setIfInBounds_toArray, List.set_cons_zero, List.set_cons_succ]); ((refine WalkN.take 2 _ ?_ (by simp only [List.getElem?_toArray, List.getElem?_cons_succ, List.getElem?_cons_zero]; rfl) (by kernel_rfl) (by kernel_rfl) (by rfl) (fun W hW => ?_) ?_; rotate_left; · (go_simp; try with_reducible rfl)); simp only [Act.put, List.setIfInBounds_toArray, List.set_cons_zero, List.set_cons_succ]); ((refine WalkN.take 3 _ ?_ (by simp only [List.getElem?_toArray, List.getElem?_cons_succ, List.getElem?_cons_zero]; rfl) (by kernel_rfl) (by kernel_rfl) (by rfl) (fun W hW => ?_) ?_; rotate_left; · (go_simp; try with_reducible rfl)); simp only [Act.put, List.setIfInBounds_toArray, List.set_cons_zero, List.set_cons_succ]); ((refine WalkN.take 4 _ ?_ (by simp only [List.getElem?_toArray, List.getElem?_cons_succ, List.getElem?_cons_zero]; rfl) (by kernel_rfl) (by kernel_rfl) (by rfl) (fun W hW => ?_) ?_; rotate_left; · (go_simp; try with_reducible rfl)); simp only [Act.put, List.setIfInBounds_toArray, List.set_cons_zero, List.set_cons_succ]); ((refine WalkN.take 5 _ ?_ (by simp only [List.getElem?_toArray, List.getElem?_cons_succ, List.getElem?_cons_zero]; rfl) (by kernel_rfl) (by kernel_rfl) (by rfl) (fun W hW => ?_) ?_; rotate_left; · (go_simp; try with_reducible rfl)); simp only [Act.put, List.setIfInBounds_toArray, List.set_cons_zero, List.set_cons_succ]); ((refine WalkN.take 6 _ ?_ (by simp only [List.getElem?_toArray, List.getElem?_cons_succ, List.getElem?_cons_zero]; rfl) (by kernel_rfl) (by kernel_rfl) (by rfl) (fun W hW => ?_) ?_; rotate_left; · (go_simp; try with_reducible rfl)); simp only [Act.put, List.setIfInBounds_toArray, List.set_cons_zero, List.set_cons_succ]); ((refine WalkN.take 7 _ ?_ (by simp only [List.getElem?_toArray, List.getElem?_cons_succ, List.getElem?_cons_zero]; rfl) (by kernel_rfl) (by kernel_rfl) (by rfl) (fun W hW => ?_) ?_; rotate_left; · (go_simp; try with_reducible rfl)); simp only [Act.put, List.setIfInBounds_toArray, List.set_cons_zero, List.set_cons_succ]); ((refine WalkN.take 8 _ ?_ (by simp only [List.getElem?_toArray, List.getElem?_cons_succ, List.getElem?_cons_zero]; rfl) (by kernel_rfl) (by kernel_rfl) (by rfl) (fun W hW => ?_) ?_; rotate_left; · (go_simp; try with_reducible rfl)); simp only [Act.put, List.setIfInBounds_toArray, List.set_cons_zero, List.set_cons_succ]); ((refine WalkN.take 9 _ ?_ (by simp only [List.getElem?_toArray, List.getElem?_cons_succ, List.getElem?_cons_zero]; rfl) (by kernel_rfl) (by kernel_rfl) (by rfl) (fun W hW => ?_) ?_; rotate_left; · (go_simp; try with_reducible rfl)); simp only [Act.put, List.setIfInBounds_toArray, List.set_cons_zero, List.set_cons_succ]); ((refine WalkN.take 10 _ ?_ (by simp only [List.getElem?_toArray, List.getElem?_cons_succ, List.getElem?_cons_zero]; rfl) (by kernel_rfl) (by kernel_rfl) (by rfl) (fun W hW => ?_) ?_; rotate_left; · (go_simp; try with_reducible rfl)); simp only [Act.put, List.setIfInBounds_toArray, List.set_cons_zero, List.set_cons_succ]); ((refine WalkN.take 11 _ ?_ (by simp only [List.getElem?_toArray, List.getElem?_cons_succ, List.getElem?_cons_zero]; rfl) (by kernel_rfl) (by kernel_rfl) (by rfl) (fun W hW => ?_) ?_; rotate_left; · (go_simp; try with_reducible rfl)); simp only [Act.put, List.setIfInBounds_toArray, List.set_cons_zero, List.set_cons_succ]); ((refine WalkN.take 12 _ ?_ (by simp only [List.getElem?_toArray, List.getElem?_cons_succ, List.getElem?_cons_zero]; rfl) (by kernel_rfl) (by kernel_rfl) (by rfl) (fun W hW => ?_) ?_; rotate_left; · (go_simp; try with_reducible rfl)); simp only [Act.put, List.setIfInBounds_toArray, List.set_cons_zero, List.set_cons_succ]); ((refine WalkN.take 13 _ ?_ (by simp only [List.getElem?_toArray, List.getElem?_cons_succ, List.getElem?_cons_zero]; rfl) (by kernel_rfl) (by kernel_rfl) (by rfl) (fun W hW => ?_) ?_; rotate_left; · (go_simp; try with_reducible rfl)); simp only [Act.put, List.setIfInBounds_toArray, List.set_cons_zero, List.set_cons_succ]); ((refine WalkN.take 14 _ ?_ (by simp only [List.getElem?_toArray, List.getElem?_cons_succ, List.getElem?_cons_zero]; rfl) (by kernel_rfl) (by kernel_rfl) (by rfl) (fun W hW => ?_) ?_; rotate_left; · (go_simp; try with_reducible rfl)); simp only [Act.put, List.setIfInBounds_toArray, List.set_cons_zero, List.set_cons_succ]); ((refine WalkN.take 15 _ ?_ (by simp only [List.getElem?_toArray, List.getElem?_cons_succ, List.getElem?_cons_zero]; rfl) (by kernel_rfl) (by kernel_rfl) (by rfl) (fun W hW => ?_) ?_; rotate_left; · (go_simp; try with_reducible rfl)); simp only [Act.put, List.setIfInBounds_toArray, List.set_cons_zero, List.set_cons_succ]); ((refine WalkN.take 16 _ ?_ (by simp only [List.getElem?_toArray, List.getElem?_cons_succ, List.getElem?_cons_zero]; rfl) (by kernel_rfl) (by kernel_rfl) (by rfl) (fun W hW => ?_) ?_; rotate_left; · (go_simp; try with_reducible rfl)); simp only [Act.put, List.setIfInBounds_toArray, List.set_cons_zero, List.set_cons_succ]); ((refine WalkN.take 17 _ ?_ (by simp only [List.getElem?_toArray, List.getElem?_cons_succ, List.getElem?_cons_zero]; rfl) (by kernel_rfl) (by kernel_rfl) (by rfl) (fun W hW => ?_) ?_; rotate_left; · (go_simp; try with_reducible rfl)); simp only [Act.put, List.setIfInBounds_toArray, List.set_cons_zero, List.set_cons_succ]); ((refine WalkN.take 18 _ ?_ (by simp only [List.getElem?_toArray, List.getElem?_cons_succ, List.getElem?_cons_zero]; rfl) (by kernel_rfl) (by kernel_rfl) (by rfl) (fun W hW => ?_) ?_; rotate_left; · (go_simp; try with_reducible rfl)); simp only [Act.put, List.setIfInBounds_toArray, List.set_cons_zero, List.set_cons_succ]); ((refine WalkN.take 19 _ ?_ (by simp only [List.getElem?_toArray, List.getElem?_cons_succ, List.getElem?_cons_zero]; rfl) (by kernel_rfl) (by kernel_rfl) (by rfl) (fun W hW => ?_) ?_; rotate_left; · (go_simp; try with_reducible rfl)); simp only [Act.put, List.setIfInBounds_toArray, List.set_cons_zero, List.set_cons_succ]); ((refine WalkN.take 20 _ ?_ (by simp only [List.getElem?_toArray, List.getElem?_cons_succ, List.getElem?_cons_zero]; rfl) (by kernel_rfl) (by kernel_rfl) (by rfl) (fun W hW => ?_) ?_; rotate_left; · (go_simp; try with_reducible rfl)); simp only [Act.put, List.setIfInBounds_toArray, List.set_cons_zero, List.set_cons_succ]); ((refine WalkN.take 22 _ ?_ (by simp only [List.getElem?_toArray, List.getElem?_cons_succ, List.getElem?_cons_zero]; rfl) (by kernel_rfl) (by kernel_rfl) (by rfl) (fun W hW => ?_) ?_; rotate_left; · (go_simp; try with_reducible rfl)); simp only [Act.put, List.setIfInBounds_toArray, List.set_cons_zero, List.set_cons_succ])
      clear g5 g6
      refine WalkN.one 21 (by kernel_rfl) ?_
      refine ⟨_, (by simp only [List.getElem?_toArray, List.getElem?_cons_succ, List.getElem?_cons_zero]; rfl), by rfl, fun K hK => ?_⟩
      go_simp
      have x8 := Ext.alloc wd (.cells #[.slice ao2 l2.length c2, .int .i64 0] 46)
      refine hK.out _ _ x8 ?_
      clear hK
      have HT8 := Lib.hid (show Tp (wd.alloc (.cells #[.slice ao2 l2.length c2, .int .i64 0] 46)) wd.heap.size from ⟨_, l2, 0, Nat.zero_le _, (HSL2.out.same (Same.below (HXd.out.trans (Below.mono x8 HXd.out.size)))).mono fun b (hb : b < w.heap.size) => Nat.lt_of_lt_of_le hb HXd.out.size, Blk.made _ _ _⟩)
      have HTY8 := Lib.hid (show TysAt (fun b => b < (wd.alloc (.cells #[.slice ao2 l2.length c2, .int .i64 0] 46)).heap.size ∧ b ≠ wd.heap.size) _ ts (.slice aot n ct) from (HTYd.out.same (Same.below x8)).mono fun b (hb : b < wd.heap.size) => ⟨Nat.lt_of_lt_of_le hb x8.size, by omega⟩)
      have X8 := Lib.hid x8
      clear x8
      generalize wd.alloc (.cells #[.slice ao2 l2.length c2, .int .i64 0] 46) = w8 at *
      refine WalkN.one 23 (by kernel_rfl) ?_
      refine ⟨_, (by simp only [List.getElem?_toArray, List.getElem?_cons_succ, List.getElem?_cons_zero]; rfl), by rfl, fun K hK => ?_⟩
      go_simp
      refine (mkTuples_any ts _ 9 wd.heap.size w8 HT8.out HTY8.out HFS.out.ok (chk_uq HFS.out.chk) (by have := HFS.out.two; omega) (fun t ht => by have := HFS.out.rels t ht; omega) (by decide)).mono ?_
      rintro e w9 ⟨v9, l9, rfl, hl9, hlo9, hln9, -, hkt9⟩
      have x9 : Ext wd w9 := Below.trans X8.out (Kept.below hkt9 fun b hb => ⟨Nat.lt_of_lt_of_le hb X8.out.size, by omega⟩)
      refine hK.out _ _ x9 ?_
      clear hK
      have HTY9 := Lib.hid (HTYd.out.up x9)
      have HTU9 := Lib.hid (HTUd.out.up x9)
      have X9 := Lib.hid x9
      have HL9 := Lib.hid (hl9.mono (T := (· < w9.heap.size)) fun b hb => hb.2)
      have HLO9 := Lib.hid hlo9
      have HLN9 := Lib.hid hln9
      clear x9 hkt9 hl9 hlo9 hln9 X8 HT8 HTY8
      refine WalkN.one 24 (by kernel_rfl) ?_
      refine ⟨_, (by simp only [List.getElem?_toArray, List.getElem?_cons_succ, List.getElem?_cons_zero]; rfl), by rfl, fun K hK => ?_⟩
      go_simp
      refine (safe_any ts ts.reverse _ _ l9 _ w9 HTY9.out HTU9.out HFS.out.sok HFU.out.sok (chk_uq HFS.out.chk) (chk_uq HFU.out.chk) HL9.out HLO9.out (by have := HLN9.out; omega)).mono ?_
      rintro e w10 ⟨rfl, hb10⟩
      rw [safe_like HL3.out]
      have x10 : Ext wd w10 := Below.trans X9.out (Below.mono hb10 X9.out.size)
      refine hK.out _ _ x10 ?_
      clear hK hb10
      ((refine WalkN.take 25 _ ?_ (by simp only [List.getElem?_toArray, List.getElem?_cons_succ, List.getElem?_cons_zero]; rfl) (by kernel_rfl) (by kernel_rfl) (by rfl) (fun W hW => ?_) ?_; rotate_left; · (go_simp; try with_reducible rfl)); simp only [Act.put, List.setIfInBounds_toArray, List.set_cons_zero, List.set_cons_succ]); ((refine WalkN.take 26 _ ?_ (by simp only [List.getElem?_toArray, List.getElem?_cons_succ, List.getElem?_cons_zero]; rfl) (by kernel_rfl) (by kernel_rfl) (by rfl) (fun W hW => ?_) ?_; rotate_left; · (go_simp; try with_reducible rfl)); simp only [Act.put, List.setIfInBounds_toArray, List.set_cons_zero, List.set_cons_succ])
      refine WalkN.done (by kernel_rfl) ?_
      have HX10 := Lib.hid (show Below w.heap.size w w10 from HXd.out.trans (Below.mono x10 HXd.out.size))
      clear x10
      go_wp2_with fail
      go_ret
      exact ⟨rfl, HX10.out⟩
    | succ i =>
      have hiq : i < q.length := by omega
      rw [show ((i + 1 : Nat) : Int) - 1 = (i : Int) from by omega]
      have hge : (0 : Int) ≤ (i : Int) := by omega
      have hlt : (i : Int) < (q.length : Int) := by omega
      obtain ⟨bb, off, haot, hbb, k0, k1⟩ := HROW.out i hiq
      cases haot
      have HTS := Lib.hid (turn_step hiq)
      have HLN := Lib.hid (show (q.drop (i + 1)).reverse.length ≤ 3 from by have := HQ3.out; rw [List.length_reverse, List.length_drop]; omega)
      generalize (q.drop (i + 1)).reverse = qs at *
      have HQI := Lib.hid (show tyC q[i] = [.string q[i].1.name, q[i].2] from rfl)
      obtain ⟨aor, nr, cr, hqv⟩ : ∃ aor nr cr, q[i].2 = Value.slice aor nr cr := by
        obtain ⟨aor, cr, e, -⟩ := (HP5.out q[i] (List.getElem_mem hiq)).rows
        exact ⟨aor, _, cr, e⟩
      generalize q[i] = qi at *
      obtain ⟨⟨qn, qr⟩, qv⟩ := qi
      dsimp only at k0 k1 HQI hqv
      subst hqv
      obtain ⟨aov, kv, cv, rfl, -, -, -⟩ := how.sl.len
      have HPO := Lib.hid (fun g (e : Value.ownBlock (.slice aov kv cv) = some g) => how.block g e)
      clear how hbe hbu
      go_wp2_with fail
      obtain ⟨wd, hwd⟩ : ∃ wd, wd = wr.drew := ⟨_, rfl⟩
      have HOd := Lib.hid (show Own wd (b5 + 1 + 1) 49 2 (.slice aov kv cv) (qs.flatMap tyC) from by rw [hwd]; exact HO.out.below (Ext.drew _))
      have HUd := Lib.hid (show Blk wd (b5 + 1) #[.slice aov kv cv] 24 from by rw [hwd]; exact HU.out)
      have HEd := Lib.hid (show Below (b5 + 1) w5 wd from by rw [hwd]; exact HE.out.trans (Below.mono (Ext.drew wr) (by have := HZ.out; omega)))
      have HZd := Lib.hid (show b5 + 1 + 1 ≤ wd.heap.size from HUd.out.lt)
      have HPd := Lib.hid (show ∀ g, Value.ownBlock (.slice aov kv cv) = some g → b5 + 1 + 1 ≤ g ∧ g < wd.heap.size from HOd.out.block)
      refine region_walkL 10 (Kept (fun b => b < wd.heap.size ∧ Value.ownBlock (.slice aov kv cv) ≠ some b) wd) (by rw [← hwd]; exact Kept.refl _ _) (by kernel_rfl) (by kernel_rfl) (fun _ _ d _ _ h => by cases d <;> exact h) ?_
      rw [← hwd]
      have h6 : ∀ W, Kept (fun b => b < wd.heap.size ∧ Value.ownBlock (.slice aov kv cv) ≠ some b) wd W → W.cell? ⟨b5 + 1, 0, none⟩ = some (.slice aov kv cv) := fun W h => h.cell (a := ⟨b5 + 1, 0, none⟩) ⟨by have := HZd.out; show b5 + 1 < _; omega, fun e => by have := (HPd.out _ e).1; dsimp only at this; omega⟩ (HUd.out.cells 0)
      have h5 : ∀ W, Kept (fun b => b < wd.heap.size ∧ Value.ownBlock (.slice aov kv cv) ≠ some b) wd W → W.cell? ⟨b5, 0, none⟩ = some (.slice (some ⟨bb, off, none⟩) q.length ct) := fun W h => h.cell (a := ⟨b5, 0, none⟩) ⟨by have := HZd.out; show b5 < _; omega, fun e => by have := (HPd.out _ e).1; dsimp only at this; omega⟩ (Blk.cells ((HEd.out.block b5 (Nat.lt_succ_self _)).trans HS5.out) 0)
      have h0 : ∀ W, Kept (fun b => b < wd.heap.size ∧ Value.ownBlock (.slice aov kv cv) ≠ some b) wd W → W.cell? ⟨bb, off + i * 2, none⟩ = some (.string qn) := fun W h => h.cell (a := ⟨bb, off + i * 2, none⟩) ⟨by have := HZd.out; show bb < _; omega, fun e => by have := (HPd.out _ e).1; dsimp only at this; omega⟩ ((World.cell?_of_block (HEd.out.block bb (by omega))).trans k0)
      have h1 : ∀ W, Kept (fun b => b < wd.heap.size ∧ Value.ownBlock (.slice aov kv cv) ≠ some b) wd W → W.cell? ⟨bb, off + i * 2 + 1, none⟩ = some (.slice aor nr cr) := fun W h => h.cell (a := ⟨bb, off + i * 2 + 1, none⟩) ⟨by have := HZd.out; show bb < _; omega, fun e => by have := (HPd.out _ e).1; dsimp only at this; omega⟩ ((World.cell?_of_block (HEd.out.block bb (by omega))).trans k1)
      clear hwd HO HU HE HZ HPO k0 k1
      ((refine WalkL.take 0 _ ?_ (by simp only [List.getElem?_toArray, List.getElem?_cons_zero]; rfl) (by kernel_rfl) (by kernel_rfl) (by kernel_rfl) (by rfl) (fun W hW => ?_) ?_; rotate_left; · (go_simp; try with_reducible rfl)); simp only [Act.put, List.setIfInBounds_toArray, List.set_cons_zero, List.set_cons_succ]); ((refine WalkL.take 1 _ ?_ (by simp only [List.getElem?_toArray, List.getElem?_cons_succ, List.getElem?_cons_zero]; rfl) (by kernel_rfl) (by kernel_rfl) (by kernel_rfl) (by rfl) (fun W hW => ?_) ?_; rotate_left; · (go_simp; try with_reducible rfl)); simp only [Act.put, List.setIfInBounds_toArray, List.set_cons_zero, List.set_cons_succ]); ((refine WalkL.take 2 _ ?_ (by simp only [List.getElem?_toArray, List.getElem?_cons_succ, List.getElem?_cons_zero]; rfl) (by kernel_rfl) (by kernel_rfl) (by kernel_rfl) (by rfl) (fun W hW => ?_) ?_; rotate_left; · (go_simp; try with_reducible rfl)); simp only [Act.put, List.setIfInBounds_toArray, List.set_cons_zero, List.set_cons_succ]); ((refine WalkL.take 3 _ ?_ (by simp only [List.getElem?_toArray, List.getElem?_cons_succ, List.getElem?_cons_zero]; rfl) (by kernel_rfl) (by kernel_rfl) (by kernel_rfl) (by rfl) (fun W hW => ?_) ?_; rotate_left; · (go_simp; try with_reducible rfl)); simp only [Act.put, List.setIfInBounds_toArray, List.set_cons_zero, List.set_cons_succ]); ((refine WalkL.take 4 _ ?_ (by simp only [List.getElem?_toArray, List.getElem?_cons_succ, List.getElem?_cons_zero]; rfl) (by kernel_rfl) (by kernel_rfl) (by kernel_rfl) (by rfl) (fun W hW => ?_) ?_; rotate_left; · (go_simp; try with_reducible rfl)); simp only [Act.put, List.setIfInBounds_toArray, List.set_cons_zero, List.set_cons_succ]); ((refine WalkL.take 5 _ ?_ (by simp only [List.getElem?_toArray, List.getElem?_cons_succ, List.getElem?_cons_zero]; rfl) (by kernel_rfl) (by kernel_rfl) (by kernel_rfl) (by rfl) (fun W hW => ?_) ?_; rotate_left; · (go_simp; try with_reducible rfl)); simp only [Act.put, List.setIfInBounds_toArray, List.set_cons_zero, List.set_cons_succ]); ((refine WalkL.take 6 _ ?_ (by simp only [List.getElem?_toArray, List.getElem?_cons_succ, List.getElem?_cons_zero]; rfl) (by kernel_rfl) (by kernel_rfl) (by kernel_rfl) (by rfl) (fun W hW => ?_) ?_; rotate_left; · (go_simp; try with_reducible rfl)); simp only [Act.put, List.setIfInBounds_toArray, List.set_cons_zero, List.set_cons_succ])
      clear h6 h5 h0 h1
      refine WalkL.one 7 (by kernel_rfl) ?_
      refine ⟨_, (by simp only [List.getElem?_toArray, List.getElem?_cons_succ, List.getElem?_cons_zero]; rfl), by rfl, fun K hK => ?_⟩
      go_simp
      have X6 := Lib.hid (Ext.alloc wd (.cells #[.string qn, .slice aor nr cr] 49))
      have hk6 : Kept (fun b => b < wd.heap.size ∧ Value.ownBlock (.slice aov kv cv) ≠ some b) wd _ := Below.kept X6.out fun b hb => hb.1
      refine hK.out _ _ hk6 ?_
      clear hK
      refine WalkL.one 8 (by kernel_rfl) ?_
      refine ⟨_, (by simp only [List.getElem?_toArray, List.getElem?_cons_succ, List.getElem?_cons_zero]; rfl), by rfl, fun K hK => ?_⟩
      refine wp_ownw tysT (.tmp 35) (.tmp 41) rfl rfl (HOd.out.below X6.out) rfl (m := 1) (news := [.string qn, .slice aor nr cr]) rfl (fun j u hu => ?_) (by simp [Value.oneCell']) (by have := HLN.out; rw [flat_length tyC_length]; simp; omega) (by have := HLN.out; rw [flat_length tyC_length]; simp; omega) (by have := HZd.out; simp; omega) (fun v7 w7 hown7 hb7 hgr7 => ?_)
      · rw [Addr.add_lit, cell_of_row _ wd.heap.size (0 + j) #[.string qn, .slice aor nr cr] 49 (0, 0) (heap_alloc_new wd _)]
        simpa using hu
      have hk7 : Kept (fun b => b < wd.heap.size ∧ Value.ownBlock (.slice aov kv cv) ≠ some b) wd w7 := ⟨hgr7.os.trans X6.out.os, hgr7.tape.trans X6.out.tape, hgr7.output.trans X6.out.output, Nat.le_trans X6.out.size hgr7.size, fun b hb => (hgr7.block b (Nat.lt_of_lt_of_le hb.1 X6.out.size) (fun e => hb.2 e.symm)).trans (X6.out.block b hb.1)⟩
      refine hK.out _ _ hk7 ?_
      clear hK
      simp only [Act.put, List.setIfInBounds_toArray, List.set_cons_zero, List.set_cons_succ]
      have hU7 := hk7.blk HUd.out ⟨HUd.out.lt, fun e => by have := (HPd.out _ e).1; omega⟩
      have HO7 := Lib.hid hown7
      have HK7 := Lib.hid hk7
      obtain ⟨ao7, kv7, cv7, rfl, -, -, -⟩ := hown7.sl.len
      have c7 := hU7.cells 0
      have f7 := hU7.free
      have HU7 := Lib.hid hU7
      clear hown7 hb7 hgr7 hk6 hk7 hU7
      ((refine WalkL.take 9 _ ?_ (by simp only [List.getElem?_toArray, List.getElem?_cons_succ, List.getElem?_cons_zero]; rfl) (by kernel_rfl) (by kernel_rfl) (by kernel_rfl) (by rfl) (fun W hW => ?_) ?_; rotate_left; · (go_simp; try with_reducible rfl)); simp only [Act.put, List.setIfInBounds_toArray, List.set_cons_zero, List.set_cons_succ])
      refine WalkL.last (by kernel_rfl) (by kernel_rfl) ?_
      refine ⟨_, (by simp only [List.getElem?_toArray, List.getElem?_cons_succ, List.getElem?_cons_zero]; rfl), by rfl, fun K hK => ?_⟩
      go_simp
      refine hK.out _ _ ?_
      clear hK c7 f7
      have hU8 := HU7.out.set_to (cs' := #[.slice ao7 kv7 cv7]) 0 (.slice ao7 kv7 cv7) rfl
      have hO8 := Own.keepOwn (w' := w7.setCell ⟨b5 + 1, 0, none⟩ (.slice ao7 kv7 cv7)) HO7.out fun g hg => Below.heap_setCell _ _ _ _ (by have := (HO7.out.block g hg).1; show g ≠ b5 + 1; omega)
      have hE8 : Below (b5 + 1) w5 (w7.setCell ⟨b5 + 1, 0, none⟩ (.slice ao7 kv7 cv7)) := (HEd.out.trans (HK7.out.below fun b hb => ⟨by have := HZd.out; omega, fun e => by have := (HPd.out _ e).1; omega⟩)).setCell (Nat.le_refl _) _
      have HF := Lib.hid (And.intro hU8 (And.intro hO8 hE8))
      clear hU8 hO8 hE8 HU7 HO7 HK7
      have hw1 : wrap64 ((i : Int) - 1) = (i : Int) - 1 := wrap_in _ (by omega) (by have := HQ3.out; omega)
      have hw2 : IntKind.i64.wrap ((i : Int) - 1) = (i : Int) - 1 := IntWalk.i64_in _ (by have := HQ3.out; omega)
      go_wp2_with fail
      go_roundw
      case rel => exact ⟨i, _, by omega, by go_num, by rw [HTS.out, List.flatMap_append]; exact HF.out.2.1, HF.out.1, HF.out.2.2⟩
      case measure => simp [intOf]

end Go.Proofs.Ytipddhcfcehcaaa
