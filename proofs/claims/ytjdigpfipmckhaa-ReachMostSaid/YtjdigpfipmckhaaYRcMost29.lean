/- Lemmas for the claim, no condition. -/
import Derived.Test.YtjdigpfipmckhaaYRcMost0
import Derived.Test.YtjdigpfipmckhaaYRcMost27
import Derived.Test.YtjdigpfipmckhaaYRcMost17
import Derived.Test.YtjdigpfipmckhaaYRcMost24
import Derived.Test.YtjdigpfipmckhaaYRcMost28
import Derived.Test.YtjdigpfipmckhaaYRcMost19
import Derived.Test.YtjdigpfipmckhaaYRcMost4
namespace Go.Proofs.Ytjdigpfipmckhaa
open Go Go.RowKit Go.Maps
theorem mkTuple_any (ts : List TyS) (tv : Value) (tp : Nat) (w : World) (htp : Tp w tp) (ht : TysAt (fun b => b < w.heap.size ∧ b ≠ tp) w ts tv) (hok : ∀ t ∈ ts, t.Ok) (hn : 1 ≤ ts.length ∧ ts.length ≤ 1000) (hr : ∀ t ∈ ts, 1 ≤ t.rels.length ∧ t.rels.length ≤ 1000) :
    Calls Try.prog 17 #[.pointer (some ⟨tp, 0, none⟩), .agg #[tv]] w fun e w' => ∃ t : Tup, e = .returned (tV t) ∧ t.Ok ∧ Tp w' tp ∧ KT tp w w' := by
  obtain ⟨b, off, c, rfl, hrow⟩ := ht.row hok hn.1 hr
  exact mkTuple_row ts.length b off c tp w htp hrow hn
theorem tup_eql (a b : Tup) (W : World) : (binOp BinOp.eql 55 (tV a) (tV b)).run Try.prog W = .ok (.bool (decide (a = b))) W := by
  obtain ⟨⟨a1, a2, a3⟩, ⟨a4, a5, a6⟩⟩ := a
  obtain ⟨⟨b1, b2, b3⟩, ⟨b4, b5, b6⟩⟩ := b
  unfold tV
  dsimp only
  go_simp
  simp only [ba_toList]
  by_cases h1 : a1 = b1
  · by_cases h2 : a2 = b2
    · by_cases h3 : a3 = b3
      · by_cases h4 : a4 = b4
        · by_cases h5 : a5 = b5
          · by_cases h6 : a6 = b6 <;> simp [h1, h2, h3, h4, h5, h6]
          · simp [h1, h2, h3, h4, h5]
        · simp [h1, h2, h3, h4]
      · simp [h1, h2, h3]
    · simp [h1, h2]
  · simp [h1]
set_option maxRecDepth 100000 in
set_option maxHeartbeats 1000000 in
theorem mkTuples_any (ts : List TyS) (tv : Value) (most tp : Nat) (w : World) (htp : Tp w tp) (ht : TysAt (fun b => b < w.heap.size ∧ b ≠ tp) w ts tv) (hok : ∀ t ∈ ts, t.Ok) (hu : uniqOk ts = true) (hn : 1 ≤ ts.length ∧ ts.length ≤ 1000) (hr : ∀ t ∈ ts, 1 ≤ t.rels.length ∧ t.rels.length ≤ 1000) (hm : most ≤ 1000) :
    Calls Try.prog 8 #[.pointer (some ⟨tp, 0, none⟩), .agg #[tv], .int .i64 most] w fun e w' => ∃ (v : Value) (l : List Tup), e = .returned v ∧ Sl (fun b => w.heap.size ≤ b ∧ b < w'.heap.size) w' 6 v (tuCs l) ∧ (∀ t ∈ l, t.Ok) ∧ l.length ≤ most ∧ Tp w' tp ∧ KT tp w w' := by
  obtain ⟨aot, ct, rfl, -, -, -⟩ := ht.rows
  have HTY := Lib.hid ht
  have HOK := Lib.hid hok
  have HU := Lib.hid hu
  have HN := Lib.hid hn
  have HR := Lib.hid hr
  have HM := Lib.hid hm
  have HLT := Lib.hid htp.lt
  obtain ⟨wa, hwa⟩ : ∃ x, x = w.alloc (.cells #[.slice aot ts.length ct] 29) := ⟨_, rfl⟩
  have xa : Ext w wa := by rw [hwa]; exact Ext.alloc _ _
  have HSB := Lib.hid (show Blk wa w.heap.size #[.slice aot ts.length ct] 29 from by rw [hwa]; exact Blk.made _ _ _)
  have HTA := Lib.hid (htp.ext xa)
  have HKA := Lib.hid (KT.of (tp := tp) xa)
  have HNX := Lib.hid (next_any tp ((most : Int) + 1) wa HTA.out (by omega) (by omega))
  have hm1 : wrap64 ((most : Int) + 1) = (most : Int) + 1 := wrap_in _ (by omega) (by omega)
  have hm2 : IntKind.i64.wrap ((most : Int) + 1) = (most : Int) + 1 := IntWalk.i64_in _ (by omega)
  clear ht hok hu hn hr hm htp xa
  subst hwa
  go_enter Try.func8, Try.ntmps8
  go_wp2_with fail
  refine HNX.out.mono ?_
  rintro e w1 ⟨k, rfl, hk, ht1, hk1⟩
  have HT1 := Lib.hid ht1
  have HK1 := Lib.hid (KT.trans HKA.out hk1)
  have HB1 := Lib.hid (hk1.blk HSB.out (by have := HLT.out; omega))
  have HKM := Lib.hid (show k ≤ most from by omega)
  clear ht1 hk1 hk hm1 hm2 HNX HTA HKA HSB
  go_wp2_with fail
  go_loopw [7, 8] (fun ov iv wr => ∃ (l : List Tup) (i : Nat), iv = .int .i64 i ∧ l.length + i ≤ most ∧ Own wr (w.heap.size + 1) 55 6 ov (tuCs l) ∧ (∀ t ∈ l, t.Ok) ∧ Blk wr w.heap.size #[.slice aot ts.length ct] 29 ∧ Tp wr tp ∧ KT tp w wr) (fun _ iv _ => (intOf iv).toNat)
  case atStart => exact ⟨[], k, rfl, by have := HKM.out; simp; omega, Own.nil _ _ _ _, by simp, HB1.out, HT1.out, HK1.out⟩
  case round =>
    obtain ⟨l, i, rfl, hli, how, hlo, hbs, htr, hkr⟩ := hrel
    clear HT1 HK1 HB1 HKM
    have HLI := Lib.hid hli
    have HOW := Lib.hid how
    have HLO := Lib.hid hlo
    have HB := Lib.hid hbs
    have HT := Lib.hid htr
    have HK := Lib.hid hkr
    have hsb := hbs.cells
    clear hli how hlo hbs htr hkr
    cases i with
    | zero =>
      have h0 : ¬ ((0 : Int) < ((0 : Nat) : Int)) := by omega
      go_wp2_with fail
      go_ret
      exact ⟨_, rfl, l, HOW.out.sl.mono fun b hb => ⟨by have := hb.1; omega, hb.2⟩, HLO.out, by have := HLI.out; omega, HT.out, HK.out⟩
    | succ i =>
      have h0 : (0 : Int) < ((i + 1 : Nat) : Int) := by omega
      have HTU := Lib.hid (mkTuple_any ts _ tp wr HT.out ((HTY.out.same (KT.same HK.out fun b hb => hb)).mono fun b hb => ⟨Nat.lt_of_lt_of_le hb.1 HK.out.size, hb.2⟩) HOK.out HN.out HR.out)
      go_wp2_with fail
      refine HTU.out.mono ?_
      rintro e w2 ⟨t, rfl, hto, ht2, hk2⟩
      obtain ⟨⟨t0, t1, t2⟩, ⟨t3, t4, t5⟩⟩ := t
      unfold tV
      dsimp only
      have x3 := Ext.alloc w2 (.cells #[.string t0, .string t1, .string t2, .string t3, .string t4, .string t5] 55)
      have HTB := Lib.hid (Blk.made w2 #[.string t0, .string t1, .string t2, .string t3, .string t4, .string t5] 55)
      have hk3 := KT.trans hk2 (KT.of x3)
      have HK3 := Lib.hid (KT.trans HK.out hk3)
      have HT3 := Lib.hid (ht2.ext x3)
      have HB3 := Lib.hid (hk3.blk HB.out (by have := HLT.out; omega))
      have HO3 := Lib.hid (Own.keepOwn HOW.out fun g hg => hk3.block g ⟨(HOW.out.block g hg).2, by have := (HOW.out.block g hg).1; have := HLT.out; omega⟩)
      have HZ3 := Lib.hid (show w.heap.size + 1 ≤ w2.heap.size from Nat.le_trans HB.out.lt hk2.size)
      have HTO := Lib.hid hto
      have HW := Lib.hid (writes06_any ts _ ⟨⟨t0, t1, t2⟩, ⟨t3, t4, t5⟩⟩ _ ((HTY.out.same (KT.same HK3.out fun b hb => hb)).mono fun b hb => Nat.lt_of_lt_of_le hb.1 HK3.out.size) HU.out hto)
      unfold tV at HW
      dsimp only at HW
      have tb3 := HTB.out.cells
      have sb3 := HB3.out.cells
      clear hto ht2 hk2 x3 hk3 HTU hsb HOW HB HT HK
      generalize (wrN ts ⟨⟨t0, t1, t2⟩, ⟨t3, t4, t5⟩⟩) = wn at *
      go_wp2_with fail
      refine HW.out.mono ?_
      rintro e w4 ⟨rfl, hb4⟩
      have HT4 := Lib.hid (HT3.out.ext hb4)
      have HK4 := Lib.hid (KT.trans HK3.out (KT.of hb4))
      have HB4 := Lib.hid (HB3.out.below hb4)
      have HO4 := Lib.hid (HO3.out.below hb4)
      have HTB4 := Lib.hid (HTB.out.below hb4)
      have HZ4 := Lib.hid (show w.heap.size + 1 ≤ w4.heap.size from by have := HZ3.out; have := HTB4.out.lt; omega)
      clear hb4 HW tb3 sb3 HT3 HK3 HB3 HO3 HTB
      obtain ⟨aoo, co, rfl, hoc, hom, hor⟩ := tups_rows HO4.out.sl
      have HOR := Lib.hid hor
      clear hor
      generalize w2.heap.size = tb at *
      go_wp2_with fail
      go_loopw [10, 30] (fun av jv wq => ∃ (j : Nat) (a : Bool), j ≤ l.length ∧ jv = .int .i64 j ∧ av = .bool a ∧ Ext w4 wq) (fun _ jv _ => l.length - (intOf jv).toNat)
      case atStart => exact ⟨0, _, by omega, rfl, rfl, Ext.refl _⟩
      case round =>
        obtain ⟨j, a, hj, rfl, rfl, hext⟩ := hrel
        have HE := Lib.hid hext
        by_cases hjt : j < l.length
        · obtain ⟨b, off, hbo, hb, k0, k1, k2, k3, k4, k5⟩ := HOR.out j hjt
          cases hbo
          have d0 := hext.cell (a := ⟨b, off + j * 6, none⟩) k0
          have d1 := hext.cell (a := ⟨b, off + j * 6 + 1, none⟩) k1
          have d2 := hext.cell (a := ⟨b, off + j * 6 + 2, none⟩) k2
          have d3 := hext.cell (a := ⟨b, off + j * 6 + 3, none⟩) k3
          have d4 := hext.cell (a := ⟨b, off + j * 6 + 4, none⟩) k4
          have d5 := hext.cell (a := ⟨b, off + j * 6 + 5, none⟩) k5
          generalize l[j] = y at *
          obtain ⟨⟨y0, y1, y2⟩, ⟨y3, y4, y5⟩⟩ := y
          dsimp only at d0 d1 d2 d3 d4 d5
          have x1 := Ext.alloc wr (.cells #[.string y0, .string y1, .string y2, .string y3, .string y4, .string y5] 55)
          have HE1 := Lib.hid (show Ext w4 _ from hext.trans x1)
          have yb1 := (Blk.made wr #[.string y0, .string y1, .string y2, .string y3, .string y4, .string y5] 55).cells
          have tb1 := (HTB4.out.below HE1.out).cells
          have heq := fun W => tup_eql ⟨⟨t0, t1, t2⟩, ⟨t3, t4, t5⟩⟩ ⟨⟨y0, y1, y2⟩, ⟨y3, y4, y5⟩⟩ W
          unfold tV at heq
          dsimp only at heq
          generalize decide ((⟨⟨t0, t1, t2⟩, ⟨t3, t4, t5⟩⟩ : Tup) = ⟨⟨y0, y1, y2⟩, ⟨y3, y4, y5⟩⟩) = eq at *
          clear k0 k1 k2 k3 k4 k5 hext x1
          cases a with
          | true =>
            go_wp2_with fail
            go_roundw
            case rel => exact ⟨j + 1, _, by omega, by go_num, rfl, HE1.out⟩
            case measure => simp [intOf]; omega
          | false =>
            go_wp2_with fail
            go_roundw
            case rel => exact ⟨j + 1, _, by omega, by go_num, rfl, HE1.out⟩
            case measure => simp [intOf]; omega
        · obtain rfl : j = l.length := by omega
          have HT5 := Lib.hid (HT4.out.ext hext)
          have HK5 := Lib.hid (KT.trans HK4.out (KT.of hext))
          have HB5 := Lib.hid (HB4.out.below hext)
          have HO5 := Lib.hid (HO4.out.below hext)
          have tb5 := (HTB4.out.below hext).cells
          have HZ5 := Lib.hid (show w.heap.size + 1 ≤ wr.heap.size from by have := HZ4.out; have := hext.size; omega)
          have hwi : wrap64 (i : Int) = (i : Int) := wrap_in _ (by omega) (by have := HLI.out; have := HM.out; omega)
          have hwi2 : IntKind.i64.wrap (i : Int) = (i : Int) := IntWalk.i64_in _ (by have := HLI.out; have := HM.out; omega)
          clear hext HE HT4 HK4 HB4 HO4
          cases a with
          | true =>
            go_wp2_with fail
            go_roundw
            case rel => exact ⟨l, i, by go_num, by have := HLI.out; omega, HO5.out, HLO.out, HB5.out, HT5.out, HK5.out⟩
            case measure => simp [intOf]
          | false =>
            go_wp2_with (at_builtin; go_must (refine wpList_own_lit tupT rfl (.tmp 43) (.tmp 45) rfl rfl HO5.out rfl rfl (by simp [Value.oneCell']) (by have := HLI.out; have := HM.out; rw [tuCs_length]; simp; omega) (by have := HLI.out; have := HM.out; rw [tuCs_length]; simp; omega) HZ5.out ?_; intro v6 w6 hown6 hb6 hgr6; have HO6 := Lib.hid (show Own w6 (w.heap.size + 1) 55 6 v6 (tuCs (l ++ [⟨⟨t0, t1, t2⟩, ⟨t3, t4, t5⟩⟩])) from by rw [tuCs_append]; exact hown6); have HG6 := Lib.hid hb6; clear hown6 hb6 hgr6))
            go_roundw
            case rel => exact ⟨l ++ [⟨⟨t0, t1, t2⟩, ⟨t3, t4, t5⟩⟩], i, by go_num, by have := HLI.out; simp; omega, HO6.out, fun x hx => by
              rcases List.mem_append.1 hx with hx | hx
              · exact HLO.out x hx
              · rw [List.mem_singleton.1 hx]; exact HTO.out, HB5.out.same (Same.below HG6.out) (by show w.heap.size < w.heap.size + 1; omega), HT5.out.kept (K := fun b => b < w.heap.size + 1) (Below.kept HG6.out fun b hb => hb) (fun b hb => by have := HLT.out; show b < w.heap.size + 1; omega), Kept.trans HK5.out (Below.kept HG6.out fun b (hb : b < w.heap.size ∧ b ≠ tp) => by have := hb.1; omega)⟩
            case measure => simp [intOf]
end Go.Proofs.Ytjdigpfipmckhaa
namespace Go.Proofs.Ytjdigpfipmckhaa
open Go Go.RowKit Go.Maps
structure HeadAt (w W : World) (bs bp : Nat) (ts : List TyS) (tv : Value) (l : List Tup) (lv : Value) (p : P3) : Prop where
  X : Below w.heap.size w W
  S : Blk W bs #[tv] 29
  P : Blk W bp #[.string p.t, .string p.i, .string p.r] 36
  Y : TysAt (· < W.heap.size) W ts tv
  L : Sl (· < W.heap.size) W 6 lv (tuCs l)
  lok : ∀ t ∈ l, t.Ok
  len : l.length ≤ 20
  good : GoodS ts
  pok : p.Ok
theorem HeadAt.up {w W W' : World} {bs bp : Nat} {ts : List TyS} {tv : Value} {l : List Tup} {lv : Value} {p : P3} (h : HeadAt w W bs bp ts tv l lv p) (hx : Ext W W') : HeadAt w W' bs bp ts tv l lv p :=
  ⟨h.X.trans (Below.mono hx h.X.size), h.S.below hx, h.P.below hx, h.Y.up hx, (h.L.same (Same.below hx)).mono fun _ hb => Nat.lt_of_lt_of_le hb hx.size, h.lok, h.len, h.good, h.pok⟩
theorem HeadAt.walk {w W : World} {bs bp : Nat} {ts : List TyS} {tv : Value} {l : List Tup} {lv : Value} {p : P3} (h : HeadAt w W bs bp ts tv l lv p) {l' T : List Tup} (hl : l'.length ≤ 20) (hlo : ∀ t ∈ l', t.Ok) (hT : SetT l' T) {W' : World} (hx : Ext W W') (b : Nat) (hb : BookAt W' b T) (most : Int) :
    Calls Try.prog 10 #[.agg #[tv], bkV b, .slice none 0 0, pV p, .int .i64 most] W' (GSaid (WalkP ts T [] p most (.int .i64 0) (.int .i64 10)) W') := by
  have hf := GoodS.fine h.good
  have hbk := hf.bk
  exact walkG_any ts tv b T [] (.slice none 0 0) p most 2000000 W' (h.Y.up hx) hf.ok hf.chk (by have := schB_bk ts; omega) (sz_sch (by omega)) (by have := (names_bk ts).1; omega) (by have := (names_bk ts).2; omega) hb (Sl.nil _ _ _) (by simp)
    (walkIn_chk [] (chk_long hf.chk) hf.ok (by have := hT.len; omega) (fun t ht => hlo t ((hT.mem t).1 ht).1) h.pok)
theorem head_few {ts : List TyS} (h : GoodS ts) {l T : List Tup} (hl : l.length ≤ 20) (hT : SetT l T) (p : P3) (n : Nat) : (walkN ts T [] p n).1.length ≤ 750 := good_few h (by have := hT.len; omega) [] p n
theorem tape3 (a b c : Nat) (ha : a < 256) (hb : b < 256) (hc : c < 256) (w : World) :
    Tp ((w.alloc (.cells #[.int .u8 a, .int .u8 b, .int .u8 c] 5)).alloc (.cells #[.slice (some ⟨w.heap.size, 0, none⟩) 3 3, .int .i64 0] 26)) (w.heap.size + 1) := by
  have h : bc [UInt8.ofNat a, UInt8.ofNat b, UInt8.ofNat c] = (#[.int .u8 a, .int .u8 b, .int .u8 c] : Array Value).toList := by
    simp [bc, Nat.mod_eq_of_lt ha, Nat.mod_eq_of_lt hb, Nat.mod_eq_of_lt hc]
  obtain ⟨wa, hwa⟩ : ∃ x, x = w.alloc (.cells #[.int .u8 a, .int .u8 b, .int .u8 c] 5) := ⟨_, rfl⟩
  have ea : wa.heap.size = w.heap.size + 1 := by rw [hwa]; simp
  have hs : Sl (· < w.heap.size + 1) wa 1 (.slice (some ⟨w.heap.size, 0, none⟩) 3 3) (bc [UInt8.ofNat a, UInt8.ofNat b, UInt8.ofNat c]) := by
    rw [h, hwa]
    exact Sl.made w _ 1 3 5 _ rfl (by decide) (Nat.lt_succ_self _)
  rw [← hwa]
  have hx := Ext.alloc wa (.cells #[.slice (some ⟨w.heap.size, 0, none⟩) 3 3, .int .i64 0] 26)
  exact ⟨_, _, 0, Nat.zero_le _, hs.same fun b hb => hx.block b (by rw [ea]; exact hb), by rw [← ea]; exact Blk.made wa _ _⟩
theorem quo_u8 (a k : Nat) : (a : Int).tdiv (k : Int) = ((a / k : Nat) : Int) := by rw [Int.tdiv_eq_ediv_of_nonneg (by omega)]; simp
end Go.Proofs.Ytjdigpfipmckhaa
namespace Go.Proofs.Ytjdigpfipmckhaa
open Go Go.RowKit Go.Maps
set_option maxRecDepth 100000 in
set_option maxHeartbeats 4000000 in
theorem mostLaw_any (l : List UInt8) (v : Value) (a : Nat) (ha : a < 256) (m : Nat) (hm : m < 256) (w : World) (h : Sl (· < w.heap.size) w 1 v (bc l)) : Calls Try.prog 5 #[v, .int .u8 a, .int .u8 m] w fun e w' => e = .returned (.bool true) ∧ Below w.heap.size w w' := by
  have HF := Lib.hid (fixed26_any w)
  have HSL := Lib.hid h
  have HA := Lib.hid ha
  obtain ⟨ao, ln, c, rfl, hln, -, hcm⟩ := h.len
  rw [bc_length, Nat.mul_one] at hln
  subst hln
  clear h ha
  go_enter Try.func5, Try.ntmps5
  go_wp2_with fail
  refine HF.out.mono ?_
  rintro e w1 ⟨rfl, hb1⟩
  have HB1 := Lib.hid (show Below w.heap.size w w1 from hb1)
  clear hb1 HF
  by_cases hlen : (300 : Int) < (l.length : Int)
  · go_wp2_with fail
    go_ret
    exact ⟨rfl, HB1.out⟩
  have hx12 := Ext.alloc w1 (.cells #[.slice ao l.length c, .int .i64 0] 26)
  have HT2 := Lib.hid (show Tp (w1.alloc (.cells #[.slice ao l.length c, .int .i64 0] 26)) w1.heap.size from ⟨_, l, 0, Nat.zero_le _, (HSL.out.same (Same.below (HB1.out.trans (hx12.mono HB1.out.size)))).mono fun b (hb : b < w.heap.size) => Nat.lt_of_lt_of_le hb HB1.out.size, Blk.made _ _ _⟩)
  have HMK := Lib.hid (mkSchema_any _ _ HT2.out)
  have HB2 := Lib.hid (show Below w.heap.size w _ from HB1.out.trans (hx12.mono HB1.out.size))
  have HZ2 := Lib.hid (show w1.heap.size < (w1.alloc (.cells #[.slice ao l.length c, .int .i64 0] 26)).heap.size from HT2.out.lt)
  have HZ1 := Lib.hid (show w.heap.size ≤ w1.heap.size from HB1.out.size)
  clear hx12
  go_wp2_with fail
  obtain ⟨w2, hw2⟩ : ∃ x, x = w1.alloc (.cells #[.slice ao l.length c, .int .i64 0] 26) := ⟨_, rfl⟩
  rw [← hw2] at HT2 HMK HB2 HZ2 ⊢
  clear hw2
  generalize w1.heap.size = tp at *
  refine HMK.out.mono ?_
  rintro e w3 ⟨ts, tv, rfl, hgs, hty, htp, hkt⟩
  have HGS := Lib.hid hgs
  have HFS := Lib.hid (GoodS.fine hgs)
  have HB3 := Lib.hid (show Below w.heap.size w w3 from HB2.out.trans (hkt.below fun b hb => ⟨Nat.lt_of_lt_of_le hb HB2.out.size, by have := HZ1.out; omega⟩))
  have HTY3 := Lib.hid (show TysAt (fun b => b < w3.heap.size ∧ b ≠ tp) w3 ts tv from hty.mono fun b hb => ⟨hb.2, by have := hb.1; have := HZ2.out; omega⟩)
  have HT3 := Lib.hid htp
  have HZ3 := Lib.hid htp.lt
  obtain ⟨aot, ct, rfl, htc, htcm, -⟩ := hty.rows
  have x34 := Ext.alloc w3 (.cells #[.slice aot ts.length ct] 29)
  have HS4 := Lib.hid (Blk.made w3 #[.slice aot ts.length ct] 29)
  have HTY4 := Lib.hid (show TysAt (fun b => b < (w3.alloc (.cells #[.slice aot ts.length ct] 29)).heap.size ∧ b ≠ tp) _ ts _ from (HTY3.out.same fun b hb => x34.block b hb.1).mono fun b hb => ⟨Nat.lt_of_lt_of_le hb.1 x34.size, hb.2⟩)
  have HT4 := Lib.hid (HT3.out.ext x34)
  have HB4 := Lib.hid (HB3.out.trans (x34.mono HB3.out.size))
  clear hgs hty htp hkt x34 HMK HT2 HB2 HB1 HSL hlen HTY3 HT3 htc htcm
  go_wp2_with fail
  obtain ⟨w4, hw4⟩ : ∃ x, x = w3.alloc (.cells #[.slice aot ts.length ct] 29) := ⟨_, rfl⟩
  rw [← hw4] at HS4 HTY4 HT4 HB4 ⊢
  clear hw4
  have HZ4 := Lib.hid (show w3.heap.size ≠ tp ∧ tp < w3.heap.size ∧ w.heap.size ≤ w3.heap.size from ⟨by have := HZ3.out; omega, HZ3.out, HB3.out.size⟩)
  clear HB3 HZ2
  generalize w3.heap.size = bs at *
  have HTU := Lib.hid (mkTuples_any ts _ 20 tp w4 HT4.out HTY4.out HFS.out.ok (chk_uniq HFS.out.chk) (by have := HFS.out.two; omega) (fun t ht => by have := HFS.out.rels t ht; omega) (by omega))
  have s4 := HS4.out.cells
  have HN := Lib.hid HFS.out.two
  go_wp2_with fail
  refine HTU.out.mono ?_
  rintro e w5 ⟨v5, l5, rfl, hsl5, hok5, hlen5, htp5, hkt5⟩
  clear s4 HTU
  have HL5 := Lib.hid (hsl5.mono (T := fun b => b < w5.heap.size) fun b hb => hb.2)
  have HS5 := Lib.hid (hkt5.blk HS4.out HZ4.out.1)
  have HY5 := Lib.hid (show TysAt (· < w5.heap.size) w5 ts _ from (HTY4.out.same fun b hb => hkt5.block b hb).mono fun b hb => Nat.lt_of_lt_of_le hb.1 hkt5.size)
  have HB5 := Lib.hid (show Below w.heap.size w w5 from HB4.out.trans (hkt5.below fun b hb => ⟨Nat.lt_of_lt_of_le hb HB4.out.size, by have := HZ1.out; omega⟩))
  have HOK5 := Lib.hid (And.intro hok5 hlen5)
  clear hsl5 hok5 hlen5 htp5 hkt5 HS4 HTY4 HT4 HB4
  obtain ⟨a3, ha3, hq3⟩ : ∃ a3 : Nat, a3 < 256 ∧ (a : Int).tdiv 3 = (a3 : Int) := ⟨a / 3, by have := HA.out; omega, quo_u8 a 3⟩
  obtain ⟨a9, ha9, hq9⟩ : ∃ a9 : Nat, a9 < 256 ∧ (a : Int).tdiv 9 = (a9 : Int) := ⟨a / 9, by have := HA.out; omega, quo_u8 a 9⟩
  have hw3 : IntKind.u8.wrap (a3 : Int) = (a3 : Int) := IntWalk.u8_in _ (by omega)
  have hw9 : IntKind.u8.wrap (a9 : Int) = (a9 : Int) := IntWalk.u8_in _ (by omega)
  have HA39 := Lib.hid (And.intro ha3 ha9)
  clear ha3 ha9
  have s7 := ((HS5.out.alloc (.cells #[.int .u8 a, .int .u8 a3, .int .u8 a9] 5)).alloc (.cells #[.slice (some ⟨w5.heap.size, 0, none⟩) 3 3, .int .i64 0] 26)).cells
  go_wp2_with fail
  have HT7 := Lib.hid (tape3 a a3 a9 HA.out HA39.out.1 HA39.out.2 w5)
  have HX57 := Lib.hid (show Ext w5 ((w5.alloc (.cells #[.int .u8 a, .int .u8 a3, .int .u8 a9] 5)).alloc (.cells #[.slice (some ⟨w5.heap.size, 0, none⟩) 3 3, .int .i64 0] 26)) from (Ext.alloc _ _).trans (Ext.alloc _ _))
  clear s7 hq3 hq9 hw3 hw9
  obtain ⟨w7, hw7⟩ : ∃ x, x = (w5.alloc (.cells #[.int .u8 a, .int .u8 a3, .int .u8 a9] 5)).alloc (.cells #[.slice (some ⟨w5.heap.size, 0, none⟩) 3 3, .int .i64 0] 26) := ⟨_, rfl⟩
  rw [← hw7] at HT7 HX57 ⊢
  clear hw7
  have HS7 := Lib.hid (HS5.out.below HX57.out)
  have HY7 := Lib.hid (show TysAt (fun b => b < w7.heap.size ∧ b ≠ w5.heap.size + 1) w7 ts _ from (HY5.out.same (Same.below HX57.out)).mono fun b (hb : b < w5.heap.size) => ⟨Nat.lt_of_lt_of_le hb HX57.out.size, by omega⟩)
  obtain ⟨bt, ot, ctt, htv, hrow⟩ := HY7.out.row HFS.out.ok (by have := HFS.out.two; omega) (fun t ht => by have := HFS.out.rels t ht; omega)
  cases htv
  have HPT := Lib.hid (mkPoint_row ts.length bt ot ct (w5.heap.size + 1) w7 HT7.out hrow (by have := HFS.out.two; omega))
  have HS5L := Lib.hid HS5.out.lt
  clear hrow
  refine HPT.out.mono ?_
  rintro e w8 ⟨p, rfl, hpo, htp8, hkt8⟩
  unfold pV
  have X58 := Lib.hid (show Below w5.heap.size w5 w8 from Below.trans (show Below w5.heap.size w5 w7 from HX57.out) (hkt8.below fun b hb => ⟨Nat.lt_of_lt_of_le hb HX57.out.size, by omega⟩))
  have x89 := Ext.alloc w8 (.cells #[.string p.t, .string p.i, .string p.r] 36)
  have X59 := Lib.hid (show Ext w5 (w8.alloc (.cells #[.string p.t, .string p.i, .string p.r] 36)) from Below.trans X58.out (Below.mono x89 X58.out.size))
  have HH := Lib.hid (show HeadAt w (w8.alloc (.cells #[.string p.t, .string p.i, .string p.r] 36)) bs w8.heap.size ts (.slice (some ⟨bt, ot, none⟩) ts.length ct) l5 v5 p from
    ⟨HB5.out.trans (Below.mono X59.out HB5.out.size), HS5.out.below X59.out, Blk.made _ _ _, HY5.out.up X59.out, (HL5.out.same (Same.below X59.out)).mono fun _ hb => Nat.lt_of_lt_of_le hb X59.out.size, HOK5.out.1, HOK5.out.2, HGS.out, hpo⟩)
  clear hpo htp8 hkt8 x89 HPT
  go_wp2_with fail
  obtain ⟨w9, hw9⟩ : ∃ x, x = w8.alloc (.cells #[.string p.t, .string p.i, .string p.r] 36) := ⟨_, rfl⟩
  rw [← hw9] at HH ⊢
  clear hw9 HS5 HY5 HL5 HB5 HOK5 HGS X58 X59 HX57 HT7 HS7 HY7 HS5L HN HFS
  generalize w8.heap.size = bp at *
  generalize w5.heap.size = b5 at *
  obtain ⟨T, hT⟩ := set_ex l5
  have HST := Lib.hid hT
  clear hT
  obtain ⟨wd, hwd⟩ : ∃ wd, Hid (wd = w9.drew) := ⟨_, Lib.hid rfl⟩
  have hxd := Lib.hid (show Ext w9 wd from by rw [hwd.out]; exact Ext.drew _)
  apply Code.wp_mono (Q := JoinG (β := Nat) wd (WalkP ts T [] p 1000 (.int .i64 0) (.int .i64 10)) _) ?rest ?reg
  case reg =>
    have hE := Lib.hid (Ext.refl wd)
    refine region_walkN (Ext wd) (by rw [← hwd.out]; exact Ext.refl _) (by kernel_rfl) (by kernel_rfl) (fun _ _ d _ _ h => by cases h.1) ?_
    rw [← hwd.out]
    have hs : ∀ W, Ext wd W → ∀ i, W.cell? ⟨bs, i, none⟩ = (#[.slice (some ⟨bt, ot, none⟩) ts.length ct] : Array Value)[i]? := fun W h => ((HH.out.up hxd.out).S.below h).cells
    have hp : ∀ W, Ext wd W → ∀ i, W.cell? ⟨bp, i, none⟩ = (#[.string p.t, .string p.i, .string p.r] : Array Value)[i]? := fun W h => ((HH.out.up hxd.out).P.below h).cells
    have HNB := Lib.hid (fun W (hW : Ext wd W) => bookT_any HST.out v5 W ((HH.out.up hxd.out).up hW).L (by have := HH.out.len; omega) HH.out.lok)
    have HWK := Lib.hid (fun W b (hW : Ext wd W) (hB : BookAt W b T) => (HH.out.up hxd.out).walk HH.out.len HH.out.lok HST.out hW b hB 1000)
    unfold pV at HWK
    (refine WalkN.tk [0, 1, 4] ?_; (iterate 3 ((refine TkN.c _ ?_ (by simp only [gtA, gtS, gtZ]; rfl) (by kernel_rfl) (by kernel_rfl) (by rfl) (fun W hW => ?_) ?_; rotate_left; · (go_simp; try with_reducible rfl)); simp only [Act.put, puA, puZ, puS])); refine TkN.n ?_)
    clear hs hp
    refine WalkN.two 2 9 (by kernel_rfl) ?_ ?_
    refine ⟨_, (by simp only [gtA, gtS, gtZ]; rfl), by rfl, fun K hK => ?_⟩
    go_simp
    refine (HNB.out wd hE.out).mono ?_
    rintro e u1 ⟨bk, rfl, hB0, hx0⟩
    have hX0 := Ext.trans hE.out hx0
    refine hK.out _ _ hX0 ?_
    clear hK
    have HBK := Lib.hid hB0
    have hE := Lib.hid hX0
    clear hx0 hX0 hB0
    ((refine WalkN.take 3 _ ?_ (by simp only [gtA, gtS, gtZ]; rfl) (by kernel_rfl) (by kernel_rfl) (by rfl) (fun W hW => ?_) ?_; rotate_left; · (go_simp; try with_reducible rfl)); simp only [Act.put, puA, puZ, puS])
    refine WalkN.two 5 9 (by kernel_rfl) ?_ ?_
    refine ⟨_, (by simp only [gtA, gtS, gtZ]; rfl), by rfl, fun K hK => ?_⟩
    go_simp
    refine (HWK.out u1 bk hE.out HBK.out).mono ?_
    rintro e u2 ⟨hx1, ps, fs, po, pc, fo, fc, ev, hP1, rfl, hG1⟩
    have hX1 := Ext.trans hE.out hx1
    refine hK.out _ _ hX1 ?_
    clear hK
    have HR := Lib.hid (show GrAt (fun x => wd.heap.size ≤ x ∧ x < u2.heap.size) u2 ps fs (.slice po ps.length pc) (.slice fo fs.length fc) from hG1.mono fun x hx => ⟨Nat.le_trans hE.out.size hx.1, hx.2⟩)
    have HP := Lib.hid hP1
    have HBK := Lib.hid (HBK.out.ext hx1)
    have hE := Lib.hid hX1
    clear hx1 hX1 hP1 hG1
    ((refine WalkN.take 6 _ ?_ (by simp only [gtA, gtS, gtZ]; rfl) (by kernel_rfl) (by kernel_rfl) (by rfl) (fun W hW => ?_) ?_; rotate_left; · (go_simp; try with_reducible rfl)); simp only [Act.put, puA, puZ, puS])
    ((refine WalkN.take 7 _ ?_ (by simp only [gtA, gtS, gtZ]; rfl) (by kernel_rfl) (by kernel_rfl) (by rfl) (fun W hW => ?_) ?_; rotate_left; · (go_simp; try with_reducible rfl)); simp only [Act.put, puA, puZ, puS])
    ((refine WalkN.take 8 _ ?_ (by simp only [gtA, gtS, gtZ]; rfl) (by kernel_rfl) (by kernel_rfl) (by rfl) (fun W hW => ?_) ?_; rotate_left; · (go_simp; try with_reducible rfl)); simp only [Act.put, puA, puZ, puS])
    refine WalkN.one 9 (by kernel_rfl) ?_
    refine ⟨_, (by simp only [gtA, gtS, gtZ]; rfl), by rfl, fun K hK => ?_⟩
    go_simp
    obtain ⟨bg, hbg⟩ : ∃ x, x = u2.heap.size := ⟨_, rfl⟩
    rw [← hbg]
    have hA2 := Ext.alloc u2 (.cells #[.slice none 0 0, .slice none 0 0] 41)
    have hO2 : Blk (u2.alloc (.cells #[.slice none 0 0, .slice none 0 0] 41)) bg #[.slice none 0 0, .slice none 0 0] 41 := by rw [hbg]; exact Blk.made _ _ _
    have hX2 := Ext.trans hE.out hA2
    have HBG := Lib.hid (show wd.heap.size ≤ bg from by have := hE.out.size; omega)
    have HBK := Lib.hid (HBK.out.ext hA2)
    have HR := Lib.hid (show GrAt (fun x => x ≠ bg ∧ wd.heap.size ≤ x ∧ x < (u2.alloc (.cells #[.slice none 0 0, .slice none 0 0] 41)).heap.size) (u2.alloc (.cells #[.slice none 0 0, .slice none 0 0] 41)) ps fs (.slice po ps.length pc) (.slice fo fs.length fc) from (HR.out.same fun x hx => hA2.block x hx.2).mono fun x hx => ⟨fun e => by have := hx.2; omega, hx.1, Nat.lt_of_lt_of_le hx.2 hA2.size⟩)
    refine hK.out _ _ hX2 ?_
    clear hK hbg hA2
    generalize u2.alloc (.cells #[.slice none 0 0, .slice none 0 0] 41) = u3 at *
    have hE := Lib.hid hX2
    have HG := Lib.hid hO2
    clear hO2 hX2
    rotate_left
    refine ⟨_, (by simp only [gtA, gtS, gtZ]; rfl), by rfl, fun K hK => ?_⟩
    go_simp
    obtain ⟨bg, hbg⟩ : ∃ x, x = u1.heap.size := ⟨_, rfl⟩
    rw [← hbg]
    have hA1 := Ext.alloc u1 (.cells #[.slice none 0 0, .slice none 0 0] 41)
    have hO1 : Blk (u1.alloc (.cells #[.slice none 0 0, .slice none 0 0] 41)) bg #[.slice none 0 0, .slice none 0 0] 41 := by rw [hbg]; exact Blk.made _ _ _
    have hX1 := Ext.trans hE.out hA1
    have HBG := Lib.hid (show wd.heap.size ≤ bg from by have := hE.out.size; omega)
    have HBK := Lib.hid (HBK.out.ext hA1)
    refine hK.out _ _ hX1 ?_
    clear hK hbg hA1
    generalize u1.alloc (.cells #[.slice none 0 0, .slice none 0 0] 41) = u2 at *
    have hE := Lib.hid hX1
    have HG := Lib.hid hO1
    clear hO1 hX1
    refine WalkN.one 5 (by kernel_rfl) ?_
    refine ⟨_, (by simp only [gtA, gtS, gtZ]; rfl), by rfl, fun K hK => ?_⟩
    go_simp
    refine (HWK.out u2 bk hE.out HBK.out).mono ?_
    rintro e u3 ⟨hx2, ps, fs, po, pc, fo, fc, ev, hP2, rfl, hG2⟩
    have hX2 := Ext.trans hE.out hx2
    refine hK.out _ _ hX2 ?_
    clear hK
    have HR := Lib.hid (show GrAt (fun x => x ≠ bg ∧ wd.heap.size ≤ x ∧ x < u3.heap.size) u3 ps fs (.slice po ps.length pc) (.slice fo fs.length fc) from hG2.mono fun x hx => ⟨fun e => by have := HG.out.lt; have := hx.1; omega, Nat.le_trans hE.out.size hx.1, hx.2⟩)
    have HG := Lib.hid (HG.out.below hx2)
    have HP := Lib.hid hP2
    have HBK := Lib.hid (HBK.out.ext hx2)
    have hE := Lib.hid hX2
    clear hx2 hX2 hP2 hG2
    ((refine WalkN.take 6 _ ?_ (by simp only [gtA, gtS, gtZ]; rfl) (by kernel_rfl) (by kernel_rfl) (by rfl) (fun W hW => ?_) ?_; rotate_left; · (go_simp; try with_reducible rfl)); simp only [Act.put, puA, puZ, puS])
    ((refine WalkN.take 7 _ ?_ (by simp only [gtA, gtS, gtZ]; rfl) (by kernel_rfl) (by kernel_rfl) (by rfl) (fun W hW => ?_) ?_; rotate_left; · (go_simp; try with_reducible rfl)); simp only [Act.put, puA, puZ, puS])
    ((refine WalkN.take 8 _ ?_ (by simp only [gtA, gtS, gtZ]; rfl) (by kernel_rfl) (by kernel_rfl) (by rfl) (fun W hW => ?_) ?_; rotate_left; · (go_simp; try with_reducible rfl)); simp only [Act.put, puA, puZ, puS])
    rotate_left
    refine ⟨_, (by simp only [gtA, gtS, gtZ]; rfl), by rfl, fun K hK => ?_⟩
    go_simp
    obtain ⟨bg, hbg⟩ : ∃ x, x = wd.heap.size := ⟨_, rfl⟩
    rw [← hbg]
    have hA0 := Ext.alloc wd (.cells #[.slice none 0 0, .slice none 0 0] 41)
    have hO0 : Blk (wd.alloc (.cells #[.slice none 0 0, .slice none 0 0] 41)) bg #[.slice none 0 0, .slice none 0 0] 41 := by rw [hbg]; exact Blk.made _ _ _
    have hX0 := Ext.trans hE.out hA0
    have HBG := Lib.hid (show wd.heap.size ≤ bg from by have := hE.out.size; omega)
    refine hK.out _ _ hX0 ?_
    clear hK hbg hA0
    generalize wd.alloc (.cells #[.slice none 0 0, .slice none 0 0] 41) = u1 at *
    have hE := Lib.hid hX0
    have HG := Lib.hid hO0
    clear hO0 hX0
    refine WalkN.one 2 (by kernel_rfl) ?_
    refine ⟨_, (by simp only [gtA, gtS, gtZ]; rfl), by rfl, fun K hK => ?_⟩
    go_simp
    refine (HNB.out u1 hE.out).mono ?_
    rintro e u2 ⟨bk, rfl, hB1, hx1⟩
    have hX1 := Ext.trans hE.out hx1
    refine hK.out _ _ hX1 ?_
    clear hK
    have HBK := Lib.hid hB1
    have HG := Lib.hid (HG.out.below hx1)
    have hE := Lib.hid hX1
    clear hx1 hX1 hB1
    ((refine WalkN.take 3 _ ?_ (by simp only [gtA, gtS, gtZ]; rfl) (by kernel_rfl) (by kernel_rfl) (by rfl) (fun W hW => ?_) ?_; rotate_left; · (go_simp; try with_reducible rfl)); simp only [Act.put, puA, puZ, puS])
    refine WalkN.one 5 (by kernel_rfl) ?_
    refine ⟨_, (by simp only [gtA, gtS, gtZ]; rfl), by rfl, fun K hK => ?_⟩
    go_simp
    refine (HWK.out u2 bk hE.out HBK.out).mono ?_
    rintro e u3 ⟨hx2, ps, fs, po, pc, fo, fc, ev, hP2, rfl, hG2⟩
    have hX2 := Ext.trans hE.out hx2
    refine hK.out _ _ hX2 ?_
    clear hK
    have HR := Lib.hid (show GrAt (fun x => x ≠ bg ∧ wd.heap.size ≤ x ∧ x < u3.heap.size) u3 ps fs (.slice po ps.length pc) (.slice fo fs.length fc) from hG2.mono fun x hx => ⟨fun e => by have := HG.out.lt; have := hx.1; omega, Nat.le_trans hE.out.size hx.1, hx.2⟩)
    have HG := Lib.hid (HG.out.below hx2)
    have HP := Lib.hid hP2
    have HBK := Lib.hid (HBK.out.ext hx2)
    have hE := Lib.hid hX2
    clear hx2 hX2 hP2 hG2
    ((refine WalkN.take 6 _ ?_ (by simp only [gtA, gtS, gtZ]; rfl) (by kernel_rfl) (by kernel_rfl) (by rfl) (fun W hW => ?_) ?_; rotate_left; · (go_simp; try with_reducible rfl)); simp only [Act.put, puA, puZ, puS])
    ((refine WalkN.take 7 _ ?_ (by simp only [gtA, gtS, gtZ]; rfl) (by kernel_rfl) (by kernel_rfl) (by rfl) (fun W hW => ?_) ?_; rotate_left; · (go_simp; try with_reducible rfl)); simp only [Act.put, puA, puZ, puS])
    ((refine WalkN.take 8 _ ?_ (by simp only [gtA, gtS, gtZ]; rfl) (by kernel_rfl) (by kernel_rfl) (by rfl) (fun W hW => ?_) ?_; rotate_left; · (go_simp; try with_reducible rfl)); simp only [Act.put, puA, puZ, puS])
    rotate_left
    all_goals
      refine WalkN.one 10 (by kernel_rfl) ?_
      refine ⟨_, (by simp only [gtA, gtS, gtZ]; rfl), by rfl, fun K hK => ?_⟩
      have hg := HG.out.cells
      have hf := HG.out.free
      go_simp
      have hS3 := (HG.out.set_to (cs' := #[.slice po ps.length pc, .slice none 0 0]) 0 (.slice po ps.length pc) rfl).set_to (cs' := #[.slice po ps.length pc, .slice fo fs.length fc]) 1 (.slice fo fs.length fc) rfl
      have hX3 : Ext wd ((u3.setCell ⟨bg, 0, none⟩ (.slice po ps.length pc)).setCell ⟨bg, 1, none⟩ (.slice fo fs.length fc)) := Below.setCell (Below.setCell hE.out (p := ⟨bg, 0, none⟩) HBG.out _) (p := ⟨bg, 1, none⟩) HBG.out _
      have hR3 := (HR.out.same (w' := ((u3.setCell ⟨bg, 0, none⟩ (.slice po ps.length pc)).setCell ⟨bg, 1, none⟩ (.slice fo fs.length fc))) fun x hx => by rw [Below.heap_setCell _ _ _ x hx.1, Below.heap_setCell _ _ _ x hx.1]).mono (T := fun x => x ≠ bg ∧ wd.heap.size ≤ x ∧ x < ((u3.setCell ⟨bg, 0, none⟩ (.slice po ps.length pc)).setCell ⟨bg, 1, none⟩ (.slice fo fs.length fc)).heap.size) fun x hx => ⟨hx.1, hx.2.1, by simpa using hx.2.2⟩
      refine hK.out _ _ hX3 ?_
      clear hK hg hf
      generalize (u3.setCell ⟨bg, 0, none⟩ (.slice po ps.length pc)).setCell ⟨bg, 1, none⟩ (.slice fo fs.length fc) = u4 at *
      ((refine WalkN.take 11 _ ?_ (by simp only [gtA, gtS, gtZ]; rfl) (by kernel_rfl) (by kernel_rfl) (by rfl) (fun W hW => ?_) ?_; rotate_left; · (go_simp; try with_reducible rfl)); simp only [Act.put, puA, puZ, puS])
      refine WalkN.done (by kernel_rfl) ?_
      exact ⟨rfl, bk, bg, po, pc, fo, fc, ps, fs, ev, rfl, HP.out, hX3, HBG.out, hS3, hR3⟩
  rintro e _ W ⟨rfl, bk, bg, po, pc, fo, fc, ps, fs, ev, rfl, hP, hX, hbg, hblk, hgr⟩
  dsimp only
  obtain ⟨n, hend, hps, hfs, rfl⟩ := hP.done fun m => by have := head_few HH.out.good HH.out.len HST.out p m; omega
  have HEND := Lib.hid (And.intro hend (And.intro hps hfs))
  have HH := Lib.hid ((HH.out.up hxd.out).up hX)
  have HG := Lib.hid hblk
  have HGR := Lib.hid (fun W' (h : Ext W W') => (hgr.same fun x hx => h.block x hx.2.2).mono (T := fun x => x < W'.heap.size) fun x hx => Nat.lt_of_lt_of_le hx.2.2 h.size)
  clear hX hbg hblk hgr hxd hwd hend hps hfs hP
  have hwm : IntKind.i64.wrap (m : Int) = (m : Int) := IntWalk.i64_in _ (by omega)
  go_wp2_with fail
  obtain ⟨wd, hwd⟩ : ∃ wd, Hid (wd = W.drew) := ⟨_, Lib.hid rfl⟩
  have hxd := Lib.hid (show Ext W wd from by rw [hwd.out]; exact Ext.drew _)
  apply Code.wp_mono (Q := JoinG (β := Nat) wd (WalkP ts T [] p m (.int .i64 0) (.int .i64 10)) _) ?rest2 ?reg2
  case reg2 =>
    have hE := Lib.hid (Ext.refl wd)
    refine region_walkN (Ext wd) (by rw [← hwd.out]; exact Ext.refl _) (by kernel_rfl) (by kernel_rfl) (fun _ _ d _ _ h => by cases h.1) ?_
    rw [← hwd.out]
    have hs : ∀ W, Ext wd W → ∀ i, W.cell? ⟨bs, i, none⟩ = (#[.slice (some ⟨bt, ot, none⟩) ts.length ct] : Array Value)[i]? := fun W h => ((HH.out.up hxd.out).S.below h).cells
    have hp : ∀ W, Ext wd W → ∀ i, W.cell? ⟨bp, i, none⟩ = (#[.string p.t, .string p.i, .string p.r] : Array Value)[i]? := fun W h => ((HH.out.up hxd.out).P.below h).cells
    have HNB := Lib.hid (fun W (hW : Ext wd W) => bookT_any HST.out v5 W ((HH.out.up hxd.out).up hW).L (by have := HH.out.len; omega) HH.out.lok)
    have HWK := Lib.hid (fun W b (hW : Ext wd W) (hB : BookAt W b T) => (HH.out.up hxd.out).walk HH.out.len HH.out.lok HST.out hW b hB m)
    unfold pV at HWK
    (refine WalkN.tk [0, 1, 4, 5, 6] ?_; (iterate 5 ((refine TkN.c _ ?_ (by simp only [gtA, gtS, gtZ]; rfl) (by kernel_rfl) (by kernel_rfl) (by rfl) (fun W hW => ?_) ?_; rotate_left; · (go_simp; try with_reducible rfl)); simp only [Act.put, puA, puZ, puS])); refine TkN.n ?_)
    clear hs hp
    refine WalkN.two 2 11 (by kernel_rfl) ?_ ?_
    refine ⟨_, (by simp only [gtA, gtS, gtZ]; rfl), by rfl, fun K hK => ?_⟩
    go_simp
    refine (HNB.out wd hE.out).mono ?_
    rintro e u1 ⟨bk, rfl, hB0, hx0⟩
    have hX0 := Ext.trans hE.out hx0
    refine hK.out _ _ hX0 ?_
    clear hK
    have HBK := Lib.hid hB0
    have hE := Lib.hid hX0
    clear hx0 hX0 hB0
    ((refine WalkN.take 3 _ ?_ (by simp only [gtA, gtS, gtZ]; rfl) (by kernel_rfl) (by kernel_rfl) (by rfl) (fun W hW => ?_) ?_; rotate_left; · (go_simp; try with_reducible rfl)); simp only [Act.put, puA, puZ, puS])
    refine WalkN.two 7 11 (by kernel_rfl) ?_ ?_
    refine ⟨_, (by simp only [gtA, gtS, gtZ]; rfl), by rfl, fun K hK => ?_⟩
    go_simp
    refine (HWK.out u1 bk hE.out HBK.out).mono ?_
    rintro e u2 ⟨hx1, ps, fs, po, pc, fo, fc, ev, hP1, rfl, hG1⟩
    have hX1 := Ext.trans hE.out hx1
    refine hK.out _ _ hX1 ?_
    clear hK
    have HR := Lib.hid (show GrAt (fun x => wd.heap.size ≤ x ∧ x < u2.heap.size) u2 ps fs (.slice po ps.length pc) (.slice fo fs.length fc) from hG1.mono fun x hx => ⟨Nat.le_trans hE.out.size hx.1, hx.2⟩)
    have HP := Lib.hid hP1
    have HBK := Lib.hid (HBK.out.ext hx1)
    have hE := Lib.hid hX1
    clear hx1 hX1 hP1 hG1
    ((refine WalkN.take 8 _ ?_ (by simp only [gtA, gtS, gtZ]; rfl) (by kernel_rfl) (by kernel_rfl) (by rfl) (fun W hW => ?_) ?_; rotate_left; · (go_simp; try with_reducible rfl)); simp only [Act.put, puA, puZ, puS])
    ((refine WalkN.take 9 _ ?_ (by simp only [gtA, gtS, gtZ]; rfl) (by kernel_rfl) (by kernel_rfl) (by rfl) (fun W hW => ?_) ?_; rotate_left; · (go_simp; try with_reducible rfl)); simp only [Act.put, puA, puZ, puS])
    ((refine WalkN.take 10 _ ?_ (by simp only [gtA, gtS, gtZ]; rfl) (by kernel_rfl) (by kernel_rfl) (by rfl) (fun W hW => ?_) ?_; rotate_left; · (go_simp; try with_reducible rfl)); simp only [Act.put, puA, puZ, puS])
    refine WalkN.one 11 (by kernel_rfl) ?_
    refine ⟨_, (by simp only [gtA, gtS, gtZ]; rfl), by rfl, fun K hK => ?_⟩
    go_simp
    obtain ⟨bg, hbg⟩ : ∃ x, x = u2.heap.size := ⟨_, rfl⟩
    rw [← hbg]
    have hA2 := Ext.alloc u2 (.cells #[.slice none 0 0, .slice none 0 0] 41)
    have hO2 : Blk (u2.alloc (.cells #[.slice none 0 0, .slice none 0 0] 41)) bg #[.slice none 0 0, .slice none 0 0] 41 := by rw [hbg]; exact Blk.made _ _ _
    have hX2 := Ext.trans hE.out hA2
    have HBG := Lib.hid (show wd.heap.size ≤ bg from by have := hE.out.size; omega)
    have HBK := Lib.hid (HBK.out.ext hA2)
    have HR := Lib.hid (show GrAt (fun x => x ≠ bg ∧ wd.heap.size ≤ x ∧ x < (u2.alloc (.cells #[.slice none 0 0, .slice none 0 0] 41)).heap.size) (u2.alloc (.cells #[.slice none 0 0, .slice none 0 0] 41)) ps fs (.slice po ps.length pc) (.slice fo fs.length fc) from (HR.out.same fun x hx => hA2.block x hx.2).mono fun x hx => ⟨fun e => by have := hx.2; omega, hx.1, Nat.lt_of_lt_of_le hx.2 hA2.size⟩)
    refine hK.out _ _ hX2 ?_
    clear hK hbg hA2
    generalize u2.alloc (.cells #[.slice none 0 0, .slice none 0 0] 41) = u3 at *
    have hE := Lib.hid hX2
    have HG := Lib.hid hO2
    clear hO2 hX2
    rotate_left
    refine ⟨_, (by simp only [gtA, gtS, gtZ]; rfl), by rfl, fun K hK => ?_⟩
    go_simp
    obtain ⟨bg, hbg⟩ : ∃ x, x = u1.heap.size := ⟨_, rfl⟩
    rw [← hbg]
    have hA1 := Ext.alloc u1 (.cells #[.slice none 0 0, .slice none 0 0] 41)
    have hO1 : Blk (u1.alloc (.cells #[.slice none 0 0, .slice none 0 0] 41)) bg #[.slice none 0 0, .slice none 0 0] 41 := by rw [hbg]; exact Blk.made _ _ _
    have hX1 := Ext.trans hE.out hA1
    have HBG := Lib.hid (show wd.heap.size ≤ bg from by have := hE.out.size; omega)
    have HBK := Lib.hid (HBK.out.ext hA1)
    refine hK.out _ _ hX1 ?_
    clear hK hbg hA1
    generalize u1.alloc (.cells #[.slice none 0 0, .slice none 0 0] 41) = u2 at *
    have hE := Lib.hid hX1
    have HG := Lib.hid hO1
    clear hO1 hX1
    refine WalkN.one 7 (by kernel_rfl) ?_
    refine ⟨_, (by simp only [gtA, gtS, gtZ]; rfl), by rfl, fun K hK => ?_⟩
    go_simp
    refine (HWK.out u2 bk hE.out HBK.out).mono ?_
    rintro e u3 ⟨hx2, ps, fs, po, pc, fo, fc, ev, hP2, rfl, hG2⟩
    have hX2 := Ext.trans hE.out hx2
    refine hK.out _ _ hX2 ?_
    clear hK
    have HR := Lib.hid (show GrAt (fun x => x ≠ bg ∧ wd.heap.size ≤ x ∧ x < u3.heap.size) u3 ps fs (.slice po ps.length pc) (.slice fo fs.length fc) from hG2.mono fun x hx => ⟨fun e => by have := HG.out.lt; have := hx.1; omega, Nat.le_trans hE.out.size hx.1, hx.2⟩)
    have HG := Lib.hid (HG.out.below hx2)
    have HP := Lib.hid hP2
    have HBK := Lib.hid (HBK.out.ext hx2)
    have hE := Lib.hid hX2
    clear hx2 hX2 hP2 hG2
    ((refine WalkN.take 8 _ ?_ (by simp only [gtA, gtS, gtZ]; rfl) (by kernel_rfl) (by kernel_rfl) (by rfl) (fun W hW => ?_) ?_; rotate_left; · (go_simp; try with_reducible rfl)); simp only [Act.put, puA, puZ, puS])
    ((refine WalkN.take 9 _ ?_ (by simp only [gtA, gtS, gtZ]; rfl) (by kernel_rfl) (by kernel_rfl) (by rfl) (fun W hW => ?_) ?_; rotate_left; · (go_simp; try with_reducible rfl)); simp only [Act.put, puA, puZ, puS])
    ((refine WalkN.take 10 _ ?_ (by simp only [gtA, gtS, gtZ]; rfl) (by kernel_rfl) (by kernel_rfl) (by rfl) (fun W hW => ?_) ?_; rotate_left; · (go_simp; try with_reducible rfl)); simp only [Act.put, puA, puZ, puS])
    rotate_left
    refine ⟨_, (by simp only [gtA, gtS, gtZ]; rfl), by rfl, fun K hK => ?_⟩
    go_simp
    obtain ⟨bg, hbg⟩ : ∃ x, x = wd.heap.size := ⟨_, rfl⟩
    rw [← hbg]
    have hA0 := Ext.alloc wd (.cells #[.slice none 0 0, .slice none 0 0] 41)
    have hO0 : Blk (wd.alloc (.cells #[.slice none 0 0, .slice none 0 0] 41)) bg #[.slice none 0 0, .slice none 0 0] 41 := by rw [hbg]; exact Blk.made _ _ _
    have hX0 := Ext.trans hE.out hA0
    have HBG := Lib.hid (show wd.heap.size ≤ bg from by have := hE.out.size; omega)
    refine hK.out _ _ hX0 ?_
    clear hK hbg hA0
    generalize wd.alloc (.cells #[.slice none 0 0, .slice none 0 0] 41) = u1 at *
    have hE := Lib.hid hX0
    have HG := Lib.hid hO0
    clear hO0 hX0
    refine WalkN.one 2 (by kernel_rfl) ?_
    refine ⟨_, (by simp only [gtA, gtS, gtZ]; rfl), by rfl, fun K hK => ?_⟩
    go_simp
    refine (HNB.out u1 hE.out).mono ?_
    rintro e u2 ⟨bk, rfl, hB1, hx1⟩
    have hX1 := Ext.trans hE.out hx1
    refine hK.out _ _ hX1 ?_
    clear hK
    have HBK := Lib.hid hB1
    have HG := Lib.hid (HG.out.below hx1)
    have hE := Lib.hid hX1
    clear hx1 hX1 hB1
    ((refine WalkN.take 3 _ ?_ (by simp only [gtA, gtS, gtZ]; rfl) (by kernel_rfl) (by kernel_rfl) (by rfl) (fun W hW => ?_) ?_; rotate_left; · (go_simp; try with_reducible rfl)); simp only [Act.put, puA, puZ, puS])
    refine WalkN.one 7 (by kernel_rfl) ?_
    refine ⟨_, (by simp only [gtA, gtS, gtZ]; rfl), by rfl, fun K hK => ?_⟩
    go_simp
    refine (HWK.out u2 bk hE.out HBK.out).mono ?_
    rintro e u3 ⟨hx2, ps, fs, po, pc, fo, fc, ev, hP2, rfl, hG2⟩
    have hX2 := Ext.trans hE.out hx2
    refine hK.out _ _ hX2 ?_
    clear hK
    have HR := Lib.hid (show GrAt (fun x => x ≠ bg ∧ wd.heap.size ≤ x ∧ x < u3.heap.size) u3 ps fs (.slice po ps.length pc) (.slice fo fs.length fc) from hG2.mono fun x hx => ⟨fun e => by have := HG.out.lt; have := hx.1; omega, Nat.le_trans hE.out.size hx.1, hx.2⟩)
    have HG := Lib.hid (HG.out.below hx2)
    have HP := Lib.hid hP2
    have HBK := Lib.hid (HBK.out.ext hx2)
    have hE := Lib.hid hX2
    clear hx2 hX2 hP2 hG2
    ((refine WalkN.take 8 _ ?_ (by simp only [gtA, gtS, gtZ]; rfl) (by kernel_rfl) (by kernel_rfl) (by rfl) (fun W hW => ?_) ?_; rotate_left; · (go_simp; try with_reducible rfl)); simp only [Act.put, puA, puZ, puS])
    ((refine WalkN.take 9 _ ?_ (by simp only [gtA, gtS, gtZ]; rfl) (by kernel_rfl) (by kernel_rfl) (by rfl) (fun W hW => ?_) ?_; rotate_left; · (go_simp; try with_reducible rfl)); simp only [Act.put, puA, puZ, puS])
    ((refine WalkN.take 10 _ ?_ (by simp only [gtA, gtS, gtZ]; rfl) (by kernel_rfl) (by kernel_rfl) (by rfl) (fun W hW => ?_) ?_; rotate_left; · (go_simp; try with_reducible rfl)); simp only [Act.put, puA, puZ, puS])
    rotate_left
    all_goals
      refine WalkN.one 12 (by kernel_rfl) ?_
      refine ⟨_, (by simp only [gtA, gtS, gtZ]; rfl), by rfl, fun K hK => ?_⟩
      have hg := HG.out.cells
      have hf := HG.out.free
      go_simp
      have hS3 := (HG.out.set_to (cs' := #[.slice po ps.length pc, .slice none 0 0]) 0 (.slice po ps.length pc) rfl).set_to (cs' := #[.slice po ps.length pc, .slice fo fs.length fc]) 1 (.slice fo fs.length fc) rfl
      have hX3 : Ext wd ((u3.setCell ⟨bg, 0, none⟩ (.slice po ps.length pc)).setCell ⟨bg, 1, none⟩ (.slice fo fs.length fc)) := Below.setCell (Below.setCell hE.out (p := ⟨bg, 0, none⟩) HBG.out _) (p := ⟨bg, 1, none⟩) HBG.out _
      have hR3 := (HR.out.same (w' := ((u3.setCell ⟨bg, 0, none⟩ (.slice po ps.length pc)).setCell ⟨bg, 1, none⟩ (.slice fo fs.length fc))) fun x hx => by rw [Below.heap_setCell _ _ _ x hx.1, Below.heap_setCell _ _ _ x hx.1]).mono (T := fun x => x ≠ bg ∧ wd.heap.size ≤ x ∧ x < ((u3.setCell ⟨bg, 0, none⟩ (.slice po ps.length pc)).setCell ⟨bg, 1, none⟩ (.slice fo fs.length fc)).heap.size) fun x hx => ⟨hx.1, hx.2.1, by simpa using hx.2.2⟩
      refine hK.out _ _ hX3 ?_
      clear hK hg hf
      generalize (u3.setCell ⟨bg, 0, none⟩ (.slice po ps.length pc)).setCell ⟨bg, 1, none⟩ (.slice fo fs.length fc) = u4 at *
      ((refine WalkN.take 13 _ ?_ (by simp only [gtA, gtS, gtZ]; rfl) (by kernel_rfl) (by kernel_rfl) (by rfl) (fun W hW => ?_) ?_; rotate_left; · (go_simp; try with_reducible rfl)); simp only [Act.put, puA, puZ, puS])
      refine WalkN.done (by kernel_rfl) ?_
      exact ⟨rfl, bk, bg, po, pc, fo, fc, ps, fs, ev, rfl, HP.out, hX3, HBG.out, hS3, hR3⟩
  rintro e _ W2 ⟨rfl, bk2, bg2, po2, pc2, fo2, fc2, ps2, fs2, ev2, rfl, hP, hX, hbg, hblk, hgr⟩
  dsimp only
  have HH := Lib.hid ((HH.out.up hxd.out).up hX)
  have hXa := Ext.trans hxd.out hX
  have HGa := Lib.hid (HG.out.below hXa)
  have HGb := Lib.hid hblk
  have HRa := Lib.hid (HGR.out W2 hXa)
  have HRb := Lib.hid (show GrAt (fun x => x < W2.heap.size) W2 ps2 fs2 (.slice po2 ps2.length pc2) (.slice fo2 fs2.length fc2) from hgr.mono fun x hx => hx.2.2)
  have ga := HGa.out.cells
  have gb := HGb.out.cells
  clear hX hXa hbg hblk hgr hxd hwd HG HGR
  have HL := Lib.hid (show ps.length ≤ 750 from by have := head_few HH.out.good HH.out.len HST.out p n; rw [HEND.out.2.1]; exact this)
  by_cases hlt : (m : Int) < (ps.length : Int)
  · have hs : ps2 = [] ∧ fs2 = [] ∧ ev2 = .int .i64 10 := by
      rcases hP with ⟨n2, he2, -⟩ | ⟨-, h1, h2, h3⟩
      · exact absurd he2 (HEND.out.1.less (by rw [← HEND.out.2.1]; exact hlt))
      · exact ⟨h1, h2, h3⟩
    obtain ⟨rfl, rfl, rfl⟩ := hs
    clear hP
    go_wp2_with fail
    go_ret
    exact ⟨rfl, HH.out.X⟩
  · have hs : ps2 = ps ∧ fs2 = fs ∧ ev2 = .int .i64 0 := by
      rcases hP with ⟨n2, he2, h1, h2, h3⟩ | ⟨hl, -⟩
      · obtain rfl := he2.uniq HEND.out.1
        exact ⟨h1.trans HEND.out.2.1.symm, h2.trans HEND.out.2.2.symm, h3⟩
      · exact absurd hl (HEND.out.1.more (by rw [← HEND.out.2.1]; omega)).notLong
    obtain ⟨rfl, rfl, rfl⟩ := hs
    have HSG := Lib.hid (sameG_any _ _ _ _ _ _ W2 HRa.out HRb.out)
    clear hP
    go_wp2_with fail
    refine HSG.out.mono ?_
    rintro e w20 ⟨rfl, hx20⟩
    have HX := Lib.hid (show Below w.heap.size w w20 from HH.out.X.trans (Below.mono hx20 HH.out.X.size))
    clear hx20 HSG ga gb
    go_wp2_with fail
    go_ret
    exact ⟨rfl, HX.out⟩
end Go.Proofs.Ytjdigpfipmckhaa
