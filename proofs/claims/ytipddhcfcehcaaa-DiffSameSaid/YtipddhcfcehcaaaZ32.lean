/- The walk of sentrylaw07's fixed. Tuples in rows; the walks of Breaks, SameTuples, few, Check. The walks of SameTuples, few, Check, Safe. No condition: lemmas. -/
import Derived.Test.YtipddhcfcehcaaaZ31
import Derived.Test.YtipddhcfcehcaaaZ23
import Derived.Test.YtipddhcfcehcaaaZ26
import Derived.Test.YtipddhcfcehcaaaZ28
namespace Go.Proofs.Ytipddhcfcehcaaa
open Go Go.RowKit Go.Maps

theorem ch_eql (a b : Ch) (W : World) : (binOp BinOp.eql 63 (chV a) (chV b)).run Try.prog W = .ok (.bool (decide (a = b))) W := by
  obtain ⟨a0, a1, a2⟩ := a
  obtain ⟨b0, b1, b2⟩ := b
  unfold chV
  dsimp only
  go_simp
  simp only [ba_toList]
  by_cases h0 : a0 = b0 <;> by_cases h1 : a1 = b1 <;> by_cases h2 : a2 = b2 <;> simp [h0, h1, h2]
theorem ch_neq (a b : Ch) (W : World) : (binOp BinOp.neq 63 (chV a) (chV b)).run Try.prog W = .ok (.bool (decide (a ≠ b))) W := by
  obtain ⟨a0, a1, a2⟩ := a
  obtain ⟨b0, b1, b2⟩ := b
  unfold chV
  dsimp only
  go_simp
  simp only [ba_toList]
  by_cases h0 : a0 = b0 <;> by_cases h1 : a1 = b1 <;> by_cases h2 : a2 = b2 <;> simp [h0, h1, h2]
/-- A schema of a small bulk is not too great. -/
theorem SOk.bk {ts : List TyS} (h : schBk ts ≤ 1048576) (hok : ∀ t ∈ ts, t.Ok) : SOk ts := by
  have h1 := names_bk ts
  have h2 := schB_bk ts
  have h3 : ∀ l : List TyS, l.length ≤ sumN tyBk l := fun l => by
    induction l with
    | nil => simp
    | cons a l ih => rw [List.length_cons, sumN, tyBk_eq]; omega
  refine ⟨hok, by omega, sz_sch h, by omega, by omega, by have := h3 ts; unfold schBk at h; omega, fun t ht r hr => ?_⟩
  have k1 := sumN_mem tyBk ht
  have k2 := sumN_mem relBk hr
  have k3 := wt_bk r.2
  unfold schBk at h
  have k4 := tyBk_eq t
  have k5 := relBk_eq r
  omega
def txA : ByteArray := ⟨#[116, 121, 112, 101, 32, 100, 111, 99, 10, 97, 32, 61, 32, 116, 104, 105, 115]⟩
def txB : ByteArray := ⟨#[116, 121, 112, 101, 32, 100, 111, 99, 10, 98, 32, 61, 32, 116, 104, 105, 115]⟩
def itA : List PIt := [.ty docB, .rel ⟨#[97]⟩ ⟨#[116, 104, 105, 115]⟩ []]
def itB : List PIt := [.ty docB, .rel ⟨#[98]⟩ ⟨#[116, 104, 105, 115]⟩ []]
def lnA : List ByteArray := [⟨#[116, 121, 112, 101, 32, 100, 111, 99]⟩, ⟨#[97, 32, 61, 32, 116, 104, 105, 115]⟩]
def lnB : List ByteArray := [⟨#[116, 121, 112, 101, 32, 100, 111, 99]⟩, ⟨#[98, 32, 61, 32, 116, 104, 105, 115]⟩]
def tsA : List TyS := [⟨docB, [(⟨#[97]⟩, .mk 1 ⟨#[]⟩ ⟨#[]⟩ [])]⟩]
def tsB : List TyS := [⟨docB, [(⟨#[98]⟩, .mk 1 ⟨#[]⟩ ⟨#[]⟩ [])]⟩]
theorem linesA : linesD txA = lnA := by kernel_rfl
theorem linesB : linesD txB = lnB := by kernel_rfl
theorem stepA : itA.foldl stepD [] = tsA := by kernel_rfl
theorem stepB : itB.foldl stepD [] = tsB := by kernel_rfl
theorem lnsA : (lnA.zip itA).all (fun p => lnOkB p.1 p.2) = true := by kernel_rfl
theorem lnsB : (lnB.zip itB).all (fun p => lnOkB p.1 p.2) = true := by kernel_rfl
theorem fitsA : itA.all PIt.fitB = true := by kernel_rfl
theorem fitsB : itB.all PIt.fitB = true := by kernel_rfl
theorem chkA : chk06 tsA = 0 := by kernel_rfl
theorem chkB : chk06 tsB = 0 := by kernel_rfl
theorem okA : ∀ t ∈ tsA, t.Ok := by
  intro t ht
  obtain rfl := List.mem_singleton.1 ht
  refine ⟨by decide, fun r hr => ?_⟩
  obtain rfl := List.mem_singleton.1 hr
  exact ⟨by decide, by simp [RT.Ok, okL]; decide⟩
theorem okB : ∀ t ∈ tsB, t.Ok := by
  intro t ht
  obtain rfl := List.mem_singleton.1 ht
  refine ⟨by decide, fun r hr => ?_⟩
  obtain rfl := List.mem_singleton.1 hr
  exact ⟨by decide, by simp [RT.Ok, okL]; decide⟩
def cA : Ch := ⟨2, ⟨docB, ⟨#[97]⟩⟩⟩
def cB : Ch := ⟨1, ⟨docB, ⟨#[98]⟩⟩⟩
theorem diffAB : diffL tsA tsB = [cA, cB] := by kernel_rfl
theorem upAB : UpC [cA, cB] := by
  refine List.pairwise_cons.2 ⟨fun b hb => ?_, List.pairwise_singleton _ _⟩
  obtain rfl := List.mem_singleton.1 hb
  kernel_rfl

set_option maxRecDepth 100000 in
set_option maxHeartbeats 1000000 in
theorem fixed07_any (w : World) : Calls Try.prog 7 #[] w fun e w' => e = .returned (.bool true) ∧ Ext w w' := by
  have HPA := Lib.hid (parse_any txA itA w (by decide) (by rw [linesA]; rfl) (by rw [linesA]; exact lnsOk_of lnsA) (fits_of fitsA) (fun _ => ⟨docB, rfl⟩) (by decide))
  rw [stepA] at HPA
  unfold txA at HPA
  go_enter Try.func7, Try.ntmps7
  go_wp2_with fail
  refine HPA.out.mono ?_
  rintro e w1 ⟨tv, rfl, hty, hb1⟩
  obtain ⟨aot, ct, rfl, -, -, -⟩ := hty.rows
  have x12 := Ext.alloc w1 (.cells #[.slice aot tsA.length ct] 24)
  have HT2 := Lib.hid ((hty.mono (S' := (· < w1.heap.size)) fun b hb => hb.2).up x12)
  have HS2 := Lib.hid (Blk.made w1 #[.slice aot tsA.length ct] 24)
  have HX2 := Lib.hid (show Ext w _ from Ext.trans hb1 x12)
  have HPB := Lib.hid (parse_any txB itB (w1.alloc (.cells #[.slice aot tsA.length ct] 24)) (by decide) (by rw [linesB]; rfl) (by rw [linesB]; exact lnsOk_of lnsB) (fits_of fitsB) (fun _ => ⟨docB, rfl⟩) (by decide))
  rw [stepB] at HPB
  unfold txB at HPB
  clear hty hb1 HPA x12
  go_wp2_with fail
  refine HPB.out.mono ?_
  rintro e w3 ⟨uv, rfl, hty, hb3⟩
  obtain ⟨aou, cu, rfl, -, -, -⟩ := hty.rows
  have x34 := Ext.alloc w3 (.cells #[.slice aou tsB.length cu] 24)
  have HU4 := Lib.hid ((hty.mono (S' := (· < w3.heap.size)) fun b hb => hb.2).up x34)
  have HV4 := Lib.hid (Blk.made w3 #[.slice aou tsB.length cu] 24)
  have HT4 := Lib.hid (HT2.out.up (Ext.trans hb3 x34))
  have HS4 := Lib.hid (HS2.out.below (Ext.trans hb3 x34))
  have HX4 := Lib.hid (show Ext w _ from HX2.out.trans (Ext.trans hb3 x34))
  have HDF := Lib.hid (diff_ok tsA tsB _ _ _ HT4.out HU4.out (SOk.bk (by decide) okA) (SOk.bk (by decide) okB) chkA chkB)
  have s4 := HS4.out.cells
  have v4 := HV4.out.cells
  clear hty hb3 HPB x34 HT2 HS2 HX2
  go_wp2_with fail
  refine HDF.out.mono ?_
  rintro e w5 ⟨v5, cs, rfl, hup, hp, ho, hb5⟩
  obtain rfl : cs = [cA, cB] := hup.eq upAB fun x => by rw [hp.mem_iff, diffAB]
  have HX5 := Lib.hid (HX4.out.trans hb5)
  obtain ⟨ao5, n5, c5, rfl, h5, -, -⟩ := ho.sl.len
  obtain rfl : n5 = 2 := by
    have : (chcs [cA, cB]).length = 6 := rfl
    omega
  obtain ⟨ao', n', c', hv, -, -, -, -, hcl⟩ := ho.sl
  cases hv
  obtain ⟨b, off, rfl, -, hcl⟩ := hcl (by simp [chcs, chC])
  have d0 := hcl 0 _ rfl
  rw [Nat.add_zero] at d0
  have d1 := hcl 1 _ rfl
  have d2 := hcl 2 _ rfl
  have d3 := hcl 3 _ rfl
  have d4 := hcl 4 _ rfl
  have d5 := hcl 5 _ rfl
  have e1 := fun W => ch_eql cA cA W
  have e2 := fun W => ch_eql cB cB W
  unfold cA cB docB chV at *
  dsimp only at d0 d1 d2 d3 d4 d5 e1 e2
  clear s4 v4 HDF hup hp ho hb5 hcl h5
  go_wp2_with fail
  go_ret
  exact ⟨rfl, HX5.out⟩

end Go.Proofs.Ytipddhcfcehcaaa
namespace Go.Proofs.Ytipddhcfcehcaaa
open Go Go.RowKit Go.Maps

def tuC (t : Tup) : List Value := [.string t.o.t, .string t.o.i, .string t.o.r, .string t.s.t, .string t.s.i, .string t.s.r]
def tuCs (l : List Tup) : List Value := l.flatMap tuC
theorem tuC_length (t : Tup) : (tuC t).length = 6 := rfl
theorem tuCs_length (l : List Tup) : (tuCs l).length = l.length * 6 := flat_length tuC_length l
theorem tuCs_append (a b : List Tup) : tuCs (a ++ b) = tuCs a ++ tuCs b := by unfold tuCs; rw [List.flatMap_append]
theorem tupT : ElemT Try.prog 25 35 6 96 := ElemT.mk' Try.underlying25 (show _ = some (some (.agg #[.string ByteArray.empty, .string ByteArray.empty, .string ByteArray.empty, .string ByteArray.empty, .string ByteArray.empty, .string ByteArray.empty]), 6, 96) by kernel_rfl) rfl (by decide)
theorem tups_rows {S : Nat → Prop} {w : World} {v : Value} {l : List Tup} (h : Sl S w 6 v (tuCs l)) :
    ∃ ao c, v = .slice ao l.length c ∧ l.length ≤ c ∧ c ≤ 9223372036854775807 ∧ ∀ i (hi : i < l.length), ∃ b off, ao = some ⟨b, off, none⟩ ∧ S b ∧ w.cell? ⟨b, off + i * 6, none⟩ = some (.string l[i].o.t) ∧ w.cell? ⟨b, off + i * 6 + 1, none⟩ = some (.string l[i].o.i) ∧ w.cell? ⟨b, off + i * 6 + 2, none⟩ = some (.string l[i].o.r) ∧
      w.cell? ⟨b, off + i * 6 + 3, none⟩ = some (.string l[i].s.t) ∧ w.cell? ⟨b, off + i * 6 + 4, none⟩ = some (.string l[i].s.i) ∧ w.cell? ⟨b, off + i * 6 + 5, none⟩ = some (.string l[i].s.r) := by
  obtain ⟨ao, c, rfl, h1, h2, hc⟩ := Sl.rows tuC_length (by decide) (show Sl S w 6 v (l.flatMap tuC) from h)
  refine ⟨ao, c, rfl, h1, h2, fun i hi => ?_⟩
  obtain ⟨b, off, rfl, hb, hc⟩ := hc (by omega)
  exact ⟨b, off, rfl, hb, hc i hi 0 _ rfl, hc i hi 1 _ rfl, hc i hi 2 _ rfl, hc i hi 3 _ rfl, hc i hi 4 _ rfl, hc i hi 5 _ rfl⟩
/-- Which tuples break. -/
def brkL (ts : List TyS) (l : List Tup) : List Tup := l.filter fun t => decide (wrN ts t ≠ 0)
theorem brkL_take {ts : List TyS} {l : List Tup} {i : Nat} (hi : i < l.length) : brkL ts (l.take (i + 1)) = brkL ts (l.take i) ++ if decide (wrN ts l[i] ≠ 0) = true then [l[i]] else [] := by
  unfold brkL
  rw [List.take_succ_eq_append_getElem hi, List.filter_append]
  by_cases h : wrN ts l[i] = 0 <;> simp [h]
theorem brkL_le (ts : List TyS) (l : List Tup) : (brkL ts l).length ≤ l.length := List.length_filter_le _ _
theorem tup_neq (a b : Tup) (W : World) : (binOp BinOp.neq 35 (tV a) (tV b)).run Try.prog W = .ok (.bool (decide (a ≠ b))) W := by
  obtain ⟨⟨a1, a2, a3⟩, ⟨a4, a5, a6⟩⟩ := a
  obtain ⟨⟨b1, b2, b3⟩, ⟨b4, b5, b6⟩⟩ := b
  unfold tV
  dsimp only
  go_simp
  simp only [ba_toList]
  by_cases h1 : a1 = b1
  · by_cases h2 : a2 = b2
    · by_cases h3 : a3 = b3
      · by_cases h4 : a4 = b4
        · by_cases h5 : a5 = b5
          · by_cases h6 : a6 = b6 <;> simp [h1, h2, h3, h4, h5, h6]
          · simp [h1, h2, h3, h4, h5]
        · simp [h1, h2, h3, h4]
      · simp [h1, h2, h3]
    · simp [h1, h2]
  · simp [h1]

set_option maxRecDepth 100000 in
set_option maxHeartbeats 1000000 in
theorem breaksP_any (ts : List TyS) (tv : Value) (l : List Tup) (lv : Value) (w : World) (h : TysAt (· < w.heap.size) w ts tv) (k : SOk ts) (hu : uniqOk ts = true) (hl : Sl (· < w.heap.size) w 6 lv (tuCs l)) (hlo : ∀ t ∈ l, t.Ok) (hn : l.length ≤ 100000) :
    Calls Try.prog 14 #[.agg #[tv], lv] w fun e w' => ∃ v, e = .returned v ∧ Own w' w.heap.size 35 6 v (tuCs (brkL ts l)) ∧ Ext w w' := by
  obtain ⟨aot, ct, rfl, -, -, -⟩ := h.rows
  obtain ⟨ao, c, rfl, hlc, hcm, hcell⟩ := tups_rows hl
  have HC := Lib.hid hcell
  have HLO := Lib.hid hlo
  have HN := Lib.hid hn
  have HK := Lib.hid k
  have HU := Lib.hid hu
  have HX := Lib.hid (Ext.alloc w (.cells #[.slice aot ts.length ct] 24))
  have HSB := Lib.hid (Blk.made w #[.slice aot ts.length ct] 24)
  have HTY := Lib.hid h
  clear h k hu hl hlo hn hcell
  go_enter Try.func14, Try.ntmps14
  go_wp2_with fail
  obtain ⟨wb, hwb⟩ : ∃ x, x = w.alloc (.cells #[.slice aot ts.length ct] 24) := ⟨_, rfl⟩
  have HZB := Lib.hid (show wb.heap.size = w.heap.size + 1 from by rw [hwb]; simp)
  rw [← hwb] at HX HSB ⊢
  clear hwb
  go_loopw [5, 10] (fun ov iv wr => ∃ i : Nat, i ≤ l.length ∧ iv = .int .i64 i ∧ Own wr (w.heap.size + 1) 35 6 ov (tuCs (brkL ts (l.take i))) ∧ Ext wb wr) (fun _ iv _ => l.length - (intOf iv).toNat)
  case atStart => exact ⟨0, by omega, rfl, Own.nil _ _ _ _, Ext.refl _⟩
  case round =>
    obtain ⟨i, hi, rfl, how, hext⟩ := hrel
    have HOW := Lib.hid how
    have HE := Lib.hid hext
    have HBW := Lib.hid (show Ext w wr from HX.out.trans hext)
    clear how
    by_cases hlt : i < l.length
    · have HTK := Lib.hid (brkL_take (ts := ts) hlt)
      have HLE := Lib.hid (show (brkL ts (l.take i)).length ≤ 100000 from by
        have h1 := brkL_le ts (l.take i)
        have := HN.out
        rw [List.length_take] at h1
        omega)
      have HTO := Lib.hid (HLO.out _ (List.getElem_mem hlt))
      obtain ⟨b, off, rfl, hb, k0, k1, k2, k3, k4, k5⟩ := HC.out i hlt
      have d0 := (HBW.out.cell (a := ⟨b, off + i * 6, none⟩) k0)
      have d1 := (HBW.out.cell (a := ⟨b, off + i * 6 + 1, none⟩) k1)
      have d2 := (HBW.out.cell (a := ⟨b, off + i * 6 + 2, none⟩) k2)
      have d3 := (HBW.out.cell (a := ⟨b, off + i * 6 + 3, none⟩) k3)
      have d4 := (HBW.out.cell (a := ⟨b, off + i * 6 + 4, none⟩) k4)
      have d5 := (HBW.out.cell (a := ⟨b, off + i * 6 + 5, none⟩) k5)
      generalize l[i] = t at *
      generalize brkL ts (l.take i) = bl at *
      obtain ⟨⟨t0, t1, t2⟩, ⟨t3, t4, t5⟩⟩ := t
      dsimp only at d0 d1 d2 d3 d4 d5
      have x1 := Ext.alloc wr (.cells #[.string t0, .string t1, .string t2, .string t3, .string t4, .string t5] 35)
      have HE1 := Lib.hid (show Ext wb _ from hext.trans x1)
      have HTB := Lib.hid (Blk.made wr #[.string t0, .string t1, .string t2, .string t3, .string t4, .string t5] 35)
      have HO1 := Lib.hid (HOW.out.below x1)
      have HW := Lib.hid (writesP_any ts _ ⟨⟨t0, t1, t2⟩, ⟨t3, t4, t5⟩⟩ _ (HTY.out.up (show Ext w _ from HX.out.trans HE1.out)) HK.out.ok HU.out (by have := HK.out.lr; omega) HTO.out)
      have tb1 := HTB.out.cells
      have sb1 := (HSB.out.below HE1.out).cells
      unfold tV at HW
      dsimp only at HW
      clear k0 k1 k2 k3 k4 k5 hext x1 HOW
      by_cases hz : wrN ts ⟨⟨t0, t1, t2⟩, ⟨t3, t4, t5⟩⟩ = 0
      · have HT0 := Lib.hid (show brkL ts (l.take (i + 1)) = bl from by rw [HTK.out, if_neg (by simp [hz]), List.append_nil])
        rw [hz] at HW
        clear hz
        go_wp2_with fail
        refine HW.out.mono ?_
        rintro e w4 ⟨rfl, hb4⟩
        have HE4 := Lib.hid (HE1.out.trans hb4)
        have HO4 := Lib.hid (HO1.out.below hb4)
        clear hb4 HW d0 d1 d2 d3 d4 d5 tb1 sb1
        go_wp2_with fail
        go_roundw
        case rel => exact ⟨i + 1, by omega, by go_num, by rw [HT0.out]; exact HO4.out, HE4.out⟩
        case measure => simp [intOf]; omega
      · have HT0 := Lib.hid (show brkL ts (l.take (i + 1)) = bl ++ [⟨⟨t0, t1, t2⟩, ⟨t3, t4, t5⟩⟩] from by rw [HTK.out, if_pos (by simp [hz])])
        have hne : (wrN ts ⟨⟨t0, t1, t2⟩, ⟨t3, t4, t5⟩⟩ != 0) = true := by rw [bne_iff_ne]; exact hz
        clear hz
        generalize wrN ts ⟨⟨t0, t1, t2⟩, ⟨t3, t4, t5⟩⟩ = wn at *
        go_wp2_with fail
        refine HW.out.mono ?_
        rintro e w4 ⟨rfl, hb4⟩
        have HE4 := Lib.hid (HE1.out.trans hb4)
        have HO4 := Lib.hid (HO1.out.below hb4)
        have tb4 := (HTB.out.below hb4).cells
        have HZ4 := Lib.hid (show w.heap.size + 1 ≤ w4.heap.size from by have := HSB.out.lt; have := HE4.out.size; omega)
        clear hb4 HW d0 d1 d2 d3 d4 d5 tb1 sb1
        go_wp2_with (at_builtin; go_must (refine wpList_own_lit tupT rfl (.tmp 18) (.tmp 20) rfl rfl HO4.out rfl rfl (by simp [Value.oneCell']) (by have := HLE.out; rw [tuCs_length]; simp; omega) (by have := HLE.out; rw [tuCs_length]; simp; omega) HZ4.out ?_; intro v5 w5 hown5 hb5 hgr5; have HO5 := Lib.hid (show Own w5 (w.heap.size + 1) 35 6 v5 (tuCs (bl ++ [⟨⟨t0, t1, t2⟩, ⟨t3, t4, t5⟩⟩])) from by rw [tuCs_append]; exact hown5); have HE5 := Lib.hid (show Ext wb w5 from Below.trans HE4.out (hb5.mono (Nat.le_of_eq HZB.out))); clear hown5 hb5 hgr5))
        go_roundw
        case rel => exact ⟨i + 1, by omega, by go_num, by rw [HT0.out]; exact HO5.out, HE5.out⟩
        case measure => simp [intOf]; omega
    · obtain rfl : i = l.length := by omega
      rw [List.take_length] at HOW
      clear hext
      go_wp2_with fail
      go_ret
      exact ⟨_, rfl, HOW.out.mono (Nat.le_succ _), HBW.out⟩

set_option maxRecDepth 100000 in
set_option maxHeartbeats 1000000 in
theorem breaksD_any (ts : List TyS) (tv : Value) (l : List Tup) (lv : Value) (w : World) (h : TysAt (· < w.heap.size) w ts tv) (k : SOk ts) (hu : uniqOk ts = true) (hl : Sl (· < w.heap.size) w 6 lv (tuCs l)) (hlo : ∀ t ∈ l, t.Ok) (hn : l.length ≤ 100000) :
    Calls Try.prog 11 #[.agg #[tv], lv] w fun e w' => ∃ v, e = .returned v ∧ Own w' w.heap.size 35 6 v (tuCs (brkL ts l)) ∧ Ext w w' := by
  obtain ⟨aot, ct, rfl, -, -, -⟩ := h.rows
  obtain ⟨ao, c, rfl, hlc, hcm, hcell⟩ := tups_rows hl
  have HC := Lib.hid hcell
  have HLO := Lib.hid hlo
  have HN := Lib.hid hn
  have HK := Lib.hid k
  have HU := Lib.hid hu
  have HX := Lib.hid (Ext.alloc w (.cells #[.slice aot ts.length ct] 24))
  have HSB := Lib.hid (Blk.made w #[.slice aot ts.length ct] 24)
  have HTY := Lib.hid h
  clear h k hu hl hlo hn hcell
  go_enter Try.func11, Try.ntmps11
  go_wp2_with fail
  obtain ⟨wb, hwb⟩ : ∃ x, x = w.alloc (.cells #[.slice aot ts.length ct] 24) := ⟨_, rfl⟩
  have HZB := Lib.hid (show wb.heap.size = w.heap.size + 1 from by rw [hwb]; simp)
  rw [← hwb] at HX HSB ⊢
  clear hwb
  go_loopw [5, 10] (fun ov iv wr => ∃ i : Nat, i ≤ l.length ∧ iv = .int .i64 i ∧ Own wr (w.heap.size + 1) 35 6 ov (tuCs (brkL ts (l.take i))) ∧ Ext wb wr) (fun _ iv _ => l.length - (intOf iv).toNat)
  case atStart => exact ⟨0, by omega, rfl, Own.nil _ _ _ _, Ext.refl _⟩
  case round =>
    obtain ⟨i, hi, rfl, how, hext⟩ := hrel
    have HOW := Lib.hid how
    have HE := Lib.hid hext
    have HBW := Lib.hid (show Ext w wr from HX.out.trans hext)
    clear how
    by_cases hlt : i < l.length
    · have HTK := Lib.hid (brkL_take (ts := ts) hlt)
      have HLE := Lib.hid (show (brkL ts (l.take i)).length ≤ 100000 from by
        have h1 := brkL_le ts (l.take i)
        have := HN.out
        rw [List.length_take] at h1
        omega)
      have HTO := Lib.hid (HLO.out _ (List.getElem_mem hlt))
      obtain ⟨b, off, rfl, hb, k0, k1, k2, k3, k4, k5⟩ := HC.out i hlt
      have d0 := (HBW.out.cell (a := ⟨b, off + i * 6, none⟩) k0)
      have d1 := (HBW.out.cell (a := ⟨b, off + i * 6 + 1, none⟩) k1)
      have d2 := (HBW.out.cell (a := ⟨b, off + i * 6 + 2, none⟩) k2)
      have d3 := (HBW.out.cell (a := ⟨b, off + i * 6 + 3, none⟩) k3)
      have d4 := (HBW.out.cell (a := ⟨b, off + i * 6 + 4, none⟩) k4)
      have d5 := (HBW.out.cell (a := ⟨b, off + i * 6 + 5, none⟩) k5)
      generalize l[i] = t at *
      generalize brkL ts (l.take i) = bl at *
      obtain ⟨⟨t0, t1, t2⟩, ⟨t3, t4, t5⟩⟩ := t
      dsimp only at d0 d1 d2 d3 d4 d5
      have x1 := Ext.alloc wr (.cells #[.string t0, .string t1, .string t2, .string t3, .string t4, .string t5] 35)
      have HE1 := Lib.hid (show Ext wb _ from hext.trans x1)
      have HTB := Lib.hid (Blk.made wr #[.string t0, .string t1, .string t2, .string t3, .string t4, .string t5] 35)
      have HO1 := Lib.hid (HOW.out.below x1)
      have HW := Lib.hid (writes06_any ts _ ⟨⟨t0, t1, t2⟩, ⟨t3, t4, t5⟩⟩ _ (HTY.out.up (show Ext w _ from HX.out.trans HE1.out)) HU.out HTO.out)
      have tb1 := HTB.out.cells
      have sb1 := (HSB.out.below HE1.out).cells
      unfold tV at HW
      dsimp only at HW
      clear k0 k1 k2 k3 k4 k5 hext x1 HOW
      by_cases hz : wrN ts ⟨⟨t0, t1, t2⟩, ⟨t3, t4, t5⟩⟩ = 0
      · have HT0 := Lib.hid (show brkL ts (l.take (i + 1)) = bl from by rw [HTK.out, if_neg (by simp [hz]), List.append_nil])
        rw [hz] at HW
        clear hz
        go_wp2_with fail
        refine HW.out.mono ?_
        rintro e w4 ⟨rfl, hb4⟩
        have HE4 := Lib.hid (HE1.out.trans hb4)
        have HO4 := Lib.hid (HO1.out.below hb4)
        clear hb4 HW d0 d1 d2 d3 d4 d5 tb1 sb1
        go_wp2_with fail
        go_roundw
        case rel => exact ⟨i + 1, by omega, by go_num, by rw [HT0.out]; exact HO4.out, HE4.out⟩
        case measure => simp [intOf]; omega
      · have HT0 := Lib.hid (show brkL ts (l.take (i + 1)) = bl ++ [⟨⟨t0, t1, t2⟩, ⟨t3, t4, t5⟩⟩] from by rw [HTK.out, if_pos (by simp [hz])])
        have hne : (wrN ts ⟨⟨t0, t1, t2⟩, ⟨t3, t4, t5⟩⟩ != 0) = true := by rw [bne_iff_ne]; exact hz
        clear hz
        generalize wrN ts ⟨⟨t0, t1, t2⟩, ⟨t3, t4, t5⟩⟩ = wn at *
        go_wp2_with fail
        refine HW.out.mono ?_
        rintro e w4 ⟨rfl, hb4⟩
        have HE4 := Lib.hid (HE1.out.trans hb4)
        have HO4 := Lib.hid (HO1.out.below hb4)
        have tb4 := (HTB.out.below hb4).cells
        have HZ4 := Lib.hid (show w.heap.size + 1 ≤ w4.heap.size from by have := HSB.out.lt; have := HE4.out.size; omega)
        clear hb4 HW d0 d1 d2 d3 d4 d5 tb1 sb1
        go_wp2_with (at_builtin; go_must (refine wpList_own_lit tupT rfl (.tmp 18) (.tmp 20) rfl rfl HO4.out rfl rfl (by simp [Value.oneCell']) (by have := HLE.out; rw [tuCs_length]; simp; omega) (by have := HLE.out; rw [tuCs_length]; simp; omega) HZ4.out ?_; intro v5 w5 hown5 hb5 hgr5; have HO5 := Lib.hid (show Own w5 (w.heap.size + 1) 35 6 v5 (tuCs (bl ++ [⟨⟨t0, t1, t2⟩, ⟨t3, t4, t5⟩⟩])) from by rw [tuCs_append]; exact hown5); have HE5 := Lib.hid (show Ext wb w5 from Below.trans HE4.out (hb5.mono (Nat.le_of_eq HZB.out))); clear hown5 hb5 hgr5))
        go_roundw
        case rel => exact ⟨i + 1, by omega, by go_num, by rw [HT0.out]; exact HO5.out, HE5.out⟩
        case measure => simp [intOf]; omega
    · obtain rfl : i = l.length := by omega
      rw [List.take_length] at HOW
      clear hext
      go_wp2_with fail
      go_ret
      exact ⟨_, rfl, HOW.out.mono (Nat.le_succ _), HBW.out⟩

end Go.Proofs.Ytipddhcfcehcaaa
namespace Go.Proofs.Ytipddhcfcehcaaa
open Go Go.RowKit Go.Maps

set_option maxRecDepth 100000 in
set_option maxHeartbeats 1000000 in
theorem sameT_any (v1 v2 : Value) (l : List Tup) (w : World) (h1 : Sl (· < w.heap.size) w 6 v1 (tuCs l)) (h2 : Sl (· < w.heap.size) w 6 v2 (tuCs l)) : Calls Try.prog 13 #[v1, v2] w fun e w' => e = .returned (.bool true) ∧ Ext w w' := by
  obtain ⟨ao, c, rfl, hlc, hcm, hc⟩ := tups_rows h1
  obtain ⟨ao2, c2, rfl, hlc2, hcm2, hc2⟩ := tups_rows h2
  have HC := Lib.hid hc
  have HC2 := Lib.hid hc2
  clear hc hc2 h1 h2
  go_enter Try.func13, Try.ntmps13
  go_wp2_with fail
  go_loopw [5, 13] (fun _ ii wr => ∃ i : Nat, i ≤ l.length ∧ ii = .int .i64 i ∧ Ext w wr) (fun _ ii _ => l.length - (intOf ii).toNat)
  case atStart => exact ⟨0, by omega, rfl, Ext.refl _⟩
  case round =>
    obtain ⟨i, hi, rfl, hbel⟩ := hrel
    by_cases hlt : i < l.length
    · obtain ⟨b, off, rfl, hb, k0, k1, k2, k3, k4, k5⟩ := HC.out i hlt
      obtain ⟨b2, off2, rfl, hb2, e0, e1, e2, e3, e4, e5⟩ := HC2.out i hlt
      generalize l[i] = x at *
      have hne := fun W => tup_neq x x W
      obtain ⟨⟨t0, t1, t2⟩, ⟨t3, t4, t5⟩⟩ := x
      unfold tV at hne
      dsimp only at k0 k1 k2 k3 k4 k5 e0 e1 e2 e3 e4 e5 hne
      go_wp2_with fail
      obtain ⟨wd, hwd⟩ : ∃ wd, wd = wr.drew := ⟨_, rfl⟩
      have hbd : Ext w wd := by rw [hwd]; exact hbel.trans (Ext.drew wr)
      refine region_walkN (Ext wd) (by rw [← hwd]; exact Ext.refl _) (by kernel_rfl) (by kernel_rfl) (fun _ _ d _ _ h => by cases d <;> exact h) ?_
      rw [← hwd]
      clear hwd hbel
      have f0 : ∀ W, Ext wd W → W.cell? ⟨b, off + i * 6, none⟩ = some (.string t0) := fun W h => (hbd.trans h).cell (a := ⟨b, off + i * 6, none⟩) k0
      have f1 : ∀ W, Ext wd W → W.cell? ⟨b, off + i * 6 + 1, none⟩ = some (.string t1) := fun W h => (hbd.trans h).cell (a := ⟨b, off + i * 6 + 1, none⟩) k1
      have f2 : ∀ W, Ext wd W → W.cell? ⟨b, off + i * 6 + 2, none⟩ = some (.string t2) := fun W h => (hbd.trans h).cell (a := ⟨b, off + i * 6 + 2, none⟩) k2
      have f3 : ∀ W, Ext wd W → W.cell? ⟨b, off + i * 6 + 3, none⟩ = some (.string t3) := fun W h => (hbd.trans h).cell (a := ⟨b, off + i * 6 + 3, none⟩) k3
      have f4 : ∀ W, Ext wd W → W.cell? ⟨b, off + i * 6 + 4, none⟩ = some (.string t4) := fun W h => (hbd.trans h).cell (a := ⟨b, off + i * 6 + 4, none⟩) k4
      have f5 : ∀ W, Ext wd W → W.cell? ⟨b, off + i * 6 + 5, none⟩ = some (.string t5) := fun W h => (hbd.trans h).cell (a := ⟨b, off + i * 6 + 5, none⟩) k5
      have g0 : ∀ W, Ext wd W → W.cell? ⟨b2, off2 + i * 6, none⟩ = some (.string t0) := fun W h => (hbd.trans h).cell (a := ⟨b2, off2 + i * 6, none⟩) e0
      have g1 : ∀ W, Ext wd W → W.cell? ⟨b2, off2 + i * 6 + 1, none⟩ = some (.string t1) := fun W h => (hbd.trans h).cell (a := ⟨b2, off2 + i * 6 + 1, none⟩) e1
      have g2 : ∀ W, Ext wd W → W.cell? ⟨b2, off2 + i * 6 + 2, none⟩ = some (.string t2) := fun W h => (hbd.trans h).cell (a := ⟨b2, off2 + i * 6 + 2, none⟩) e2
      have g3 : ∀ W, Ext wd W → W.cell? ⟨b2, off2 + i * 6 + 3, none⟩ = some (.string t3) := fun W h => (hbd.trans h).cell (a := ⟨b2, off2 + i * 6 + 3, none⟩) e3
      have g4 : ∀ W, Ext wd W → W.cell? ⟨b2, off2 + i * 6 + 4, none⟩ = some (.string t4) := fun W h => (hbd.trans h).cell (a := ⟨b2, off2 + i * 6 + 4, none⟩) e4
      have g5 : ∀ W, Ext wd W → W.cell? ⟨b2, off2 + i * 6 + 5, none⟩ = some (.string t5) := fun W h => (hbd.trans h).cell (a := ⟨b2, off2 + i * 6 + 5, none⟩) e5
      clear k0 k1 k2 k3 k4 k5 e0 e1 e2 e3 e4 e5
      ((refine WalkN.take 0 _ ?_ (by simp only [List.getElem?_toArray, List.getElem?_cons_zero]; rfl) (by kernel_rfl) (by kernel_rfl) (by rfl) (fun W hW => ?_) ?_; rotate_left; · (go_simp; try with_reducible rfl)); simp only [Act.put, List.setIfInBounds_toArray, List.set_cons_zero, List.set_cons_succ]); ((refine WalkN.take 1 _ ?_ (by simp only [List.getElem?_toArray, List.getElem?_cons_succ, List.getElem?_cons_zero]; rfl) (by kernel_rfl) (by kernel_rfl) (by rfl) (fun W hW => ?_) ?_; rotate_left; · (go_simp; try with_reducible rfl)); simp only [Act.put, List.setIfInBounds_toArray, List.set_cons_zero, List.set_cons_succ]); ((refine WalkN.take 2 _ ?_ (by simp only [List.getElem?_toArray, List.getElem?_cons_succ, List.getElem?_cons_zero]; rfl) (by kernel_rfl) (by kernel_rfl) (by rfl) (fun W hW => ?_) ?_; rotate_left; · (go_simp; try with_reducible rfl)); simp only [Act.put, List.setIfInBounds_toArray, List.set_cons_zero, List.set_cons_succ]); ((refine WalkN.take 3 _ ?_ (by simp only [List.getElem?_toArray, List.getElem?_cons_succ, List.getElem?_cons_zero]; rfl) (by kernel_rfl) (by kernel_rfl) (by rfl) (fun W hW => ?_) ?_; rotate_left; · (go_simp; try with_reducible rfl)); simp only [Act.put, List.setIfInBounds_toArray, List.set_cons_zero, List.set_cons_succ]); ((refine WalkN.take 4 _ ?_ (by simp only [List.getElem?_toArray, List.getElem?_cons_succ, List.getElem?_cons_zero]; rfl) (by kernel_rfl) (by kernel_rfl) (by rfl) (fun W hW => ?_) ?_; rotate_left; · (go_simp; try with_reducible rfl)); simp only [Act.put, List.setIfInBounds_toArray, List.set_cons_zero, List.set_cons_succ]); ((refine WalkN.take 5 _ ?_ (by simp only [List.getElem?_toArray, List.getElem?_cons_succ, List.getElem?_cons_zero]; rfl) (by kernel_rfl) (by kernel_rfl) (by rfl) (fun W hW => ?_) ?_; rotate_left; · (go_simp; try with_reducible rfl)); simp only [Act.put, List.setIfInBounds_toArray, List.set_cons_zero, List.set_cons_succ]); ((refine WalkN.take 6 _ ?_ (by simp only [List.getElem?_toArray, List.getElem?_cons_succ, List.getElem?_cons_zero]; rfl) (by kernel_rfl) (by kernel_rfl) (by rfl) (fun W hW => ?_) ?_; rotate_left; · (go_simp; try with_reducible rfl)); simp only [Act.put, List.setIfInBounds_toArray, List.set_cons_zero, List.set_cons_succ]); ((refine WalkN.take 7 _ ?_ (by simp only [List.getElem?_toArray, List.getElem?_cons_succ, List.getElem?_cons_zero]; rfl) (by kernel_rfl) (by kernel_rfl) (by rfl) (fun W hW => ?_) ?_; rotate_left; · (go_simp; try with_reducible rfl)); simp only [Act.put, List.setIfInBounds_toArray, List.set_cons_zero, List.set_cons_succ]); ((refine WalkN.take 8 _ ?_ (by simp only [List.getElem?_toArray, List.getElem?_cons_succ, List.getElem?_cons_zero]; rfl) (by kernel_rfl) (by kernel_rfl) (by rfl) (fun W hW => ?_) ?_; rotate_left; · (go_simp; try with_reducible rfl)); simp only [Act.put, List.setIfInBounds_toArray, List.set_cons_zero, List.set_cons_succ])
      refine WalkN.done (by kernel_rfl) ?_
      clear f0 f1 f2 f3 f4 f5 g0 g1 g2 g3 g4 g5 hne
      go_wp2_with fail
      go_roundw
      case rel => exact ⟨i + 1, by omega, by go_num, hbd⟩
      case measure => simp [intOf]; omega
    · obtain rfl : i = l.length := by omega
      go_wp2_with fail
      go_ret
      exact ⟨rfl, hbel⟩

set_option maxRecDepth 100000 in
set_option maxHeartbeats 1000000 in
theorem few07_any (ts us : List TyS) (tv uv : Value) (w : World) (ht : TysAt (· < w.heap.size) w ts tv) (hu : TysAt (· < w.heap.size) w us uv) (hok : ∀ t ∈ ts, t.Ok) (hok2 : ∀ t ∈ us, t.Ok) : Calls Try.prog 8 #[.agg #[tv], .agg #[uv]] w fun e w' => e = .returned (.bool (fewT ts 200 && fewT us 200)) ∧ Ext w w' := by
  obtain ⟨aot, ct, rfl, -, -, -⟩ := ht.rows
  obtain ⟨aou, cu, rfl, -, -, -⟩ := hu.rows
  obtain ⟨wa, hwa⟩ : ∃ x, x = w.alloc (.cells #[.slice aot ts.length ct] 24) := ⟨_, rfl⟩
  obtain ⟨wb, hwb⟩ : ∃ x, x = wa.alloc (.cells #[.slice aou us.length cu] 24) := ⟨_, rfl⟩
  have ea : wa.heap.size = w.heap.size + 1 := by rw [hwa]; simp
  have xa : Ext w wa := by rw [hwa]; exact Ext.alloc _ _
  have xb : Ext wa wb := by rw [hwb]; exact Ext.alloc _ _
  have HSA := Lib.hid (show Blk wb w.heap.size #[.slice aot ts.length ct] 24 from Blk.below (by rw [hwa]; exact Blk.made _ _ _) xb)
  have HSB := Lib.hid (show Blk wb (w.heap.size + 1) #[.slice aou us.length cu] 24 from by rw [hwb, ← ea]; exact Blk.made _ _ _)
  have HX := Lib.hid (xa.trans xb)
  have HF1 := Lib.hid (few05_any ts _ wb (ht.up HX.out) hok)
  have HU := Lib.hid (hu.up HX.out)
  have HO2 := Lib.hid hok2
  have sa := HSA.out.cells
  clear ht hu hok hok2 xa xb ea
  subst hwb hwa
  go_enter Try.func8, Try.ntmps8
  go_wp2_with fail
  refine HF1.out.mono ?_
  rintro e w1 ⟨rfl, hb1⟩
  have HX1 := Lib.hid (show Ext w w1 from HX.out.trans hb1)
  have HF2 := Lib.hid (few05_any us _ w1 (HU.out.up hb1) HO2.out)
  have sb := (HSB.out.below hb1).cells
  clear hb1 HF1 sa
  cases hf : fewT ts 200 with
  | false =>
    have HFF := Lib.hid hf
    go_wp2_with fail
    go_ret
    exact ⟨by rw [HFF.out]; rfl, HX1.out⟩
  | true =>
    have HFF := Lib.hid hf
    go_wp2_with fail
    refine HF2.out.mono ?_
    rintro e w2 ⟨rfl, hb2⟩
    have HX2 := Lib.hid (show Ext w w2 from HX1.out.trans hb2)
    clear hb2 HF2 sb
    go_wp2_with fail
    go_ret
    exact ⟨by rw [HFF.out, Bool.true_and]; rfl, HX2.out⟩

set_option maxRecDepth 100000 in
set_option maxHeartbeats 1000000 in
theorem check07_any (ts us : List TyS) (tv uv : Value) (w : World) (ht : TysAt (· < w.heap.size) w ts tv) (hu : TysAt (· < w.heap.size) w us uv) (hok : ∀ t ∈ ts, t.Ok) (hok2 : ∀ t ∈ us, t.Ok) (hz : schW ts ≤ 80000000) (hz2 : schW us ≤ 80000000) : Calls Try.prog 9 #[.agg #[tv], .agg #[uv]] w fun e w' => e = .returned (.int .i64 (if chk06 ts = 0 then chk06 us else chk06 ts)) ∧ Ext w w' := by
  obtain ⟨aot, ct, rfl, -, -, -⟩ := ht.rows
  obtain ⟨aou, cu, rfl, -, -, -⟩ := hu.rows
  obtain ⟨wa, hwa⟩ : ∃ x, x = w.alloc (.cells #[.slice aot ts.length ct] 24) := ⟨_, rfl⟩
  obtain ⟨wb, hwb⟩ : ∃ x, x = wa.alloc (.cells #[.slice aou us.length cu] 24) := ⟨_, rfl⟩
  have ea : wa.heap.size = w.heap.size + 1 := by rw [hwa]; simp
  have xa : Ext w wa := by rw [hwa]; exact Ext.alloc _ _
  have xb : Ext wa wb := by rw [hwb]; exact Ext.alloc _ _
  have HSA := Lib.hid (show Blk wb w.heap.size #[.slice aot ts.length ct] 24 from Blk.below (by rw [hwa]; exact Blk.made _ _ _) xb)
  have HSB := Lib.hid (show Blk wb (w.heap.size + 1) #[.slice aou us.length cu] 24 from by rw [hwb, ← ea]; exact Blk.made _ _ _)
  have HX := Lib.hid (xa.trans xb)
  have HF1 := Lib.hid (check06_any ts _ wb (ht.up HX.out) hok hz)
  have HU := Lib.hid (hu.up HX.out)
  have HO2 := Lib.hid (And.intro hok2 hz2)
  have sa := HSA.out.cells
  clear ht hu hok hok2 hz hz2 xa xb ea
  subst hwb hwa
  by_cases h0 : chk06 ts = 0
  · rw [h0] at HF1
    rw [if_pos h0]
    clear h0
    go_enter Try.func9, Try.ntmps9
    go_wp2_with fail
    refine HF1.out.mono ?_
    rintro e w1 ⟨rfl, hb1⟩
    have HX1 := Lib.hid (show Ext w w1 from HX.out.trans hb1)
    have HF2 := Lib.hid (check06_any us _ w1 (HU.out.up hb1) HO2.out.1 HO2.out.2)
    have sb := (HSB.out.below hb1).cells
    clear hb1 HF1 sa
    go_wp2_with fail
    refine HF2.out.mono ?_
    rintro e w2 ⟨rfl, hb2⟩
    have HX2 := Lib.hid (show Ext w w2 from HX1.out.trans hb2)
    clear hb2 HF2 sb
    go_wp2_with fail
    go_ret
    exact ⟨rfl, HX2.out⟩
  · rw [if_neg h0]
    have hne : (chk06 ts != 0) = true := by rw [bne_iff_ne]; exact h0
    clear h0
    generalize chk06 ts = ck at *
    go_enter Try.func9, Try.ntmps9
    go_wp2_with fail
    refine HF1.out.mono ?_
    rintro e w1 ⟨rfl, hb1⟩
    have HX1 := Lib.hid (show Ext w w1 from HX.out.trans hb1)
    clear hb1 HF1 sa
    go_wp2_with fail
    go_ret
    exact ⟨rfl, HX1.out⟩

set_option maxRecDepth 100000 in
set_option maxHeartbeats 1000000 in
theorem safe1_any (ts : List TyS) (tv : Value) (t : Tup) (bs : Nat) (w : World) (h : TysAt (· < w.heap.size) w ts tv) (hB : Blk w bs #[tv] 24) (k : SOk ts) (hu : uniqOk ts = true) (ht : t.Ok) : Calls Try.prog 32 #[tV t, .pointer (some ⟨bs, 0, none⟩)] w fun e w' => e = .returned (.bool (decide (wrN ts t = 0))) ∧ Ext w w' := by
  obtain ⟨aot, ct, rfl, -, -, -⟩ := h.rows
  obtain ⟨⟨t0, t1, t2⟩, ⟨t3, t4, t5⟩⟩ := t
  have x1 := Ext.alloc w (.cells #[.string t0, .string t1, .string t2, .string t3, .string t4, .string t5] 35)
  have HX := Lib.hid x1
  have tb := (Blk.made w #[.string t0, .string t1, .string t2, .string t3, .string t4, .string t5] 35).cells
  have sb := (hB.below x1).cells
  have HW := Lib.hid (writesP_any ts _ ⟨⟨t0, t1, t2⟩, ⟨t3, t4, t5⟩⟩ _ (h.up x1) k.ok hu (by have := k.lr; omega) ht)
  unfold tV at HW ⊢
  dsimp only at HW ⊢
  clear h hB k hu ht x1
  generalize hg : wrN ts ⟨⟨t0, t1, t2⟩, ⟨t3, t4, t5⟩⟩ = n at *
  have heq : (n == 0) = decide (n = 0) := by rw [Bool.eq_iff_iff]; simp
  clear hg
  go_enter Try.func32, Try.ntmps32
  go_wp2_with fail
  refine HW.out.mono ?_
  rintro e w1 ⟨rfl, hb1⟩
  have HX1 := Lib.hid (show Ext w w1 from HX.out.trans hb1)
  clear hb1 HW
  go_wp2_with fail
  go_ret
  exact ⟨by first | rfl | (rw [← heq]; rfl) | simp, HX1.out⟩

end Go.Proofs.Ytipddhcfcehcaaa
