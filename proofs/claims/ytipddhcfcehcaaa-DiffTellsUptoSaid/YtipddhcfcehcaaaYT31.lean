/- Lemmas for the claim, no condition. -/
import Derived.Test.YtipddhcfcehcaaaYT30
import Derived.Test.YtipddhcfcehcaaaYT29
import Derived.Test.YtipddhcfcehcaaaYT23
namespace Go.Proofs.Ytipddhcfcehcaaa
open Go Go.RowKit Go.Maps

/-- The type of a name. -/
def typF (us : List TyS) (n : ByteArray) : Option TyS := us.find? fun u => decide (u.name = n)
/-- A type that is left. -/
def appF (us : List TyS) (t : TyS) : Option TyS := (typF us t.name).map fun u => ⟨t.name, mrgR t.rels u.rels⟩
/-- What a schema becomes. -/
def appL (ts us : List TyS) : List TyS := ts.filterMap (appF us) ++ us.filter fun u => (typF ts u.name).isNone
theorem mrg_nil (m : List (ByteArray × RT)) : mrgR [] m = m := by
  unfold mrgR
  rw [List.filterMap_nil, List.nil_append, List.filter_eq_self]
  intro r _
  rfl
theorem typ_of {us : List TyS} (hn : (us.map (·.name)).Nodup) {j : Nat} (hj : j < us.length) : typF us us[j].name = some us[j] := by
  unfold typF
  rw [List.find?_eq_some_iff_getElem]
  refine ⟨decide_eq_true rfl, j, hj, rfl, fun i hi => ?_⟩
  have := List.pairwise_iff_getElem.1 hn i j (by rw [List.length_map]; omega) (by rw [List.length_map]; exact hj) hi
  rw [List.getElem_map, List.getElem_map] at this
  simpa using this
theorem typ_none {us : List TyS} {n : ByteArray} (h : ∀ u ∈ us, decide (u.name = n) = false) : typF us n = none := by
  unfold typF
  rw [List.find?_eq_none]
  intro u hu
  rw [h u hu]
  simp
theorem idx_typ {us : List TyS} {n : ByteArray} {k : Int} (hn : (us.map (·.name)).Nodup) (h : IdxP (fun x : TyS => decide (x.name = n)) us k) : (∃ (j : Nat) (hj : j < us.length), k = (j : Int) ∧ typF us n = some us[j]) ∨ (k = -1 ∧ typF us n = none) := by
  rcases h with ⟨j, hj, rfl, hp⟩ | ⟨rfl, h⟩
  · refine .inl ⟨j, hj, rfl, ?_⟩
    have := typ_of hn hj
    rw [of_decide_eq_true hp] at this
    exact this
  · exact .inr ⟨rfl, typ_none h⟩
theorem rels_le {ts : List TyS} {t : TyS} (h : t ∈ ts) : t.rels.length ≤ (refsOf ts).length := by
  induction ts with
  | nil => cases h
  | cons a ts ih =>
    unfold refsOf at *
    rw [List.flatMap_cons, List.length_append]
    rcases List.mem_cons.1 h with rfl | h
    · unfold relsOf; rw [List.length_map]; omega
    · have := ih h; omega
theorem uq_rels {ts : List TyS} (h : uniqOk ts = true) {t : TyS} (ht : t ∈ ts) : (t.rels.map (·.1)).Nodup := by
  unfold uniqOk at h
  rw [Bool.and_eq_true, List.all_eq_true] at h
  exact of_decide_eq_true (h.2 t ht)
theorem uq_names {ts : List TyS} (h : uniqOk ts = true) : (ts.map (·.name)).Nodup := by
  unfold uniqOk at h
  rw [Bool.and_eq_true] at h
  exact of_decide_eq_true h.1

set_option maxRecDepth 100000 in
set_option maxHeartbeats 1000000 in
theorem apply_bad (aot aou : Option Addr) (nt ct nu cu : Nat) (lv : Value) (w : World) (c : Int) (hc : c ≠ 0) (HD : ∀ W, Ext w W → Calls Try.prog 17 #[.agg #[.slice aot nt ct], .agg #[.slice aou nu cu]] W fun e W' => e = .returned (.tuple #[.slice none 0 0, .int .i64 c]) ∧ Ext W W') :
    Calls Try.prog 19 #[.agg #[.slice aot nt ct], lv, .agg #[.slice aou nu cu]] w fun e w' => e = .returned (.tuple #[.agg #[.slice none 0 0], .int .i64 c]) ∧ Ext w w' := by
  have hcn : (c != 0) = true := bne_iff_ne.2 hc
  obtain ⟨wa, hwa⟩ : ∃ x, x = w.alloc (.cells #[.slice aot nt ct] 24) := ⟨_, rfl⟩
  obtain ⟨wc, hwc⟩ : ∃ x, x = wa.alloc (.cells #[.slice aou nu cu] 24) := ⟨_, rfl⟩
  obtain ⟨wb, hwb⟩ : ∃ x, x = wc.alloc (.cells #[.slice none 0 0] 24) := ⟨_, rfl⟩
  have ea : wa.heap.size = w.heap.size + 1 := by rw [hwa]; simp
  have ec : wc.heap.size = w.heap.size + 1 + 1 := by rw [hwc]; simp [ea]
  have xa : Ext w wa := by rw [hwa]; exact Ext.alloc _ _
  have xc : Ext wa wc := by rw [hwc]; exact Ext.alloc _ _
  have xb : Ext wc wb := by rw [hwb]; exact Ext.alloc _ _
  have HA := Lib.hid (show Blk wb w.heap.size #[.slice aot nt ct] 24 from Blk.below (by rw [hwa]; exact Blk.made _ _ _) (xc.trans xb))
  have HB := Lib.hid (show Blk wb (w.heap.size + 1) #[.slice aou nu cu] 24 from Blk.below (by rw [hwc, ← ea]; exact Blk.made _ _ _) xb)
  have HR := Lib.hid (show Blk wb (w.heap.size + 1 + 1) #[.slice none 0 0] 24 from by rw [hwb, ← ec]; exact Blk.made _ _ _)
  have HX := Lib.hid (show Ext w wb from xa.trans (xc.trans xb))
  have HDC := Lib.hid (HD wb HX.out)
  clear xa xc xb ea ec HD
  subst hwb hwc hwa
  go_enter Try.func19, Try.ntmps19
  go_wp2_with fail
  refine HDC.out.mono ?_
  rintro e w1 ⟨rfl, hb1⟩
  have HX1 := Lib.hid (show Ext w w1 from HX.out.trans hb1)
  have HR1 := Lib.hid (HR.out.below hb1)
  have r1 := HR1.out.cells
  have f1 := HR1.out.free
  clear hb1 HDC HX HA HB HR
  go_wp2_with fail
  clear r1 f1
  refine bodyPost_ret (v := .tuple #[.agg #[.slice none 0 0], .int .i64 c]) ?_ rfl ⟨rfl, ?_⟩
  · rw [results_cell_tmp rfl]
    have hl := run_loadVar_row (P := Try.prog) _ (w.heap.size + 1 + 1) _ 24 _ _ _ (HR1.out.set_to (cs' := #[.slice none 0 0]) 0 (.slice none 0 0) rfl) Try.underlying24 rfl (by kernel_rfl)
    simp [asAddr, hl, Result.andThen]
  · exact Below.setCell HX1.out (by show w.heap.size ≤ w.heap.size + 1 + 1; omega) _

end Go.Proofs.Ytipddhcfcehcaaa
namespace Go.Proofs.Ytipddhcfcehcaaa
open Go Go.RowKit Go.Maps

theorem typ_some {us : List TyS} {n : ByteArray} {u : TyS} (h : typF us n = some u) : u ∈ us ∧ u.name = n := ⟨List.mem_of_find?_eq_some h, by have := List.find?_some h; exact of_decide_eq_true this⟩
theorem typ_mem {us : List TyS} (hn : (us.map (·.name)).Nodup) {u : TyS} (hu : u ∈ us) : typF us u.name = some u := by
  obtain ⟨j, hj, rfl⟩ := List.getElem_of_mem hu
  exact typ_of hn hj
theorem Like.trans {a b c : List TyS} (h : Like a b) (k : Like b c) : Like a c := ⟨fun n => (h.T n).trans (k.T n), fun n => (h.R n).trans (k.R n)⟩
end Go.Proofs.Ytipddhcfcehcaaa
namespace Go.Proofs.Ytipddhcfcehcaaa
open Go Go.RowKit Go.Maps

theorem typ_hit {ts : List TyS} {i : Nat} {n : ByteArray} (hi : i < ts.length) (hn : ts[i].name = n) (hb : ∀ j (hj : j < ts.length), j < i → ts[j].name ≠ n) : typF ts n = some ts[i] := by
  unfold typF
  rw [List.find?_eq_some_iff_getElem]
  exact ⟨decide_eq_true hn, i, hi, rfl, fun j hji => by simpa using hb j (by omega) hji⟩
theorem typ_miss {ts : List TyS} {n : ByteArray} (hb : ∀ j (hj : j < ts.length), ts[j].name ≠ n) : typF ts n = none := typ_none fun u hu => by
  obtain ⟨j, hj, rfl⟩ := List.getElem_of_mem hu
  exact decide_eq_false (hb j hj)
/-- What typ gives. -/
def tyOr (o : Option TyS) : TyS := o.getD ⟨⟨#[]⟩, []⟩

set_option maxRecDepth 100000 in
set_option maxHeartbeats 1000000 in
theorem typ7_any (ts : List TyS) (tv : Value) (n : ByteArray) (w : World) (h : TysAt (· < w.heap.size) w ts tv) :
    Calls Try.prog 46 #[.agg #[tv], .string n] w fun e w' => ∃ rv, e = .returned (.tuple #[.agg #[.string (tyOr (typF ts n)).name, rv], .bool (typF ts n).isSome]) ∧ RelsAt (· < w'.heap.size) w' (tyOr (typF ts n)).rels rv ∧ Ext w w' := by
  obtain ⟨ao, c, rfl, hlc, hcm, hcell⟩ := h.rows
  have HC := Lib.hid hcell
  obtain ⟨w1, hw1⟩ : ∃ x, x = w.alloc (.cells #[.slice ao ts.length c] 24) := ⟨_, rfl⟩
  obtain ⟨w2, hw2⟩ : ∃ x, x = w1.alloc (.cells #[.string ⟨#[]⟩, .slice none 0 0] 49) := ⟨_, rfl⟩
  have e1 : w1.heap.size = w.heap.size + 1 := by rw [hw1]; simp
  have x01 : Ext w w1 := by rw [hw1]; exact Ext.alloc _ _
  have x12 : Ext w1 w2 := by rw [hw2]; exact Ext.alloc _ _
  have hs2 := (show Blk w2 w.heap.size #[.slice ao ts.length c] 24 from Blk.below (by rw [hw1]; exact Blk.made _ _ _) x12).cells
  have HR := Lib.hid (show Blk w2 (w.heap.size + 1) #[.string ⟨#[]⟩, .slice none 0 0] 49 from by rw [hw2, ← e1]; exact Blk.made _ _ _)
  have HB2 := Lib.hid (show Below w.heap.size w w2 from x01.trans x12)
  subst hw2 hw1
  clear h hcell e1 x01 x12
  go_enter Try.func46, Try.ntmps46
  go_wp2_with fail
  obtain ⟨w2, hw2⟩ : ∃ x, x = (w.alloc (.cells #[.slice ao ts.length c] 24)).alloc (.cells #[.string ⟨#[]⟩, .slice none 0 0] 49) := ⟨_, rfl⟩
  rw [← hw2] at HR HB2 ⊢
  clear hw2 hs2
  obtain ⟨br, hbr⟩ : ∃ x, x = w.heap.size + 1 := ⟨_, rfl⟩
  rw [← hbr] at HR ⊢
  have HBR := Lib.hid (show w.heap.size ≤ br from by omega)
  clear hbr
  go_loopw [11] (fun ii wr => ∃ i : Nat, i ≤ ts.length ∧ ii = .int .i64 i ∧ (∀ j (hj : j < ts.length), j < i → ts[j].name ≠ n) ∧ Blk wr br #[.string ⟨#[]⟩, .slice none 0 0] 49 ∧ Below w.heap.size w wr) (fun ii _ => ts.length - (intOf ii).toNat)
  case atStart => exact ⟨0, by omega, rfl, fun _ _ h => absurd h (by omega), HR.out, HB2.out⟩
  case round =>
    obtain ⟨i, hi, rfl, hall, hblk, hbel⟩ := hrel
    have HALL := Lib.hid hall
    have HRO := Lib.hid hblk
    have HBO := Lib.hid hbel
    clear HR HB2 hall hblk
    by_cases hlt : i < ts.length
    · have HUP := fun h => Lib.hid (upto_succ (p := fun j hj => ts[j].name ≠ n) HALL.out hlt h)
      have HHIT := fun (h : ts[i].name = n) => Lib.hid (typ_hit hlt h HALL.out)
      obtain ⟨b, off, pv2, hbo, hb, c0, c1, hat2⟩ := HC.out i hlt
      cases hbo
      have d0 := (hbel.cell (p := ⟨b, off + i * 2, none⟩) hb).trans c0
      have d1 := (hbel.cell (p := ⟨b, off + i * 2 + 1, none⟩) hb).trans c1
      obtain ⟨ao2, c2', rfl, -, -, -⟩ := hat2.rows
      have HAT := Lib.hid hat2
      have hE := Ext.alloc wr (.cells #[.string ts[i].name, .slice ao2 ts[i].rels.length c2'] 49)
      have HB1 := Lib.hid (show Below w.heap.size w _ from hbel.trans (hE.mono hbel.size))
      have HRT := Lib.hid (HRO.out.below hE)
      have hbx := (Blk.made wr #[.string ts[i].name, .slice ao2 ts[i].rels.length c2'] 49).cells
      have HNE := Lib.hid (show br < wr.heap.size from HRO.out.lt)
      clear c0 c1 hat2 hbel hE
      generalize ts[i] = x at *
      obtain ⟨xn, l⟩ := x
      dsimp only at HAT HB1 HRT hbx HUP HHIT d0 d1
      obtain ⟨wx, hwx⟩ : ∃ x, x = wr.alloc (.cells #[.string xn, .slice ao2 l.length c2'] 49) := ⟨_, rfl⟩
      rw [← hwx] at HB1 HRT hbx
      by_cases he : xn = n
      · have HF := HHIT he
        subst he
        have r3 := HRT.out.cells
        have f3 := HRT.out.free
        have hs1 := HRT.out.set_to 0 (.string xn) rfl
        have hs2 := hs1.set_to 1 (.slice ao2 l.length c2') rfl
        have HS2 := Lib.hid hs2
        have HBE := Lib.hid (show Below w.heap.size w ((wx.setCell ⟨br, 0, none⟩ (.string xn)).setCell ⟨br, 1, none⟩ (.slice ao2 l.length c2')) from ((HB1.out.setCell HBR.out _).setCell HBR.out _))
        have hne : br ≠ wr.heap.size := by have := HNE.out; omega
        clear hs1 hs2 HUP HHIT
        subst hwx
        go_wp2_with fail
        refine bodyPost_ret (v := .tuple #[.agg #[.string xn, .slice ao2 l.length c2'], .bool true]) ?_ rfl ⟨.slice ao2 l.length c2', ?_, ?_, HBE.out⟩
        · rw [results_cell_tmp rfl]
          have hl := run_loadVar_row (P := Try.prog) _ br _ 49 _ _ _ HS2.out Try.underlying49 rfl (by kernel_rfl)
          simp [asAddr, hl, Result.andThen]
        · rw [HF.out]; rfl
        · rw [HF.out]; exact HAT.out.up HBE.out
      · have HN := HUP he
        have hne := ba_beq' he
        rw [← ByteArray.toList_eq, ← ByteArray.toList_eq] at hne
        clear HUP HHIT he
        subst hwx
        go_wp2_with fail
        go_roundw
        case rel => exact ⟨i + 1, by omega, by go_num, HN.out, HRT.out, HB1.out⟩
        case measure => simp [intOf]; omega
    · obtain rfl : i = ts.length := by omega
      have HF := Lib.hid (typ_miss fun j hj => HALL.out j hj hj)
      have r3 := HRO.out.cells
      have f3 := HRO.out.free
      have hs1 := HRO.out.set_to 0 (.string ⟨#[]⟩) rfl
      have hs2 := hs1.set_to 1 (.slice none 0 0) rfl
      have HS2 := Lib.hid hs2
      have HBE := Lib.hid (show Below w.heap.size w ((wr.setCell ⟨br, 0, none⟩ (.string ⟨#[]⟩)).setCell ⟨br, 1, none⟩ (.slice none 0 0)) from (HBO.out.setCell HBR.out _).setCell HBR.out _)
      clear hs1 hs2 hbel
      go_wp2_with fail
      refine bodyPost_ret (v := .tuple #[.agg #[.string ⟨#[]⟩, .slice none 0 0], .bool false]) ?_ rfl ⟨.slice none 0 0, ?_, ?_, HBE.out⟩
      · rw [results_cell_tmp rfl]
        have hl := run_loadVar_row (P := Try.prog) _ br _ 49 _ _ _ HS2.out Try.underlying49 rfl (by kernel_rfl)
        simp [asAddr, hl, Result.andThen]
      · rw [HF.out]; rfl
      · rw [HF.out]; exact ⟨[], rfl, by simp, Sl.nil _ _ _⟩

theorem chcs_take (l : List Ch) (k : Nat) : (chcs l).take (k * 3) = chcs (l.take k) := by
  induction k generalizing l with
  | zero => simp [chcs]
  | succ k ih =>
    cases l with
    | nil => simp [chcs]
    | cons a l =>
      rw [List.take_succ_cons, show chcs (a :: l) = chC a ++ chcs l from rfl, show chcs (a :: l.take k) = chC a ++ chcs (l.take k) from rfl, ← ih l]
      rw [show (k + 1) * 3 = 3 + k * 3 from by omega, List.take_append, List.take_of_length_le (by rw [chC_length]; omega), chC_length, Nat.add_sub_cancel_left]
theorem chcs_drop (l : List Ch) (k : Nat) : (chcs l).drop (k * 3) = chcs (l.drop k) := by
  induction k generalizing l with
  | zero => simp [chcs]
  | succ k ih =>
    cases l with
    | nil => simp [chcs]
    | cons a l =>
      rw [List.drop_succ_cons, show chcs (a :: l) = chC a ++ chcs l from rfl, ← ih l]
      rw [show (k + 1) * 3 = 3 + k * 3 from by omega, List.drop_append, List.drop_eq_nil_of_le (by rw [chC_length]; omega), chC_length, Nat.add_sub_cancel_left, List.nil_append]
/-- A change has been put ahead of the first one that isn't less. -/
def PutAt (l : List Ch) (c : Ch) (l' : List Ch) : Prop := ∃ i, i ≤ l.length ∧ (∀ j (hj : j < l.length), j < i → ltR l[j].ref c.ref = true) ∧ (∀ hi : i < l.length, ltR l[i].ref c.ref = false) ∧ l' = l.take i ++ [c] ++ l.drop i

set_option maxRecDepth 100000 in
set_option maxHeartbeats 1500000 in
theorem put7_any (v : Value) (l : List Ch) (c : Ch) (w : World) (h : Sl (· < w.heap.size) w 3 v (chcs l)) (hl : l.length ≤ 10000000) :
    Calls Try.prog 47 #[v, chV c] w fun e w' => ∃ (v' : Value) (l' : List Ch), e = .returned v' ∧ PutAt l c l' ∧ Own w' w.heap.size 63 3 v' (chcs l') ∧ Ext w w' := by
  obtain ⟨ao, cc, rfl, hlc, hcm, hcell⟩ := Sl.rows chC_length (by decide) (show Sl _ w 3 v (List.flatMap chC l) from h)
  have HC := Lib.hid hcell
  have HSL := Lib.hid h
  have HL := Lib.hid hl
  have HLC := Lib.hid (And.intro hlc hcm)
  obtain ⟨ck, ⟨ct, cr⟩⟩ := c
  unfold chV
  dsimp only
  have HCB := Lib.hid (Blk.made w #[.int .i64 ck, .string ct, .string cr] 63)
  have HX0 := Lib.hid (Ext.alloc w (.cells #[.int .i64 ck, .string ct, .string cr] 63))
  have HNIL := Lib.hid (show ao = none → cc = 0 ∧ l = [] from fun e => by
    subst e
    obtain ⟨yo, m, c', hq, hym, hmc, -, hyn, -⟩ := h
    injection hq with h1 h2 h3
    have := hyn h1.symm
    exact ⟨by omega, List.eq_nil_of_length_eq_zero (by omega)⟩)
  clear h hcell hl
  go_enter Try.func47, Try.ntmps47
  go_wp2_with fail
  obtain ⟨w1, hw1⟩ : ∃ w1, w1 = w.alloc (.cells #[.int .i64 ck, .string ct, .string cr] 63) := ⟨_, rfl⟩
  rw [← hw1] at HCB HX0 ⊢
  clear hw1
  obtain ⟨bc, hbc⟩ : ∃ x, x = w.heap.size := ⟨_, rfl⟩
  rw [← hbc] at HCB ⊢
  have HBC := Lib.hid (show w.heap.size ≤ bc from by omega)
  clear hbc
  go_loopw [5] (fun ii wr => ∃ i : Nat, i ≤ l.length ∧ ii = .int .i64 i ∧ (∀ j (hj : j < l.length), j < i → ltR l[j].ref ⟨ct, cr⟩ = true) ∧ Blk wr bc #[.int .i64 ck, .string ct, .string cr] 63 ∧ Ext w wr) (fun ii _ => l.length - (intOf ii).toNat)
  case atStart => exact ⟨0, by omega, rfl, fun _ _ h => absurd h (by omega), HCB.out, HX0.out⟩
  case round =>
    obtain ⟨i, hi, rfl, hall, hblk, hbel⟩ := hrel
    have HALL := Lib.hid hall
    have HRO := Lib.hid hblk
    have HBO := Lib.hid hbel
    have HI := Lib.hid hi
    clear HCB HX0 hall hblk
    by_cases hlt : i < l.length
    · have HUP := fun h => Lib.hid (upto_succ (p := fun j hj => ltR l[j].ref ⟨ct, cr⟩ = true) HALL.out hlt h)
      have HSTOP := fun (h : ltR l[i].ref ⟨ct, cr⟩ = false) => Lib.hid (show ∀ hi : i < l.length, ltR l[i].ref ⟨ct, cr⟩ = false from fun _ => h)
      obtain ⟨b, off, rfl, hb, hk⟩ := HC.out (by omega)
      have c1 := hk i hlt 1 _ rfl
      have c2 := hk i hlt 2 _ rfl
      clear hk
      generalize l[i] = x at *
      obtain ⟨xk, ⟨xt, xr⟩⟩ := x
      dsimp only at c1 c2 HUP HSTOP
      have HLS := fun W => Lib.hid (less06_any ⟨xt, xr⟩ ⟨ct, cr⟩ W)
      unfold r2V at HLS
      dsimp only at HLS
      have HLB := Lib.hid (show b < w.heap.size from hb)
      rcases hlb : ltR ⟨xt, xr⟩ ⟨ct, cr⟩ with _ | _
      rotate_left
      · have HN := HUP hlb
        rw [hlb] at HLS
        clear hlb HSTOP HUP
        go_wp2_with fail
        obtain ⟨wd, hwd⟩ : ∃ wd, wd = wr.drew := ⟨_, rfl⟩
        have HXd := Lib.hid (show Ext w wd from by rw [hwd]; exact HBO.out.trans (Ext.drew wr))
        have HBd := Lib.hid (show Blk wd bc #[.int .i64 ck, .string ct, .string cr] 63 from by rw [hwd]; exact HRO.out.drew)
        refine region_walkN (Ext wd) (by rw [← hwd]; exact Ext.refl _) (by kernel_rfl) (by kernel_rfl) (fun _ _ d _ _ h => by cases d <;> exact h) ?_
        rw [← hwd]
        have h1 : ∀ W, Ext wd W → ∀ i, W.cell? ⟨bc, i, none⟩ = (#[.int .i64 ck, .string ct, .string cr] : Array Value)[i]? := fun W h => (HBd.out.below h).cells
        have g1 : ∀ W, Ext wd W → W.cell? ⟨b, off + i * 3 + 1, none⟩ = some (.string xt) := fun W h => (HXd.out.trans h).cell (a := ⟨b, off + i * 3 + 1, none⟩) c1
        have g2 : ∀ W, Ext wd W → W.cell? ⟨b, off + i * 3 + 2, none⟩ = some (.string xr) := fun W h => (HXd.out.trans h).cell (a := ⟨b, off + i * 3 + 2, none⟩) c2
        clear hwd hbel
        ((refine WalkN.take 0 _ ?_ (by simp only [List.getElem?_toArray, List.getElem?_cons_zero]; rfl) (by kernel_rfl) (by kernel_rfl) (by rfl) (fun W hW => ?_) ?_; rotate_left; · (go_simp; try with_reducible rfl)); simp only [Act.put, List.setIfInBounds_toArray, List.set_cons_zero, List.set_cons_succ]); ((refine WalkN.take 1 _ ?_ (by simp only [List.getElem?_toArray, List.getElem?_cons_succ, List.getElem?_cons_zero]; rfl) (by kernel_rfl) (by kernel_rfl) (by rfl) (fun W hW => ?_) ?_; rotate_left; · (go_simp; try with_reducible rfl)); simp only [Act.put, List.setIfInBounds_toArray, List.set_cons_zero, List.set_cons_succ]); ((refine WalkN.take 2 _ ?_ (by simp only [List.getElem?_toArray, List.getElem?_cons_succ, List.getElem?_cons_zero]; rfl) (by kernel_rfl) (by kernel_rfl) (by rfl) (fun W hW => ?_) ?_; rotate_left; · (go_simp; try with_reducible rfl)); simp only [Act.put, List.setIfInBounds_toArray, List.set_cons_zero, List.set_cons_succ]); ((refine WalkN.take 3 _ ?_ (by simp only [List.getElem?_toArray, List.getElem?_cons_succ, List.getElem?_cons_zero]; rfl) (by kernel_rfl) (by kernel_rfl) (by rfl) (fun W hW => ?_) ?_; rotate_left; · (go_simp; try with_reducible rfl)); simp only [Act.put, List.setIfInBounds_toArray, List.set_cons_zero, List.set_cons_succ]); ((refine WalkN.take 4 _ ?_ (by simp only [List.getElem?_toArray, List.getElem?_cons_succ, List.getElem?_cons_zero]; rfl) (by kernel_rfl) (by kernel_rfl) (by rfl) (fun W hW => ?_) ?_; rotate_left; · (go_simp; try with_reducible rfl)); simp only [Act.put, List.setIfInBounds_toArray, List.set_cons_zero, List.set_cons_succ]); ((refine WalkN.take 5 _ ?_ (by simp only [List.getElem?_toArray, List.getElem?_cons_succ, List.getElem?_cons_zero]; rfl) (by kernel_rfl) (by kernel_rfl) (by rfl) (fun W hW => ?_) ?_; rotate_left; · (go_simp; try with_reducible rfl)); simp only [Act.put, List.setIfInBounds_toArray, List.set_cons_zero, List.set_cons_succ]); ((refine WalkN.take 6 _ ?_ (by simp only [List.getElem?_toArray, List.getElem?_cons_succ, List.getElem?_cons_zero]; rfl) (by kernel_rfl) (by kernel_rfl) (by rfl) (fun W hW => ?_) ?_; rotate_left; · (go_simp; try with_reducible rfl)); simp only [Act.put, List.setIfInBounds_toArray, List.set_cons_zero, List.set_cons_succ]); ((refine WalkN.take 7 _ ?_ (by simp only [List.getElem?_toArray, List.getElem?_cons_succ, List.getElem?_cons_zero]; rfl) (by kernel_rfl) (by kernel_rfl) (by rfl) (fun W hW => ?_) ?_; rotate_left; · (go_simp; try with_reducible rfl)); simp only [Act.put, List.setIfInBounds_toArray, List.set_cons_zero, List.set_cons_succ]); ((refine WalkN.take 8 _ ?_ (by simp only [List.getElem?_toArray, List.getElem?_cons_succ, List.getElem?_cons_zero]; rfl) (by kernel_rfl) (by kernel_rfl) (by rfl) (fun W hW => ?_) ?_; rotate_left; · (go_simp; try with_reducible rfl)); simp only [Act.put, List.setIfInBounds_toArray, List.set_cons_zero, List.set_cons_succ]); ((refine WalkN.take 9 _ ?_ (by simp only [List.getElem?_toArray, List.getElem?_cons_succ, List.getElem?_cons_zero]; rfl) (by kernel_rfl) (by kernel_rfl) (by rfl) (fun W hW => ?_) ?_; rotate_left; · (go_simp; try with_reducible rfl)); simp only [Act.put, List.setIfInBounds_toArray, List.set_cons_zero, List.set_cons_succ]); ((refine WalkN.take 10 _ ?_ (by simp only [List.getElem?_toArray, List.getElem?_cons_succ, List.getElem?_cons_zero]; rfl) (by kernel_rfl) (by kernel_rfl) (by rfl) (fun W hW => ?_) ?_; rotate_left; · (go_simp; try with_reducible rfl)); simp only [Act.put, List.setIfInBounds_toArray, List.set_cons_zero, List.set_cons_succ]); ((refine WalkN.take 11 _ ?_ (by simp only [List.getElem?_toArray, List.getElem?_cons_succ, List.getElem?_cons_zero]; rfl) (by kernel_rfl) (by kernel_rfl) (by rfl) (fun W hW => ?_) ?_; rotate_left; · (go_simp; try with_reducible rfl)); simp only [Act.put, List.setIfInBounds_toArray, List.set_cons_zero, List.set_cons_succ])
        clear h1 g1 g2
        refine WalkN.one 12 (by kernel_rfl) ?_
        refine ⟨_, (by simp only [List.getElem?_toArray, List.getElem?_cons_succ, List.getElem?_cons_zero]; rfl), by rfl, fun K hK => ?_⟩
        go_simp
        refine (HLS wd).out.mono ?_
        rintro e w4 ⟨rfl, hb4⟩
        have x4 : Ext wd w4 := hb4
        refine hK.out _ _ x4 ?_
        clear hK hb4
        have HX4 := Lib.hid (show Ext w w4 from HXd.out.trans x4)
        have HB4 := Lib.hid (HBd.out.below x4)
        clear x4 HXd HBd
        ((refine WalkN.take 13 _ ?_ (by simp only [List.getElem?_toArray, List.getElem?_cons_succ, List.getElem?_cons_zero]; rfl) (by kernel_rfl) (by kernel_rfl) (by rfl) (fun W hW => ?_) ?_; rotate_left; · (go_simp; try with_reducible rfl)); simp only [Act.put, List.setIfInBounds_toArray, List.set_cons_zero, List.set_cons_succ])
        refine WalkN.done (by kernel_rfl) ?_
        go_wp2_with fail
        go_roundw
        case rel => exact ⟨i + 1, by omega, by go_num, HN.out, HB4.out, HX4.out⟩
        case measure => simp [intOf]; omega
      · have HST := HSTOP hlb
        rw [hlb] at HLS
        clear hlb HSTOP HUP
        go_wp2_with fail
        obtain ⟨wd, hwd⟩ : ∃ wd, wd = wr.drew := ⟨_, rfl⟩
        have HXd := Lib.hid (show Ext w wd from by rw [hwd]; exact HBO.out.trans (Ext.drew wr))
        have HBd := Lib.hid (show Blk wd bc #[.int .i64 ck, .string ct, .string cr] 63 from by rw [hwd]; exact HRO.out.drew)
        refine region_walkN (Ext wd) (by rw [← hwd]; exact Ext.refl _) (by kernel_rfl) (by kernel_rfl) (fun _ _ d _ _ h => by cases d <;> exact h) ?_
        rw [← hwd]
        have h1 : ∀ W, Ext wd W → ∀ i, W.cell? ⟨bc, i, none⟩ = (#[.int .i64 ck, .string ct, .string cr] : Array Value)[i]? := fun W h => (HBd.out.below h).cells
        have g1 : ∀ W, Ext wd W → W.cell? ⟨b, off + i * 3 + 1, none⟩ = some (.string xt) := fun W h => (HXd.out.trans h).cell (a := ⟨b, off + i * 3 + 1, none⟩) c1
        have g2 : ∀ W, Ext wd W → W.cell? ⟨b, off + i * 3 + 2, none⟩ = some (.string xr) := fun W h => (HXd.out.trans h).cell (a := ⟨b, off + i * 3 + 2, none⟩) c2
        clear hwd hbel
        ((refine WalkN.take 0 _ ?_ (by simp only [List.getElem?_toArray, List.getElem?_cons_zero]; rfl) (by kernel_rfl) (by kernel_rfl) (by rfl) (fun W hW => ?_) ?_; rotate_left; · (go_simp; try with_reducible rfl)); simp only [Act.put, List.setIfInBounds_toArray, List.set_cons_zero, List.set_cons_succ]); ((refine WalkN.take 1 _ ?_ (by simp only [List.getElem?_toArray, List.getElem?_cons_succ, List.getElem?_cons_zero]; rfl) (by kernel_rfl) (by kernel_rfl) (by rfl) (fun W hW => ?_) ?_; rotate_left; · (go_simp; try with_reducible rfl)); simp only [Act.put, List.setIfInBounds_toArray, List.set_cons_zero, List.set_cons_succ]); ((refine WalkN.take 2 _ ?_ (by simp only [List.getElem?_toArray, List.getElem?_cons_succ, List.getElem?_cons_zero]; rfl) (by kernel_rfl) (by kernel_rfl) (by rfl) (fun W hW => ?_) ?_; rotate_left; · (go_simp; try with_reducible rfl)); simp only [Act.put, List.setIfInBounds_toArray, List.set_cons_zero, List.set_cons_succ]); ((refine WalkN.take 3 _ ?_ (by simp only [List.getElem?_toArray, List.getElem?_cons_succ, List.getElem?_cons_zero]; rfl) (by kernel_rfl) (by kernel_rfl) (by rfl) (fun W hW => ?_) ?_; rotate_left; · (go_simp; try with_reducible rfl)); simp only [Act.put, List.setIfInBounds_toArray, List.set_cons_zero, List.set_cons_succ]); ((refine WalkN.take 4 _ ?_ (by simp only [List.getElem?_toArray, List.getElem?_cons_succ, List.getElem?_cons_zero]; rfl) (by kernel_rfl) (by kernel_rfl) (by rfl) (fun W hW => ?_) ?_; rotate_left; · (go_simp; try with_reducible rfl)); simp only [Act.put, List.setIfInBounds_toArray, List.set_cons_zero, List.set_cons_succ]); ((refine WalkN.take 5 _ ?_ (by simp only [List.getElem?_toArray, List.getElem?_cons_succ, List.getElem?_cons_zero]; rfl) (by kernel_rfl) (by kernel_rfl) (by rfl) (fun W hW => ?_) ?_; rotate_left; · (go_simp; try with_reducible rfl)); simp only [Act.put, List.setIfInBounds_toArray, List.set_cons_zero, List.set_cons_succ]); ((refine WalkN.take 6 _ ?_ (by simp only [List.getElem?_toArray, List.getElem?_cons_succ, List.getElem?_cons_zero]; rfl) (by kernel_rfl) (by kernel_rfl) (by rfl) (fun W hW => ?_) ?_; rotate_left; · (go_simp; try with_reducible rfl)); simp only [Act.put, List.setIfInBounds_toArray, List.set_cons_zero, List.set_cons_succ]); ((refine WalkN.take 7 _ ?_ (by simp only [List.getElem?_toArray, List.getElem?_cons_succ, List.getElem?_cons_zero]; rfl) (by kernel_rfl) (by kernel_rfl) (by rfl) (fun W hW => ?_) ?_; rotate_left; · (go_simp; try with_reducible rfl)); simp only [Act.put, List.setIfInBounds_toArray, List.set_cons_zero, List.set_cons_succ]); ((refine WalkN.take 8 _ ?_ (by simp only [List.getElem?_toArray, List.getElem?_cons_succ, List.getElem?_cons_zero]; rfl) (by kernel_rfl) (by kernel_rfl) (by rfl) (fun W hW => ?_) ?_; rotate_left; · (go_simp; try with_reducible rfl)); simp only [Act.put, List.setIfInBounds_toArray, List.set_cons_zero, List.set_cons_succ]); ((refine WalkN.take 9 _ ?_ (by simp only [List.getElem?_toArray, List.getElem?_cons_succ, List.getElem?_cons_zero]; rfl) (by kernel_rfl) (by kernel_rfl) (by rfl) (fun W hW => ?_) ?_; rotate_left; · (go_simp; try with_reducible rfl)); simp only [Act.put, List.setIfInBounds_toArray, List.set_cons_zero, List.set_cons_succ]); ((refine WalkN.take 10 _ ?_ (by simp only [List.getElem?_toArray, List.getElem?_cons_succ, List.getElem?_cons_zero]; rfl) (by kernel_rfl) (by kernel_rfl) (by rfl) (fun W hW => ?_) ?_; rotate_left; · (go_simp; try with_reducible rfl)); simp only [Act.put, List.setIfInBounds_toArray, List.set_cons_zero, List.set_cons_succ]); ((refine WalkN.take 11 _ ?_ (by simp only [List.getElem?_toArray, List.getElem?_cons_succ, List.getElem?_cons_zero]; rfl) (by kernel_rfl) (by kernel_rfl) (by rfl) (fun W hW => ?_) ?_; rotate_left; · (go_simp; try with_reducible rfl)); simp only [Act.put, List.setIfInBounds_toArray, List.set_cons_zero, List.set_cons_succ])
        clear h1 g1 g2
        refine WalkN.one 12 (by kernel_rfl) ?_
        refine ⟨_, (by simp only [List.getElem?_toArray, List.getElem?_cons_succ, List.getElem?_cons_zero]; rfl), by rfl, fun K hK => ?_⟩
        go_simp
        refine (HLS wd).out.mono ?_
        rintro e w4 ⟨rfl, hb4⟩
        have x4 : Ext wd w4 := hb4
        refine hK.out _ _ x4 ?_
        clear hK hb4
        have HX4 := Lib.hid (show Ext w w4 from HXd.out.trans x4)
        have HB4 := Lib.hid (HBd.out.below x4)
        clear x4 HXd HBd
        ((refine WalkN.take 13 _ ?_ (by simp only [List.getElem?_toArray, List.getElem?_cons_succ, List.getElem?_cons_zero]; rfl) (by kernel_rfl) (by kernel_rfl) (by rfl) (fun W hW => ?_) ?_; rotate_left; · (go_simp; try with_reducible rfl)); simp only [Act.put, List.setIfInBounds_toArray, List.set_cons_zero, List.set_cons_succ])
        refine WalkN.done (by kernel_rfl) ?_
        clear HLS HLB HBO HRO hlt
        obtain ⟨m0, hm0⟩ : ∃ m0, m0 = l.length := ⟨_, rfl⟩
        have HO1 := Lib.hid (Own.made w4 (Nat.le_refl _) 63 3)
        have hE1 := Ext.alloc w4 (.cells #[] 63)
        have HS1 := Lib.hid (show Sl (· < (w4.alloc (.cells #[] 63)).heap.size) (w4.alloc (.cells #[] 63)) 3 (.slice (some ⟨b, off, none⟩) i cc) (chcs (l.take i)) from by
          have := (HSL.out.up (HX4.out.trans hE1)).take i (by have := HI.out; omega)
          rwa [chcs_take] at this)
        have HS2 := Lib.hid (show Sl (· < w4.heap.size) w4 3 (.slice (if cc = i then (some ⟨b, off, none⟩) else (some ⟨b, off + i * 3, none⟩)) (l.length - i) (cc - i)) (chcs (l.drop i)) from by
          have := (HSL.out.up HX4.out).tailK (ao' := if cc = i then (some ⟨b, off, none⟩) else (some ⟨b, off + i * 3, none⟩)) i (by have := HI.out; omega) (fun h => by rw [if_neg h]; simp [Addr.add_lit])
          rwa [chcs_drop] at this)
        have HB1 := Lib.hid (HB4.out.below hE1)
        have HL1 := Lib.hid (show (l.take i).length ≤ 10000000 from by have := HL.out; rw [List.length_take]; omega)
        have HL2 := Lib.hid (show (l.drop i).length ≤ 10000000 from by have := HL.out; rw [List.length_drop]; omega)
        have hkc : (i : Int) ≤ cc := by have := HLC.out; have := HI.out; omega
        have hkq : (i : Int) ≤ l.length := by have := HI.out; omega
        have hk0 : (0 : Int) ≤ (i : Int) := by omega
        clear hE1
        go_wp2_with (at_builtin; go_must (refine wpList_own chT rfl (.tmp 23) (.tmp 26) rfl rfl HO1.out rfl HS1.out (chcs_one _) (by have := HL1.out; rw [chcs_length]; simp only [List.length_nil]; omega) (by have := HL1.out; rw [chcs_length]; simp only [List.length_nil]; omega) (by simp) ?_; intro v5 w5 hown5 hb5 _; have HO5 := Lib.hid (show Own w5 w4.heap.size 63 3 v5 (chcs (l.take i)) from by rw [List.nil_append] at hown5; exact hown5); have HX5 := Lib.hid (show Ext w4 w5 from Below.trans (Ext.alloc w4 _) hb5); clear hown5 hb5))
        clear HO1 HS1 HB1
        obtain ⟨wd, hwd⟩ : ∃ wd, wd = w5.drew := ⟨_, rfl⟩
        have HX5d := Lib.hid (show Ext w4 wd from by rw [hwd]; exact HX5.out.trans (Ext.drew w5))
        have HXd := Lib.hid (show Ext w wd from HX4.out.trans HX5d.out)
        have HBd := Lib.hid (HB4.out.below HX5d.out)
        have HOd := Lib.hid (show Own wd w4.heap.size 63 3 v5 (chcs (l.take i)) from by rw [hwd]; exact HO5.out.below (Ext.drew w5))
        have HSd := Lib.hid (HS2.out.same (Same.below HX5d.out))
        refine region_walkN (Below w4.heap.size w4) (by rw [← hwd]; exact HX5d.out) (by kernel_rfl) (by kernel_rfl) (fun _ _ d _ _ h => by cases d <;> exact h) ?_
        rw [← hwd]
        have h1 : ∀ W, Below w4.heap.size w4 W → ∀ i, W.cell? ⟨bc, i, none⟩ = (#[.int .i64 ck, .string ct, .string cr] : Array Value)[i]? := fun W h => (HB4.out.below h).cells
        clear hwd HX5 HO5
        ((refine WalkN.take 0 _ ?_ (by simp only [List.getElem?_toArray, List.getElem?_cons_zero]; rfl) (by kernel_rfl) (by kernel_rfl) (by rfl) (fun W hW => ?_) ?_; rotate_left; · (go_simp; try with_reducible rfl)); simp only [Act.put, List.setIfInBounds_toArray, List.set_cons_zero, List.set_cons_succ]); ((refine WalkN.take 1 _ ?_ (by simp only [List.getElem?_toArray, List.getElem?_cons_succ, List.getElem?_cons_zero]; rfl) (by kernel_rfl) (by kernel_rfl) (by rfl) (fun W hW => ?_) ?_; rotate_left; · (go_simp; try with_reducible rfl)); simp only [Act.put, List.setIfInBounds_toArray, List.set_cons_zero, List.set_cons_succ]); ((refine WalkN.take 4 _ ?_ (by simp only [List.getElem?_toArray, List.getElem?_cons_succ, List.getElem?_cons_zero]; rfl) (by kernel_rfl) (by kernel_rfl) (by rfl) (fun W hW => ?_) ?_; rotate_left; · (go_simp; try with_reducible rfl)); simp only [Act.put, List.setIfInBounds_toArray, List.set_cons_zero, List.set_cons_succ]); ((refine WalkN.take 5 _ ?_ (by simp only [List.getElem?_toArray, List.getElem?_cons_succ, List.getElem?_cons_zero]; rfl) (by kernel_rfl) (by kernel_rfl) (by rfl) (fun W hW => ?_) ?_; rotate_left; · (go_simp; try with_reducible rfl)); simp only [Act.put, List.setIfInBounds_toArray, List.set_cons_zero, List.set_cons_succ]); ((refine WalkN.take 6 _ ?_ (by simp only [List.getElem?_toArray, List.getElem?_cons_succ, List.getElem?_cons_zero]; rfl) (by kernel_rfl) (by kernel_rfl) (by rfl) (fun W hW => ?_) ?_; rotate_left; · (go_simp; try with_reducible rfl)); simp only [Act.put, List.setIfInBounds_toArray, List.set_cons_zero, List.set_cons_succ])
        clear h1
        refine WalkN.one 2 (by kernel_rfl) ?_
        refine ⟨_, (by simp only [List.getElem?_toArray, List.getElem?_cons_succ, List.getElem?_cons_zero]; rfl), by rfl, fun K hK => ?_⟩
        go_simp
        have hE1 := Ext.alloc wd (.cells #[.int .i64 ck, .string ct, .string cr] 63)
        have hk3 : Sl (fun _ => True) (wd.alloc (.cells #[.int .i64 ck, .string ct, .string cr] 63)) 3 (.slice (some ⟨wd.heap.size, 0, none⟩) 1 1) (chcs [⟨ck, ⟨ct, cr⟩⟩]) := Sl.made wd (fun _ => True) 3 1 63 #[.int .i64 ck, .string ct, .string cr] rfl (by decide) trivial
        have hown3 := HOd.out.below hE1
        refine hK.out _ _ (Below.trans HX5d.out (hE1.mono HX5d.out.size)) ?_
        clear hK
        refine WalkN.one 3 (by kernel_rfl) ?_
        refine ⟨_, (by simp only [List.getElem?_toArray, List.getElem?_cons_succ, List.getElem?_cons_zero]; rfl), by rfl, fun K hK => ?_⟩
        refine wp_own chT (.tmp 28) (.tmp 30) rfl rfl hown3 rfl hk3 (chcs_one _) (by have := HL1.out; rw [chcs_length, chcs_length]; simp only [List.length_cons, List.length_nil]; omega) (by have := HL1.out; rw [chcs_length, chcs_length]; simp only [List.length_cons, List.length_nil]; omega) (Nat.le_trans HX5d.out.size hE1.size) (fun v6 w6 hown6 hb6 hg6 => ?_)
        have hb6' : Below w4.heap.size w4 w6 := Below.trans HX5d.out (Below.trans (hE1.mono HX5d.out.size) hb6)
        refine hK.out _ _ hb6' ?_
        clear hK
        simp only [Act.put, List.setIfInBounds_toArray, List.set_cons_zero, List.set_cons_succ]
        refine WalkN.one 7 (by kernel_rfl) ?_
        refine ⟨_, (by simp only [List.getElem?_toArray, List.getElem?_cons_succ, List.getElem?_cons_zero]; rfl), by rfl, fun K hK => ?_⟩
        refine wp_own chT (.tmp 31) (.tmp 34) rfl rfl hown6 rfl (HS2.out.same (Same.below hb6')) (chcs_one _) (by have := HL1.out; have := HL2.out; rw [List.length_append, chcs_length, chcs_length, chcs_length]; simp only [List.length_cons, List.length_nil]; omega) (by have := HL1.out; have := HL2.out; rw [List.length_append, chcs_length, chcs_length, chcs_length]; simp only [List.length_cons, List.length_nil]; omega) hb6'.size (fun v7 w7 hown7 hb7 hg7 => ?_)
        have hb7' : Below w4.heap.size w4 w7 := Below.trans hb6' hb7
        refine hK.out _ _ hb7' ?_
        clear hK
        simp only [Act.put, List.setIfInBounds_toArray, List.set_cons_zero, List.set_cons_succ]
        ((refine WalkN.take 8 _ ?_ (by simp only [List.getElem?_toArray, List.getElem?_cons_succ, List.getElem?_cons_zero]; rfl) (by kernel_rfl) (by kernel_rfl) (by rfl) (fun W hW => ?_) ?_; rotate_left; · (go_simp; try with_reducible rfl)); simp only [Act.put, List.setIfInBounds_toArray, List.set_cons_zero, List.set_cons_succ])
        refine WalkN.done (by kernel_rfl) ?_
        have HF := Lib.hid (show Own w7 w.heap.size 63 3 v7 (chcs (l.take i ++ [⟨ck, ⟨ct, cr⟩⟩] ++ l.drop i)) from by
          rw [chcs_append, chcs_append]
          exact hown7.base HX4.out.size)
        have HX7 := Lib.hid (show Ext w w7 from HX4.out.trans hb7')
        have HPUT := Lib.hid (show PutAt l ⟨ck, ⟨ct, cr⟩⟩ (l.take i ++ [⟨ck, ⟨ct, cr⟩⟩] ++ l.drop i) from ⟨i, HI.out, HALL.out, HST.out, rfl⟩)
        obtain ⟨ao7, k7, c7, rfl, -, -, -⟩ := hown7.sl.len
        clear hown6 hown7 hb6 hb7 hb6' hb7' hg6 hg7 hown3 hk3 hE1 hkc hkq hk0
        go_wp2_with fail
        all_goals first
          | (go_ret; exact ⟨_, _, rfl, HPUT.out, HF.out, HX7.out⟩)
          | (go_ret; exact ⟨_, rfl, _, HPUT.out, HF.out, HX7.out⟩)
    · obtain rfl : i = l.length := by omega
      have HST := Lib.hid (show ∀ hi : l.length < l.length, ltR l[l.length].ref ⟨ct, cr⟩ = false from fun h => absurd h (by omega))
      clear hlt
      go_wp2_with fail
      obtain ⟨wd, hwd⟩ : ∃ wd, wd = wr.drew := ⟨_, rfl⟩
      have HX4 := Lib.hid (show Ext w wd from by rw [hwd]; exact HBO.out.trans (Ext.drew wr))
      have HB4 := Lib.hid (show Blk wd bc #[.int .i64 ck, .string ct, .string cr] 63 from by rw [hwd]; exact HRO.out.drew)
      refine region_walkN (Ext wd) (by rw [← hwd]; exact Ext.refl _) (by kernel_rfl) (by kernel_rfl) (fun _ _ d _ _ h => by cases d <;> exact h) ?_
      rw [← hwd]
      clear hwd HBO HRO hbel
      ((refine WalkN.take 0 _ ?_ (by simp only [List.getElem?_toArray, List.getElem?_cons_zero]; rfl) (by kernel_rfl) (by kernel_rfl) (by rfl) (fun W hW => ?_) ?_; rotate_left; · (go_simp; try with_reducible rfl)); simp only [Act.put, List.setIfInBounds_toArray, List.set_cons_zero, List.set_cons_succ]); ((refine WalkN.take 1 _ ?_ (by simp only [List.getElem?_toArray, List.getElem?_cons_succ, List.getElem?_cons_zero]; rfl) (by kernel_rfl) (by kernel_rfl) (by rfl) (fun W hW => ?_) ?_; rotate_left; · (go_simp; try with_reducible rfl)); simp only [Act.put, List.setIfInBounds_toArray, List.set_cons_zero, List.set_cons_succ]); ((refine WalkN.take 2 _ ?_ (by simp only [List.getElem?_toArray, List.getElem?_cons_succ, List.getElem?_cons_zero]; rfl) (by kernel_rfl) (by kernel_rfl) (by rfl) (fun W hW => ?_) ?_; rotate_left; · (go_simp; try with_reducible rfl)); simp only [Act.put, List.setIfInBounds_toArray, List.set_cons_zero, List.set_cons_succ]); ((refine WalkN.take 3 _ ?_ (by simp only [List.getElem?_toArray, List.getElem?_cons_succ, List.getElem?_cons_zero]; rfl) (by kernel_rfl) (by kernel_rfl) (by rfl) (fun W hW => ?_) ?_; rotate_left; · (go_simp; try with_reducible rfl)); simp only [Act.put, List.setIfInBounds_toArray, List.set_cons_zero, List.set_cons_succ]); ((refine WalkN.take 4 _ ?_ (by simp only [List.getElem?_toArray, List.getElem?_cons_succ, List.getElem?_cons_zero]; rfl) (by kernel_rfl) (by kernel_rfl) (by rfl) (fun W hW => ?_) ?_; rotate_left; · (go_simp; try with_reducible rfl)); simp only [Act.put, List.setIfInBounds_toArray, List.set_cons_zero, List.set_cons_succ])
      (refine WalkN.skip 5 _ (by simp only [List.getElem?_toArray, List.getElem?_cons_succ, List.getElem?_cons_zero]; rfl) (by kernel_rfl) (by kernel_rfl) (by rfl) ?_; simp only [Act.put, List.setIfInBounds_toArray, List.set_cons_zero, List.set_cons_succ]); (refine WalkN.skip 6 _ (by simp only [List.getElem?_toArray, List.getElem?_cons_succ, List.getElem?_cons_zero]; rfl) (by kernel_rfl) (by kernel_rfl) (by rfl) ?_; simp only [Act.put, List.setIfInBounds_toArray, List.set_cons_zero, List.set_cons_succ]); (refine WalkN.skip 7 _ (by simp only [List.getElem?_toArray, List.getElem?_cons_succ, List.getElem?_cons_zero]; rfl) (by kernel_rfl) (by kernel_rfl) (by rfl) ?_; simp only [Act.put, List.setIfInBounds_toArray, List.set_cons_zero, List.set_cons_succ]); (refine WalkN.skip 8 _ (by simp only [List.getElem?_toArray, List.getElem?_cons_succ, List.getElem?_cons_zero]; rfl) (by kernel_rfl) (by kernel_rfl) (by rfl) ?_; simp only [Act.put, List.setIfInBounds_toArray, List.set_cons_zero, List.set_cons_succ]); (refine WalkN.skip 9 _ (by simp only [List.getElem?_toArray, List.getElem?_cons_succ, List.getElem?_cons_zero]; rfl) (by kernel_rfl) (by kernel_rfl) (by rfl) ?_; simp only [Act.put, List.setIfInBounds_toArray, List.set_cons_zero, List.set_cons_succ]); (refine WalkN.skip 10 _ (by simp only [List.getElem?_toArray, List.getElem?_cons_succ, List.getElem?_cons_zero]; rfl) (by kernel_rfl) (by kernel_rfl) (by rfl) ?_; simp only [Act.put, List.setIfInBounds_toArray, List.set_cons_zero, List.set_cons_succ]); (refine WalkN.skip 11 _ (by simp only [List.getElem?_toArray, List.getElem?_cons_succ, List.getElem?_cons_zero]; rfl) (by kernel_rfl) (by kernel_rfl) (by rfl) ?_; simp only [Act.put, List.setIfInBounds_toArray, List.set_cons_zero, List.set_cons_succ]); (refine WalkN.skip 12 _ (by simp only [List.getElem?_toArray, List.getElem?_cons_succ, List.getElem?_cons_zero]; rfl) (by kernel_rfl) (by kernel_rfl) (by rfl) ?_; simp only [Act.put, List.setIfInBounds_toArray, List.set_cons_zero, List.set_cons_succ])
      ((refine WalkN.take 13 _ ?_ (by simp only [List.getElem?_toArray, List.getElem?_cons_succ, List.getElem?_cons_zero]; rfl) (by kernel_rfl) (by kernel_rfl) (by rfl) (fun W hW => ?_) ?_; rotate_left; · (go_simp; try with_reducible rfl)); simp only [Act.put, List.setIfInBounds_toArray, List.set_cons_zero, List.set_cons_succ])
      refine WalkN.done (by kernel_rfl) ?_
      obtain ⟨w4, rfl⟩ : ∃ w4, w4 = wd := ⟨_, rfl⟩
      rcases ao with _ | ad
      · obtain ⟨rfl, rfl⟩ := HNIL.out rfl
        have HO1 := Lib.hid (Own.made w4 (Nat.le_refl _) 63 3)
        have hE1 := Ext.alloc w4 (.cells #[] 63)
        have HS1 := Lib.hid (show Sl (· < (w4.alloc (.cells #[] 63)).heap.size) (w4.alloc (.cells #[] 63)) 3 (.slice none 0 0) (chcs (([] : List Ch).take 0)) from by
          have := (HSL.out.up (HX4.out.trans hE1)).take 0 (by have := HI.out; omega)
          rwa [chcs_take] at this)
        have HS2 := Lib.hid (show Sl (· < w4.heap.size) w4 3 (.slice none 0 0) (chcs (([] : List Ch).drop 0)) from by
          have := (HSL.out.up HX4.out).tailK (ao' := none) 0 (by have := HI.out; omega) (fun _ => rfl)
          rwa [chcs_drop] at this)
        have HB1 := Lib.hid (HB4.out.below hE1)
        have HL1 := Lib.hid (show (([] : List Ch).take 0).length ≤ 10000000 from by have := HL.out; rw [List.length_take]; omega)
        have HL2 := Lib.hid (show (([] : List Ch).drop 0).length ≤ 10000000 from by have := HL.out; rw [List.length_drop]; omega)
        have hkc : (0 : Int) ≤ 0 := by have := HLC.out; have := HI.out; omega
        have hkq : (0 : Int) ≤ ([] : List Ch).length := by have := HI.out; omega
        have hk0 : (0 : Int) ≤ (0 : Int) := by omega
        clear hE1
        go_wp2_with (at_builtin; go_must (refine wpList_own chT rfl (.tmp 23) (.tmp 26) rfl rfl HO1.out rfl HS1.out (chcs_one _) (by have := HL1.out; rw [chcs_length]; simp only [List.length_nil]; omega) (by have := HL1.out; rw [chcs_length]; simp only [List.length_nil]; omega) (by simp) ?_; intro v5 w5 hown5 hb5 _; have HO5 := Lib.hid (show Own w5 w4.heap.size 63 3 v5 (chcs (([] : List Ch).take 0)) from by rw [List.nil_append] at hown5; exact hown5); have HX5 := Lib.hid (show Ext w4 w5 from Below.trans (Ext.alloc w4 _) hb5); clear hown5 hb5))
        clear HO1 HS1 HB1
        obtain ⟨wd, hwd⟩ : ∃ wd, wd = w5.drew := ⟨_, rfl⟩
        have HX5d := Lib.hid (show Ext w4 wd from by rw [hwd]; exact HX5.out.trans (Ext.drew w5))
        have HXd := Lib.hid (show Ext w wd from HX4.out.trans HX5d.out)
        have HBd := Lib.hid (HB4.out.below HX5d.out)
        have HOd := Lib.hid (show Own wd w4.heap.size 63 3 v5 (chcs (([] : List Ch).take 0)) from by rw [hwd]; exact HO5.out.below (Ext.drew w5))
        have HSd := Lib.hid (HS2.out.same (Same.below HX5d.out))
        refine region_walkN (Below w4.heap.size w4) (by rw [← hwd]; exact HX5d.out) (by kernel_rfl) (by kernel_rfl) (fun _ _ d _ _ h => by cases d <;> exact h) ?_
        rw [← hwd]
        have h1 : ∀ W, Below w4.heap.size w4 W → ∀ i, W.cell? ⟨bc, i, none⟩ = (#[.int .i64 ck, .string ct, .string cr] : Array Value)[i]? := fun W h => (HB4.out.below h).cells
        clear hwd HX5 HO5
        ((refine WalkN.take 0 _ ?_ (by simp only [List.getElem?_toArray, List.getElem?_cons_zero]; rfl) (by kernel_rfl) (by kernel_rfl) (by rfl) (fun W hW => ?_) ?_; rotate_left; · (go_simp; try with_reducible rfl)); simp only [Act.put, List.setIfInBounds_toArray, List.set_cons_zero, List.set_cons_succ]); ((refine WalkN.take 1 _ ?_ (by simp only [List.getElem?_toArray, List.getElem?_cons_succ, List.getElem?_cons_zero]; rfl) (by kernel_rfl) (by kernel_rfl) (by rfl) (fun W hW => ?_) ?_; rotate_left; · (go_simp; try with_reducible rfl)); simp only [Act.put, List.setIfInBounds_toArray, List.set_cons_zero, List.set_cons_succ]); ((refine WalkN.take 4 _ ?_ (by simp only [List.getElem?_toArray, List.getElem?_cons_succ, List.getElem?_cons_zero]; rfl) (by kernel_rfl) (by kernel_rfl) (by rfl) (fun W hW => ?_) ?_; rotate_left; · (go_simp; try with_reducible rfl)); simp only [Act.put, List.setIfInBounds_toArray, List.set_cons_zero, List.set_cons_succ]); ((refine WalkN.take 5 _ ?_ (by simp only [List.getElem?_toArray, List.getElem?_cons_succ, List.getElem?_cons_zero]; rfl) (by kernel_rfl) (by kernel_rfl) (by rfl) (fun W hW => ?_) ?_; rotate_left; · (go_simp; try with_reducible rfl)); simp only [Act.put, List.setIfInBounds_toArray, List.set_cons_zero, List.set_cons_succ]); ((refine WalkN.take 6 _ ?_ (by simp only [List.getElem?_toArray, List.getElem?_cons_succ, List.getElem?_cons_zero]; rfl) (by kernel_rfl) (by kernel_rfl) (by rfl) (fun W hW => ?_) ?_; rotate_left; · (go_simp; try with_reducible rfl)); simp only [Act.put, List.setIfInBounds_toArray, List.set_cons_zero, List.set_cons_succ])
        clear h1
        refine WalkN.one 2 (by kernel_rfl) ?_
        refine ⟨_, (by simp only [List.getElem?_toArray, List.getElem?_cons_succ, List.getElem?_cons_zero]; rfl), by rfl, fun K hK => ?_⟩
        go_simp
        have hE1 := Ext.alloc wd (.cells #[.int .i64 ck, .string ct, .string cr] 63)
        have hk3 : Sl (fun _ => True) (wd.alloc (.cells #[.int .i64 ck, .string ct, .string cr] 63)) 3 (.slice (some ⟨wd.heap.size, 0, none⟩) 1 1) (chcs [⟨ck, ⟨ct, cr⟩⟩]) := Sl.made wd (fun _ => True) 3 1 63 #[.int .i64 ck, .string ct, .string cr] rfl (by decide) trivial
        have hown3 := HOd.out.below hE1
        refine hK.out _ _ (Below.trans HX5d.out (hE1.mono HX5d.out.size)) ?_
        clear hK
        refine WalkN.one 3 (by kernel_rfl) ?_
        refine ⟨_, (by simp only [List.getElem?_toArray, List.getElem?_cons_succ, List.getElem?_cons_zero]; rfl), by rfl, fun K hK => ?_⟩
        refine wp_own chT (.tmp 28) (.tmp 30) rfl rfl hown3 rfl hk3 (chcs_one _) (by have := HL1.out; rw [chcs_length, chcs_length]; simp only [List.length_cons, List.length_nil]; omega) (by have := HL1.out; rw [chcs_length, chcs_length]; simp only [List.length_cons, List.length_nil]; omega) (Nat.le_trans HX5d.out.size hE1.size) (fun v6 w6 hown6 hb6 hg6 => ?_)
        have hb6' : Below w4.heap.size w4 w6 := Below.trans HX5d.out (Below.trans (hE1.mono HX5d.out.size) hb6)
        refine hK.out _ _ hb6' ?_
        clear hK
        simp only [Act.put, List.setIfInBounds_toArray, List.set_cons_zero, List.set_cons_succ]
        refine WalkN.one 7 (by kernel_rfl) ?_
        refine ⟨_, (by simp only [List.getElem?_toArray, List.getElem?_cons_succ, List.getElem?_cons_zero]; rfl), by rfl, fun K hK => ?_⟩
        refine wp_own chT (.tmp 31) (.tmp 34) rfl rfl hown6 rfl (HS2.out.same (Same.below hb6')) (chcs_one _) (by have := HL1.out; have := HL2.out; rw [List.length_append, chcs_length, chcs_length, chcs_length]; simp only [List.length_cons, List.length_nil]; omega) (by have := HL1.out; have := HL2.out; rw [List.length_append, chcs_length, chcs_length, chcs_length]; simp only [List.length_cons, List.length_nil]; omega) hb6'.size (fun v7 w7 hown7 hb7 hg7 => ?_)
        have hb7' : Below w4.heap.size w4 w7 := Below.trans hb6' hb7
        refine hK.out _ _ hb7' ?_
        clear hK
        simp only [Act.put, List.setIfInBounds_toArray, List.set_cons_zero, List.set_cons_succ]
        ((refine WalkN.take 8 _ ?_ (by simp only [List.getElem?_toArray, List.getElem?_cons_succ, List.getElem?_cons_zero]; rfl) (by kernel_rfl) (by kernel_rfl) (by rfl) (fun W hW => ?_) ?_; rotate_left; · (go_simp; try with_reducible rfl)); simp only [Act.put, List.setIfInBounds_toArray, List.set_cons_zero, List.set_cons_succ])
        refine WalkN.done (by kernel_rfl) ?_
        have HF := Lib.hid (show Own w7 w.heap.size 63 3 v7 (chcs (([] : List Ch).take 0 ++ [⟨ck, ⟨ct, cr⟩⟩] ++ ([] : List Ch).drop 0)) from by
          rw [chcs_append, chcs_append]
          exact hown7.base HX4.out.size)
        have HX7 := Lib.hid (show Ext w w7 from HX4.out.trans hb7')
        have HPUT := Lib.hid (show PutAt ([] : List Ch) ⟨ck, ⟨ct, cr⟩⟩ (([] : List Ch).take 0 ++ [⟨ck, ⟨ct, cr⟩⟩] ++ ([] : List Ch).drop 0) from ⟨0, HI.out, HALL.out, HST.out, rfl⟩)
        obtain ⟨ao7, k7, c7, rfl, -, -, -⟩ := hown7.sl.len
        clear hown6 hown7 hb6 hb7 hb6' hb7' hg6 hg7 hown3 hk3 hE1 hkc hkq hk0
        go_wp2_with fail
        all_goals first
          | (go_ret; exact ⟨_, _, rfl, HPUT.out, HF.out, HX7.out⟩)
          | (go_ret; exact ⟨_, rfl, _, HPUT.out, HF.out, HX7.out⟩)
      · have HO1 := Lib.hid (Own.made w4 (Nat.le_refl _) 63 3)
        have hE1 := Ext.alloc w4 (.cells #[] 63)
        have HS1 := Lib.hid (show Sl (· < (w4.alloc (.cells #[] 63)).heap.size) (w4.alloc (.cells #[] 63)) 3 (.slice (some ad) l.length cc) (chcs (l.take l.length)) from by
          have := (HSL.out.up (HX4.out.trans hE1)).take l.length (by have := HI.out; omega)
          rwa [chcs_take] at this)
        have HS2 := Lib.hid (show Sl (· < w4.heap.size) w4 3 (.slice (if cc = l.length then (some ad) else some (ad.add (l.length * 3))) 0 (cc - l.length)) (chcs (l.drop l.length)) from by
          have := (HSL.out.up HX4.out).tailK (ao' := if cc = l.length then (some ad) else some (ad.add (l.length * 3))) l.length (by have := HI.out; omega) (fun h => by rw [if_neg h]; rfl)
          rwa [chcs_drop, Nat.sub_self] at this)
        have HB1 := Lib.hid (HB4.out.below hE1)
        have HL1 := Lib.hid (show (l.take l.length).length ≤ 10000000 from by have := HL.out; rw [List.length_take]; omega)
        have HL2 := Lib.hid (show (l.drop l.length).length ≤ 10000000 from by have := HL.out; rw [List.length_drop]; omega)
        have hkc : (l.length : Int) ≤ cc := by have := HLC.out; have := HI.out; omega
        have hkq : (l.length : Int) ≤ l.length := by have := HI.out; omega
        have hk0 : (0 : Int) ≤ (l.length : Int) := by omega
        clear hE1
        go_wp2_with (at_builtin; go_must (refine wpList_own chT rfl (.tmp 23) (.tmp 26) rfl rfl HO1.out rfl HS1.out (chcs_one _) (by have := HL1.out; rw [chcs_length]; simp only [List.length_nil]; omega) (by have := HL1.out; rw [chcs_length]; simp only [List.length_nil]; omega) (by simp) ?_; intro v5 w5 hown5 hb5 _; have HO5 := Lib.hid (show Own w5 w4.heap.size 63 3 v5 (chcs (l.take l.length)) from by rw [List.nil_append] at hown5; exact hown5); have HX5 := Lib.hid (show Ext w4 w5 from Below.trans (Ext.alloc w4 _) hb5); clear hown5 hb5))
        clear HO1 HS1 HB1
        obtain ⟨wd, hwd⟩ : ∃ wd, wd = w5.drew := ⟨_, rfl⟩
        have HX5d := Lib.hid (show Ext w4 wd from by rw [hwd]; exact HX5.out.trans (Ext.drew w5))
        have HXd := Lib.hid (show Ext w wd from HX4.out.trans HX5d.out)
        have HBd := Lib.hid (HB4.out.below HX5d.out)
        have HOd := Lib.hid (show Own wd w4.heap.size 63 3 v5 (chcs (l.take l.length)) from by rw [hwd]; exact HO5.out.below (Ext.drew w5))
        have HSd := Lib.hid (HS2.out.same (Same.below HX5d.out))
        refine region_walkN (Below w4.heap.size w4) (by rw [← hwd]; exact HX5d.out) (by kernel_rfl) (by kernel_rfl) (fun _ _ d _ _ h => by cases d <;> exact h) ?_
        rw [← hwd]
        have h1 : ∀ W, Below w4.heap.size w4 W → ∀ i, W.cell? ⟨bc, i, none⟩ = (#[.int .i64 ck, .string ct, .string cr] : Array Value)[i]? := fun W h => (HB4.out.below h).cells
        clear hwd HX5 HO5
        ((refine WalkN.take 0 _ ?_ (by simp only [List.getElem?_toArray, List.getElem?_cons_zero]; rfl) (by kernel_rfl) (by kernel_rfl) (by rfl) (fun W hW => ?_) ?_; rotate_left; · (go_simp; try with_reducible rfl)); simp only [Act.put, List.setIfInBounds_toArray, List.set_cons_zero, List.set_cons_succ]); ((refine WalkN.take 1 _ ?_ (by simp only [List.getElem?_toArray, List.getElem?_cons_succ, List.getElem?_cons_zero]; rfl) (by kernel_rfl) (by kernel_rfl) (by rfl) (fun W hW => ?_) ?_; rotate_left; · (go_simp; try with_reducible rfl)); simp only [Act.put, List.setIfInBounds_toArray, List.set_cons_zero, List.set_cons_succ]); ((refine WalkN.take 4 _ ?_ (by simp only [List.getElem?_toArray, List.getElem?_cons_succ, List.getElem?_cons_zero]; rfl) (by kernel_rfl) (by kernel_rfl) (by rfl) (fun W hW => ?_) ?_; rotate_left; · (go_simp; try with_reducible rfl)); simp only [Act.put, List.setIfInBounds_toArray, List.set_cons_zero, List.set_cons_succ]); ((refine WalkN.take 5 _ ?_ (by simp only [List.getElem?_toArray, List.getElem?_cons_succ, List.getElem?_cons_zero]; rfl) (by kernel_rfl) (by kernel_rfl) (by rfl) (fun W hW => ?_) ?_; rotate_left; · (go_simp; try with_reducible rfl)); simp only [Act.put, List.setIfInBounds_toArray, List.set_cons_zero, List.set_cons_succ]); ((refine WalkN.take 6 _ ?_ (by simp only [List.getElem?_toArray, List.getElem?_cons_succ, List.getElem?_cons_zero]; rfl) (by kernel_rfl) (by kernel_rfl) (by rfl) (fun W hW => ?_) ?_; rotate_left; · (go_simp; try with_reducible rfl)); simp only [Act.put, List.setIfInBounds_toArray, List.set_cons_zero, List.set_cons_succ])
        clear h1
        refine WalkN.one 2 (by kernel_rfl) ?_
        refine ⟨_, (by simp only [List.getElem?_toArray, List.getElem?_cons_succ, List.getElem?_cons_zero]; rfl), by rfl, fun K hK => ?_⟩
        go_simp
        have hE1 := Ext.alloc wd (.cells #[.int .i64 ck, .string ct, .string cr] 63)
        have hk3 : Sl (fun _ => True) (wd.alloc (.cells #[.int .i64 ck, .string ct, .string cr] 63)) 3 (.slice (some ⟨wd.heap.size, 0, none⟩) 1 1) (chcs [⟨ck, ⟨ct, cr⟩⟩]) := Sl.made wd (fun _ => True) 3 1 63 #[.int .i64 ck, .string ct, .string cr] rfl (by decide) trivial
        have hown3 := HOd.out.below hE1
        refine hK.out _ _ (Below.trans HX5d.out (hE1.mono HX5d.out.size)) ?_
        clear hK
        refine WalkN.one 3 (by kernel_rfl) ?_
        refine ⟨_, (by simp only [List.getElem?_toArray, List.getElem?_cons_succ, List.getElem?_cons_zero]; rfl), by rfl, fun K hK => ?_⟩
        refine wp_own chT (.tmp 28) (.tmp 30) rfl rfl hown3 rfl hk3 (chcs_one _) (by have := HL1.out; rw [chcs_length, chcs_length]; simp only [List.length_cons, List.length_nil]; omega) (by have := HL1.out; rw [chcs_length, chcs_length]; simp only [List.length_cons, List.length_nil]; omega) (Nat.le_trans HX5d.out.size hE1.size) (fun v6 w6 hown6 hb6 hg6 => ?_)
        have hb6' : Below w4.heap.size w4 w6 := Below.trans HX5d.out (Below.trans (hE1.mono HX5d.out.size) hb6)
        refine hK.out _ _ hb6' ?_
        clear hK
        simp only [Act.put, List.setIfInBounds_toArray, List.set_cons_zero, List.set_cons_succ]
        refine WalkN.one 7 (by kernel_rfl) ?_
        refine ⟨_, (by simp only [List.getElem?_toArray, List.getElem?_cons_succ, List.getElem?_cons_zero]; rfl), by rfl, fun K hK => ?_⟩
        refine wp_own chT (.tmp 31) (.tmp 34) rfl rfl hown6 rfl (HS2.out.same (Same.below hb6')) (chcs_one _) (by have := HL1.out; have := HL2.out; rw [List.length_append, chcs_length, chcs_length, chcs_length]; simp only [List.length_cons, List.length_nil]; omega) (by have := HL1.out; have := HL2.out; rw [List.length_append, chcs_length, chcs_length, chcs_length]; simp only [List.length_cons, List.length_nil]; omega) hb6'.size (fun v7 w7 hown7 hb7 hg7 => ?_)
        have hb7' : Below w4.heap.size w4 w7 := Below.trans hb6' hb7
        refine hK.out _ _ hb7' ?_
        clear hK
        simp only [Act.put, List.setIfInBounds_toArray, List.set_cons_zero, List.set_cons_succ]
        ((refine WalkN.take 8 _ ?_ (by simp only [List.getElem?_toArray, List.getElem?_cons_succ, List.getElem?_cons_zero]; rfl) (by kernel_rfl) (by kernel_rfl) (by rfl) (fun W hW => ?_) ?_; rotate_left; · (go_simp; try with_reducible rfl)); simp only [Act.put, List.setIfInBounds_toArray, List.set_cons_zero, List.set_cons_succ])
        refine WalkN.done (by kernel_rfl) ?_
        have HF := Lib.hid (show Own w7 w.heap.size 63 3 v7 (chcs (l.take l.length ++ [⟨ck, ⟨ct, cr⟩⟩] ++ l.drop l.length)) from by
          rw [chcs_append, chcs_append]
          exact hown7.base HX4.out.size)
        have HX7 := Lib.hid (show Ext w w7 from HX4.out.trans hb7')
        have HPUT := Lib.hid (show PutAt l ⟨ck, ⟨ct, cr⟩⟩ (l.take l.length ++ [⟨ck, ⟨ct, cr⟩⟩] ++ l.drop l.length) from ⟨l.length, HI.out, HALL.out, HST.out, rfl⟩)
        obtain ⟨ao7, k7, c7, rfl, -, -, -⟩ := hown7.sl.len
        clear hown6 hown7 hb6 hb7 hb6' hb7' hg6 hg7 hown3 hk3 hE1 hkc hkq hk0
        go_wp2_with fail
        all_goals first
          | (go_ret; exact ⟨_, _, rfl, HPUT.out, HF.out, HX7.out⟩)
          | (go_ret; exact ⟨_, rfl, _, HPUT.out, HF.out, HX7.out⟩)


end Go.Proofs.Ytipddhcfcehcaaa
