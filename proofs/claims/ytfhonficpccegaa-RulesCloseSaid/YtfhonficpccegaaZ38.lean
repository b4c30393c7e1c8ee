/- The document's needs. No condition: lemmas. -/
import Derived.Test.YtfhonficpccegaaZ36
import Derived.Test.YtfhonficpccegaaZ28
namespace Go.Proofs.Ytfhonficpccegaa
open Go Go.RowKit Go.Maps

/-- A row in order, of the members of X. -/
structure UpOf (o X : List R2) : Prop where
  up : UpR o
  mem : ∀ x, x ∈ o ↔ x ∈ X
theorem UpOf.nil : UpOf [] [] := ⟨List.Pairwise.nil, fun _ => Iff.rfl⟩
theorem UpOf.put {o X o' : List R2} {r : R2} (h : UpOf o X) (hi : Ins o r o') : UpOf o' (X ++ [r]) := ⟨hi.up, fun x => by rw [hi.mem, h.mem, List.mem_append, List.mem_singleton, or_comm]⟩
theorem UpOf.len {o X : List R2} (h : UpOf o X) : o.length ≤ X.length := nodup_le h.up.nodup fun x hx => (h.mem x).1 hx
theorem UpOf.congr {o X Y : List R2} (h : UpOf o X) (hm : ∀ x, x ∈ X ↔ x ∈ Y) : UpOf o Y := ⟨h.up, fun x => (h.mem x).trans (hm x)⟩
/-- The relations of that name, type by type. -/
def viaR (ts : List TyS) (b : ByteArray) : List R2 := (ts.filter fun t => hasT t b).map fun t => ⟨t.name, b⟩
theorem viaR_len (ts : List TyS) (b : ByteArray) : (viaR ts b).length ≤ ts.length := by
  unfold viaR
  rw [List.length_map]
  exact List.length_filter_le _ _
theorem viaR_take {ts : List TyS} {b : ByteArray} {i : Nat} (hi : i < ts.length) : viaR (ts.take (i + 1)) b = viaR (ts.take i) b ++ if hasT ts[i] b = true then [⟨ts[i].name, b⟩] else [] := by
  unfold viaR
  rw [List.take_succ_eq_append_getElem hi, List.filter_append, List.map_append]
  by_cases h : hasT ts[i] b = true <;> simp [h]
theorem viaR_mem (ts : List TyS) (b : ByteArray) (x : R2) : x ∈ viaR ts b ↔ x ∈ (whereP (refsOf ts) b).map fun n => (⟨n, b⟩ : R2) := by
  unfold viaR whereP
  simp only [List.mem_map, List.mem_filter]
  constructor
  · rintro ⟨t, ⟨ht, hh⟩, rfl⟩
    obtain ⟨r, hr, hb⟩ := List.any_eq_true.1 (show t.rels.any (fun r => decide (r.1 = b)) = true from hh)
    exact ⟨t.name, ⟨(⟨t.name, r.1⟩, r.2), ⟨refs_mem.2 ⟨t, ht, r, hr, rfl⟩, hb⟩, rfl⟩, rfl⟩
  · rintro ⟨n, ⟨y, ⟨hy, hb⟩, rfl⟩, rfl⟩
    obtain ⟨t, ht, r, hr, rfl⟩ := refs_mem.1 hy
    exact ⟨t, ⟨ht, List.any_eq_true.2 ⟨r, hr, hb⟩⟩, rfl⟩
/-- What a rule names itself. -/
def headN (ts : List TyS) (typ : ByteArray) (k : Int) (a b : ByteArray) : List R2 := if k = 2 then [⟨typ, a⟩] else if k = 3 then ⟨typ, a⟩ :: viaR ts b else []
theorem pneeds_head (ts : List TyS) (typ a b : ByteArray) (k : Int) (ps : List RT) (x : R2) : x ∈ headN ts typ k a b ++ pneedsL (refsOf ts) typ ps ↔ x ∈ (RT.mk k a b ps).pneeds (refsOf ts) typ := by
  rw [RT.pneeds, List.mem_append, List.mem_append]
  refine or_congr ?_ Iff.rfl
  unfold headN
  by_cases h2 : k = 2
  · rw [if_pos h2, if_pos h2]
  · rw [if_neg h2, if_neg h2]
    by_cases h3 : k = 3
    · rw [if_pos h3, if_pos h3, List.mem_cons, List.mem_cons, viaR_mem]
    · rw [if_neg h3, if_neg h3]
theorem pneedsL_le (P : List (R2 × RT)) (typ : ByteArray) {l : List RT} {i : Nat} (hi : i < l.length) : (pneedsL P typ (l.take i)).length + (l[i].pneeds P typ).length ≤ (pneedsL P typ l).length := by
  have h1 := pneedsL_take P typ hi
  have h2 : pneedsL P typ l = pneedsL P typ (l.take (i + 1)) ++ pneedsL P typ (l.drop (i + 1)) := by
    rw [pneedsL_eq, pneedsL_eq, pneedsL_eq, ← List.flatMap_append, List.take_append_drop]
  rw [h2, h1, List.length_append, List.length_append]
  omega
theorem szL_len : ∀ l : List RT, l.length ≤ szL l
  | [] => Nat.zero_le _
  | x :: l => by rw [szL, List.length_cons]; have := x.sz_eq; have := szL_len l; omega

set_option maxRecDepth 100000 in
set_option maxHeartbeats 600000 in
theorem needs06_any (ts : List TyS) (typ : ByteArray) (r : RT) : ∀ (tv pv : Value) (w : World), TysAt (· < w.heap.size) w ts tv → RTAt (· < w.heap.size) w r pv → ts.length ≤ 1000000 → r.sz ≤ 1000000 → (r.pneeds (refsOf ts) typ).length ≤ 1000000 →
    Calls Try.prog 46 #[.agg #[tv], .string typ, rV r pv] w fun e w' => ∃ (v : Value) (o : List R2), e = .returned v ∧ UpOf o (r.pneeds (refsOf ts) typ) ∧ Sl (· < w'.heap.size) w' 2 v (r2cs o) ∧ Below w.heap.size w w' := by
  induction r using RT.ind with
  | h r ih =>
  intro tv pv w hty hat htl hrs hpn
  obtain ⟨ao, c, rfl, hlc, hcm, hcell⟩ := hat.rows
  obtain ⟨aot, ct, rfl, htc, htcm, htcell⟩ := hty.rows
  have HC := Lib.hid hcell
  have HTC := Lib.hid htcell
  have HTY := Lib.hid hty
  have HI := Lib.hid ih
  have HRS := Lib.hid hrs
  have HPL := Lib.hid (show r.ps.length ≤ 1000000 from by
    have h1 := r.sz_eq
    have := szL_len r.ps
    omega)
  have HTL := Lib.hid htl
  have HPN := Lib.hid hpn
  obtain ⟨wa, hwa⟩ : ∃ x, x = w.alloc (.cells #[.slice aot ts.length ct] 24) := ⟨_, rfl⟩
  obtain ⟨wb, hwb⟩ : ∃ x, x = wa.alloc (.cells #[.int .i64 r.k, .string r.a, .string r.b, .slice ao r.ps.length c] 46) := ⟨_, rfl⟩
  have e1 : wa.heap.size = w.heap.size + 1 := by rw [hwa]; simp
  have x01 : Ext w wa := by rw [hwa]; exact Ext.alloc _ _
  have x12 : Ext wa wb := by rw [hwb]; exact Ext.alloc _ _
  have HSA := Lib.hid (show Blk wb w.heap.size #[.slice aot ts.length ct] 24 from Blk.below (by rw [hwa]; exact Blk.made _ _ _) x12)
  have HRA := Lib.hid (show Blk wb (w.heap.size + 1) #[.int .i64 r.k, .string r.a, .string r.b, .slice ao r.ps.length c] 46 from by rw [hwb, ← e1]; exact Blk.made _ _ _)
  have HX := Lib.hid (show Below w.heap.size w wb from x01.trans x12)
  have hsa := HSA.out.cells
  have hra := HRA.out.cells
  clear hty hat hcell htcell htc htcm htl hrs hpn e1 x01 x12 ih
  unfold rV
  obtain ⟨k, a, b, ps⟩ := r
  dsimp only [RT.ps] at HC HI HPL hlc
  dsimp only [RT.k, RT.a, RT.b, RT.ps] at HRA HX hra hsa HSA hwb ⊢
  have HPH := Lib.hid (pneeds_head ts typ a b k ps)
  have HHL := Lib.hid (show (headN ts typ k a b).length ≤ 1 + ts.length from by
    unfold headN
    have := viaR_len ts b
    split
    · simp
    · split
      · simp; omega
      · simp)
  have HPE := Lib.hid (show (pneedsL (refsOf ts) typ ps).length ≤ 1000000 from by
    have := HPN.out
    rw [RT.pneeds, List.length_append] at this
    omega)
  by_cases h2 : k = 2
  · subst h2
    have HPUT := Lib.hid (put06_up (.slice none 0 0) [] ⟨typ, a⟩ wb (Sl.nil _ _ _) List.Pairwise.nil (by simp))
    unfold r2V at HPUT
    dsimp only at HPUT
    subst hwb hwa
    go_enter Try.func46, Try.ntmps46
    go_wp2_with fail
    refine HPUT.out.mono ?_
    rintro e wh ⟨ov0, o0, rfl, hins, hsl0, hb0⟩
    have HO0 := Lib.hid (show UpOf o0 (headN ts typ 2 a b) from by unfold headN; rw [if_pos rfl]; exact UpOf.nil.put hins)
    have HS0 := Lib.hid hsl0
    have HXH := Lib.hid (show Below w.heap.size w wh from HX.out.trans (hb0.mono HX.out.size))
    have HSH := Lib.hid (HSA.out.below hb0)
    have HRH := Lib.hid (HRA.out.below hb0)
    have hrh := HRH.out.cells
    clear hins hsl0 hb0 HPUT hsa hra HSA HRA HX
    go_wp2_with fail
    clear hrh
    generalize headN ts typ 2 a b = X0 at *
    go_loopw [7, 53] (fun ov iv wr => ∃ (i : Nat) (o : List R2), i ≤ ps.length ∧ iv = .int .i64 i ∧ UpOf o (X0 ++ pneedsL (refsOf ts) typ (ps.take i)) ∧ Sl (· < wr.heap.size) wr 2 ov (r2cs o) ∧ Ext wh wr) (fun _ iv _ => ps.length - (intOf iv).toNat)
    case atStart => exact ⟨0, o0, by omega, rfl, by rw [List.take_zero, show pneedsL (refsOf ts) typ [] = [] from rfl, List.append_nil]; exact HO0.out, HS0.out, Ext.refl _⟩
    case round =>
      obtain ⟨i, o, hi, rfl, hup, hsl, hext⟩ := hrel
      have HUP := Lib.hid hup
      have HSL := Lib.hid hsl
      have HE := Lib.hid hext
      have HBW := Lib.hid (show Below w.heap.size w wr from HXH.out.trans (hext.mono HXH.out.size))
      have hbel := HBW.out
      have hpl := HPL.out
      clear hup hsl HO0 HS0
      by_cases hlt : i < ps.length
      · have HTK := Lib.hid (pneedsL_take (refsOf ts) typ hlt)
        have HLE := Lib.hid (pneedsL_le (refsOf ts) typ hlt)
        obtain ⟨bb, off, pv, rfl, hb, c0, c1, c2, c3, hpt⟩ := HC.out i hlt
        have d0 := (hbel.cell (p := ⟨bb, off + i * 4, none⟩) hb).trans c0
        have d1 := (hbel.cell (p := ⟨bb, off + i * 4 + 1, none⟩) hb).trans c1
        have d2 := (hbel.cell (p := ⟨bb, off + i * 4 + 2, none⟩) hb).trans c2
        have d3 := (hbel.cell (p := ⟨bb, off + i * 4 + 3, none⟩) hb).trans c3
        obtain ⟨aop, cp, rfl, -, -, -⟩ := hpt.rows
        have x1 := Ext.alloc wr (.cells #[.int .i64 ps[i].k, .string ps[i].a, .string ps[i].b, .slice aop ps[i].ps.length cp] 46)
        have HP1 := Lib.hid (Blk.made wr #[.int .i64 ps[i].k, .string ps[i].a, .string ps[i].b, .slice aop ps[i].ps.length cp] 46)
        have HB1 := Lib.hid (HBW.out.trans (x1.mono HBW.out.size))
        have HE1 := Lib.hid (show Ext wh _ from hext.trans x1)
        have HSL1 := Lib.hid (HSL.out.up x1)
        have HR := Lib.hid (HI.out ps[i] (List.getElem_mem hlt) _ _ _ (HTY.out.up HB1.out) (hpt.up HB1.out) HTL.out (by
          have := RT.sz_lt (r := .mk 2 a b ps) (List.getElem_mem hlt)
          have := HRS.out
          omega) (by have := HLE.out; have := HPE.out; omega))
        have hp1 := HP1.out.cells
        have hs1 := (HSH.out.below HE1.out).cells
        unfold rV at HR
        clear c0 c1 c2 c3 hpt hbel hext x1
        generalize ps[i] = p at *
        have HXL := Lib.hid (show (X0 ++ pneedsL (refsOf ts) typ (ps.take i)).length + (p.pneeds (refsOf ts) typ).length ≤ 3000001 from by
          rw [List.length_append]
          have := HLE.out; have := HPE.out; have := HHL.out; have := HTL.out
          omega)
        have HTX := Lib.hid (show X0 ++ pneedsL (refsOf ts) typ (ps.take (i + 1)) = X0 ++ pneedsL (refsOf ts) typ (ps.take i) ++ p.pneeds (refsOf ts) typ from by rw [HTK.out, List.append_assoc])
        generalize X0 ++ pneedsL (refsOf ts) typ (ps.take i) = Xi at *
        generalize p.pneeds (refsOf ts) typ = Yi at *
        clear HTK HLE
        go_wp2_with fail
        refine HR.out.mono ?_
        rintro e w5 ⟨v5, o5, rfl, hup5, hsl5, hb5⟩
        have HUP5 := Lib.hid hup5
        have HE5 := Lib.hid (HE1.out.trans hb5)
        have HSL5 := Lib.hid (HSL1.out.up hb5)
        have HL5 := Lib.hid (show o5.length ≤ Yi.length from hup5.len)
        obtain ⟨ao5, c5, rfl, -, -, h5c⟩ := refs_rows hsl5
        have H5C := Lib.hid h5c
        have hl5 : o5.length ≤ 3000001 := by have := HL5.out; have := HXL.out; omega
        clear HR hup5 hsl5 hb5 hp1 hs1 h5c d0 d1 d2 d3
        go_wp2_with fail
        go_loopw [7, 62] (fun ov iv wr => ∃ (j : Nat) (o2 : List R2), j ≤ o5.length ∧ iv = .int .i64 j ∧ UpOf o2 (Xi ++ o5.take j) ∧ Sl (· < wr.heap.size) wr 2 ov (r2cs o2) ∧ Ext w5 wr) (fun _ iv _ => o5.length - (intOf iv).toNat)
        case atStart => exact ⟨0, o, by omega, rfl, by rw [List.take_zero, List.append_nil]; exact HUP.out, HSL5.out, Ext.refl _⟩
        case round =>
          obtain ⟨j, o2, hj, rfl, hup2, hsl2, hext2⟩ := hrel
          have HUP2 := Lib.hid hup2
          have HSL2 := Lib.hid hsl2
          have HE2 := Lib.hid hext2
          by_cases hjt : j < o5.length
          · have HTJ := Lib.hid (show Xi ++ o5.take (j + 1) = Xi ++ o5.take j ++ [o5[j]] from by rw [List.take_succ_eq_append_getElem hjt, List.append_assoc])
            have HLJ := Lib.hid (show o2.length ≤ 1000000000 from by
              have h1 := hup2.len
              have h2 := HL5.out
              have h3 := HXL.out
              rw [List.length_append, List.length_take] at h1
              omega)
            obtain ⟨b2, off2, rfl, hb2, c0, c1⟩ := H5C.out j hjt
            have d0 := hext2.cell (a := ⟨b2, off2 + j * 2, none⟩) c0
            have d1 := hext2.cell (a := ⟨b2, off2 + j * 2 + 1, none⟩) c1
            generalize o5[j] = x at *
            obtain ⟨xt, xr⟩ := x
            dsimp only at d0 d1
            have x1 := Ext.alloc wr (.cells #[.string xt, .string xr] 43)
            have HXB := Lib.hid (Blk.made wr #[.string xt, .string xr] 43)
            have HE21 := Lib.hid (hext2.trans x1)
            have HPUT := Lib.hid (put06_up _ o2 ⟨xt, xr⟩ _ (hsl2.up x1) hup2.up HLJ.out)
            have xb1 := HXB.out.cells
            unfold r2V at HPUT
            dsimp only at HPUT
            clear c0 c1 hup2 hsl2 hext2 x1
            go_wp2_with fail
            refine HPUT.out.mono ?_
            rintro e w6 ⟨v6, o6, rfl, hins, hsl6, hb6⟩
            have HUP6 := Lib.hid (show UpOf o6 (Xi ++ o5.take (j + 1)) from by rw [HTJ.out]; exact HUP2.out.put hins)
            have HSL6 := Lib.hid hsl6
            have HE6 := Lib.hid (HE21.out.trans hb6)
            clear hins hsl6 hb6 HPUT xb1 d0 d1
            go_wp2_with fail
            go_roundw
            case rel => exact ⟨j + 1, o6, by omega, by go_num, HUP6.out, HSL6.out, HE6.out⟩
            case measure => simp [intOf]; omega
          · obtain rfl : j = o5.length := by omega
            have HUPN := Lib.hid (show UpOf o2 (X0 ++ pneedsL (refsOf ts) typ (ps.take (i + 1))) from by
              have h2 := hup2
              rw [List.take_length] at h2
              rw [HTX.out]
              exact h2.congr fun x => by rw [List.mem_append, List.mem_append, HUP5.out.mem])
            clear hup2 hsl2 hext2
            go_wp2_with fail
            go_roundw
            case rel => exact ⟨i + 1, o2, by omega, by go_num, HUPN.out, HSL2.out, HE5.out.trans HE2.out⟩
            case measure => simp [intOf]; omega
      · obtain rfl : i = ps.length := by omega
        rw [List.take_length] at HUP
        have HUPE := Lib.hid (HUP.out.congr HPH.out)
        clear hext hbel
        go_wp2_with fail
        go_ret
        exact ⟨_, o, rfl, HUPE.out, HSL.out, HBW.out⟩
  by_cases h3 : k = 3
  · subst h3
    clear h2
    have HPUT := Lib.hid (put06_up (.slice none 0 0) [] ⟨typ, a⟩ wb (Sl.nil _ _ _) List.Pairwise.nil (by simp))
    unfold r2V at HPUT
    dsimp only at HPUT
    subst hwb hwa
    go_enter Try.func46, Try.ntmps46
    go_wp2_with fail
    refine HPUT.out.mono ?_
    rintro e w1 ⟨ov1, o1, rfl, hins, hsl1, hb1⟩
    have HO1 := Lib.hid (show UpOf o1 [⟨typ, a⟩] from UpOf.nil.put hins)
    have HS1 := Lib.hid hsl1
    have HX1 := Lib.hid (show Below w.heap.size w w1 from HX.out.trans (hb1.mono HX.out.size))
    have HSB := Lib.hid (HSA.out.below hb1)
    have HRB := Lib.hid (HRA.out.below hb1)
    have hsb := HSB.out.cells
    have hrb := HRB.out.cells
    clear hins hsl1 hb1 HPUT hsa hra HSA HRA HX
    go_wp2_with fail
    clear hsb hrb
    go_loopw [7, 34] (fun ov iv wr => ∃ (i : Nat) (o : List R2), i ≤ ts.length ∧ iv = .int .i64 i ∧ UpOf o (⟨typ, a⟩ :: viaR (ts.take i) b) ∧ Sl (· < wr.heap.size) wr 2 ov (r2cs o) ∧ Ext w1 wr) (fun _ iv _ => ts.length - (intOf iv).toNat)
    case atStart => exact ⟨0, o1, by omega, rfl, HO1.out, HS1.out, Ext.refl _⟩
    case round =>
      obtain ⟨i, o, hi, rfl, hup, hsl, hext⟩ := hrel
      have HUP := Lib.hid hup
      have HSL := Lib.hid hsl
      have HE := Lib.hid hext
      have HBW := Lib.hid (show Below w.heap.size w wr from HX1.out.trans (hext.mono HX1.out.size))
      have hbel := HBW.out
      have htl := HTL.out
      clear HO1 HS1
      by_cases hlt : i < ts.length
      · have HTK := Lib.hid (viaR_take (b := b) hlt)
        have HOL := Lib.hid (show o.length ≤ 1000000000 from by
          have h1 := hup.len
          have h2 := viaR_len (ts.take i) b
          rw [List.length_cons] at h1
          rw [List.length_take] at h2
          omega)
        obtain ⟨bb, off, rv, rfl, hb, c0, c1, hrl⟩ := HTC.out i hlt
        have d0 := (hbel.cell (p := ⟨bb, off + i * 2, none⟩) hb).trans c0
        have d1 := (hbel.cell (p := ⟨bb, off + i * 2 + 1, none⟩) hb).trans c1
        obtain ⟨aor, cr, rfl, -, -, -⟩ := hrl.rows
        have x1 := Ext.alloc wr (.cells #[.string ts[i].name, .slice aor ts[i].rels.length cr] 59)
        have HT1 := Lib.hid (Blk.made wr #[.string ts[i].name, .slice aor ts[i].rels.length cr] 59)
        have HB1 := Lib.hid (HBW.out.trans (x1.mono HBW.out.size))
        have HE1 := Lib.hid (show Ext w1 _ from hext.trans x1)
        have HSL1 := Lib.hid (hsl.up x1)
        have HHS := Lib.hid (has_any ts[i] (.slice aor ts[i].rels.length cr) b _ (hrl.up HB1.out))
        have ht1 := HT1.out.cells
        have hr1 := (HRB.out.below HE1.out).cells
        generalize viaR (ts.take i) b = Vi at *
        generalize ts[i] = t at *
        clear c0 c1 hrl hbel hext x1 hup hsl
        cases hg : hasT t b with
        | false =>
          rw [hg] at HHS HTK
          clear hg
          go_wp2_with fail
          refine HHS.out.mono ?_
          rintro e w4 ⟨rfl, hb4⟩
          have HE4 := Lib.hid (HE1.out.trans hb4)
          have HSL4 := Lib.hid (HSL1.out.up hb4)
          have HUP4 := Lib.hid (show UpOf o (⟨typ, a⟩ :: viaR (ts.take (i + 1)) b) from by rw [HTK.out, if_neg (by decide), List.append_nil]; exact HUP.out)
          clear hb4 HHS HTK
          go_wp2_with fail
          go_roundw
          case rel => exact ⟨i + 1, o, by omega, by go_num, HUP4.out, HSL4.out, HE4.out⟩
          case measure => simp [intOf]; omega
        | true =>
          rw [hg] at HHS HTK
          clear hg
          go_wp2_with fail
          refine HHS.out.mono ?_
          rintro e w4 ⟨rfl, hb4⟩
          have HE4 := Lib.hid (HE1.out.trans hb4)
          have HPUT := Lib.hid (put06_up _ o ⟨t.name, b⟩ w4 (HSL1.out.up hb4) HUP.out.up HOL.out)
          have ht4 := (HT1.out.below hb4).cells
          have hr4 := (HRB.out.below HE4.out).cells
          unfold r2V at HPUT
          dsimp only at HPUT
          clear hb4 HHS ht1 hr1
          go_wp2_with fail
          refine HPUT.out.mono ?_
          rintro e w5 ⟨v5, o5, rfl, hins, hsl5, hb5⟩
          have HE5 := Lib.hid (HE4.out.trans hb5)
          have HSL5 := Lib.hid hsl5
          have HUP5 := Lib.hid (show UpOf o5 (⟨typ, a⟩ :: viaR (ts.take (i + 1)) b) from by rw [HTK.out, if_pos (by decide), ← List.cons_append]; exact HUP.out.put hins)
          clear hins hsl5 hb5 HPUT ht4 hr4 HTK
          go_wp2_with fail
          go_roundw
          case rel => exact ⟨i + 1, o5, by omega, by go_num, HUP5.out, HSL5.out, HE5.out⟩
          case measure => simp [intOf]; omega
      · obtain rfl : i = ts.length := by omega
        rw [List.take_length] at hup
        rename World => wh
        rename_i ov0 _ _
        have HO0 := Lib.hid (show UpOf o (headN ts typ 3 a b) from hup)
        have HS0 := Lib.hid hsl
        have HXH := Lib.hid hbel
        have HSH := Lib.hid (HSB.out.below hext)
        have HRH := Lib.hid (HRB.out.below hext)
        have hrh := HRH.out.cells
        obtain ⟨o0, ho0⟩ : ∃ x, x = o := ⟨_, rfl⟩
        rw [← ho0] at HO0 HS0
        clear ho0 hup hsl hbel hext HUP HSL HE HBW HX1 HSB HRB
        go_wp2_with fail
        clear hrh
        generalize headN ts typ 3 a b = X0 at *
        go_loopw [7, 53] (fun ov iv wr => ∃ (i : Nat) (o : List R2), i ≤ ps.length ∧ iv = .int .i64 i ∧ UpOf o (X0 ++ pneedsL (refsOf ts) typ (ps.take i)) ∧ Sl (· < wr.heap.size) wr 2 ov (r2cs o) ∧ Ext wh wr) (fun _ iv _ => ps.length - (intOf iv).toNat)
        case atStart => exact ⟨0, o0, by omega, rfl, by rw [List.take_zero, show pneedsL (refsOf ts) typ [] = [] from rfl, List.append_nil]; exact HO0.out, HS0.out, Ext.refl _⟩
        case round =>
          obtain ⟨i, o, hi, rfl, hup, hsl, hext⟩ := hrel
          have HUP := Lib.hid hup
          have HSL := Lib.hid hsl
          have HE := Lib.hid hext
          have HBW := Lib.hid (show Below w.heap.size w wr from HXH.out.trans (hext.mono HXH.out.size))
          have hbel := HBW.out
          have hpl := HPL.out
          clear hup hsl HO0 HS0
          by_cases hlt : i < ps.length
          · have HTK := Lib.hid (pneedsL_take (refsOf ts) typ hlt)
            have HLE := Lib.hid (pneedsL_le (refsOf ts) typ hlt)
            obtain ⟨bb, off, pv, rfl, hb, c0, c1, c2, c3, hpt⟩ := HC.out i hlt
            have d0 := (hbel.cell (p := ⟨bb, off + i * 4, none⟩) hb).trans c0
            have d1 := (hbel.cell (p := ⟨bb, off + i * 4 + 1, none⟩) hb).trans c1
            have d2 := (hbel.cell (p := ⟨bb, off + i * 4 + 2, none⟩) hb).trans c2
            have d3 := (hbel.cell (p := ⟨bb, off + i * 4 + 3, none⟩) hb).trans c3
            obtain ⟨aop, cp, rfl, -, -, -⟩ := hpt.rows
            have x1 := Ext.alloc wr (.cells #[.int .i64 ps[i].k, .string ps[i].a, .string ps[i].b, .slice aop ps[i].ps.length cp] 46)
            have HP1 := Lib.hid (Blk.made wr #[.int .i64 ps[i].k, .string ps[i].a, .string ps[i].b, .slice aop ps[i].ps.length cp] 46)
            have HB1 := Lib.hid (HBW.out.trans (x1.mono HBW.out.size))
            have HE1 := Lib.hid (show Ext wh _ from hext.trans x1)
            have HSL1 := Lib.hid (HSL.out.up x1)
            have HR := Lib.hid (HI.out ps[i] (List.getElem_mem hlt) _ _ _ (HTY.out.up HB1.out) (hpt.up HB1.out) HTL.out (by
              have := RT.sz_lt (r := .mk 3 a b ps) (List.getElem_mem hlt)
              have := HRS.out
              omega) (by have := HLE.out; have := HPE.out; omega))
            have hp1 := HP1.out.cells
            have hs1 := (HSH.out.below HE1.out).cells
            unfold rV at HR
            clear c0 c1 c2 c3 hpt hbel hext x1
            generalize ps[i] = p at *
            have HXL := Lib.hid (show (X0 ++ pneedsL (refsOf ts) typ (ps.take i)).length + (p.pneeds (refsOf ts) typ).length ≤ 3000001 from by
              rw [List.length_append]
              have := HLE.out; have := HPE.out; have := HHL.out; have := HTL.out
              omega)
            have HTX := Lib.hid (show X0 ++ pneedsL (refsOf ts) typ (ps.take (i + 1)) = X0 ++ pneedsL (refsOf ts) typ (ps.take i) ++ p.pneeds (refsOf ts) typ from by rw [HTK.out, List.append_assoc])
            generalize X0 ++ pneedsL (refsOf ts) typ (ps.take i) = Xi at *
            generalize p.pneeds (refsOf ts) typ = Yi at *
            clear HTK HLE
            go_wp2_with fail
            refine HR.out.mono ?_
            rintro e w5 ⟨v5, o5, rfl, hup5, hsl5, hb5⟩
            have HUP5 := Lib.hid hup5
            have HE5 := Lib.hid (HE1.out.trans hb5)
            have HSL5 := Lib.hid (HSL1.out.up hb5)
            have HL5 := Lib.hid (show o5.length ≤ Yi.length from hup5.len)
            obtain ⟨ao5, c5, rfl, -, -, h5c⟩ := refs_rows hsl5
            have H5C := Lib.hid h5c
            have hl5 : o5.length ≤ 3000001 := by have := HL5.out; have := HXL.out; omega
            clear HR hup5 hsl5 hb5 hp1 hs1 h5c d0 d1 d2 d3
            go_wp2_with fail
            go_loopw [7, 62] (fun ov iv wr => ∃ (j : Nat) (o2 : List R2), j ≤ o5.length ∧ iv = .int .i64 j ∧ UpOf o2 (Xi ++ o5.take j) ∧ Sl (· < wr.heap.size) wr 2 ov (r2cs o2) ∧ Ext w5 wr) (fun _ iv _ => o5.length - (intOf iv).toNat)
            case atStart => exact ⟨0, o, by omega, rfl, by rw [List.take_zero, List.append_nil]; exact HUP.out, HSL5.out, Ext.refl _⟩
            case round =>
              obtain ⟨j, o2, hj, rfl, hup2, hsl2, hext2⟩ := hrel
              have HUP2 := Lib.hid hup2
              have HSL2 := Lib.hid hsl2
              have HE2 := Lib.hid hext2
              by_cases hjt : j < o5.length
              · have HTJ := Lib.hid (show Xi ++ o5.take (j + 1) = Xi ++ o5.take j ++ [o5[j]] from by rw [List.take_succ_eq_append_getElem hjt, List.append_assoc])
                have HLJ := Lib.hid (show o2.length ≤ 1000000000 from by
                  have h1 := hup2.len
                  have h2 := HL5.out
                  have h3 := HXL.out
                  rw [List.length_append, List.length_take] at h1
                  omega)
                obtain ⟨b2, off2, rfl, hb2, c0, c1⟩ := H5C.out j hjt
                have d0 := hext2.cell (a := ⟨b2, off2 + j * 2, none⟩) c0
                have d1 := hext2.cell (a := ⟨b2, off2 + j * 2 + 1, none⟩) c1
                generalize o5[j] = x at *
                obtain ⟨xt, xr⟩ := x
                dsimp only at d0 d1
                have x1 := Ext.alloc wr (.cells #[.string xt, .string xr] 43)
                have HXB := Lib.hid (Blk.made wr #[.string xt, .string xr] 43)
                have HE21 := Lib.hid (hext2.trans x1)
                have HPUT := Lib.hid (put06_up _ o2 ⟨xt, xr⟩ _ (hsl2.up x1) hup2.up HLJ.out)
                have xb1 := HXB.out.cells
                unfold r2V at HPUT
                dsimp only at HPUT
                clear c0 c1 hup2 hsl2 hext2 x1
                go_wp2_with fail
                refine HPUT.out.mono ?_
                rintro e w6 ⟨v6, o6, rfl, hins, hsl6, hb6⟩
                have HUP6 := Lib.hid (show UpOf o6 (Xi ++ o5.take (j + 1)) from by rw [HTJ.out]; exact HUP2.out.put hins)
                have HSL6 := Lib.hid hsl6
                have HE6 := Lib.hid (HE21.out.trans hb6)
                clear hins hsl6 hb6 HPUT xb1 d0 d1
                go_wp2_with fail
                go_roundw
                case rel => exact ⟨j + 1, o6, by omega, by go_num, HUP6.out, HSL6.out, HE6.out⟩
                case measure => simp [intOf]; omega
              · obtain rfl : j = o5.length := by omega
                have HUPN := Lib.hid (show UpOf o2 (X0 ++ pneedsL (refsOf ts) typ (ps.take (i + 1))) from by
                  have h2 := hup2
                  rw [List.take_length] at h2
                  rw [HTX.out]
                  exact h2.congr fun x => by rw [List.mem_append, List.mem_append, HUP5.out.mem])
                clear hup2 hsl2 hext2
                go_wp2_with fail
                go_roundw
                case rel => exact ⟨i + 1, o2, by omega, by go_num, HUPN.out, HSL2.out, HE5.out.trans HE2.out⟩
                case measure => simp [intOf]; omega
          · obtain rfl : i = ps.length := by omega
            rw [List.take_length] at HUP
            have HUPE := Lib.hid (HUP.out.congr HPH.out)
            clear hext hbel
            go_wp2_with fail
            go_ret
            exact ⟨_, o, rfl, HUPE.out, HSL.out, HBW.out⟩
  have q2 : (k == 2) = false := by rw [beq_eq_false_iff_ne]; exact h2
  have q3 : (k == 3) = false := by rw [beq_eq_false_iff_ne]; exact h3
  have HO0 := Lib.hid (show UpOf [] (headN ts typ k a b) from by unfold headN; rw [if_neg h2, if_neg h3]; exact UpOf.nil)
  clear h2 h3
  have HS0 := Lib.hid (show Sl (· < wb.heap.size) wb 2 (.slice none 0 0) (r2cs []) from Sl.nil _ _ _)
  subst hwb hwa
  go_enter Try.func46, Try.ntmps46
  go_wp2_with fail
  obtain ⟨wh, hwh⟩ : ∃ x, x = (w.alloc (.cells #[.slice aot ts.length ct] 24)).alloc (.cells #[.int .i64 k, .string a, .string b, .slice ao ps.length c] 46) := ⟨_, rfl⟩
  obtain ⟨o0, ho0⟩ : ∃ x : List R2, x = [] := ⟨_, rfl⟩
  rw [← ho0] at HO0 HS0
  rw [← hwh] at HSA HRA HX HS0 ⊢
  have HSH := HSA
  have HRH := HRA
  have HXH := HX
  clear hwh ho0 hsa hra HSA HRA HX
  generalize headN ts typ k a b = X0 at *
  go_loopw [7, 53] (fun ov iv wr => ∃ (i : Nat) (o : List R2), i ≤ ps.length ∧ iv = .int .i64 i ∧ UpOf o (X0 ++ pneedsL (refsOf ts) typ (ps.take i)) ∧ Sl (· < wr.heap.size) wr 2 ov (r2cs o) ∧ Ext wh wr) (fun _ iv _ => ps.length - (intOf iv).toNat)
  case atStart => exact ⟨0, o0, by omega, rfl, by rw [List.take_zero, show pneedsL (refsOf ts) typ [] = [] from rfl, List.append_nil]; exact HO0.out, HS0.out, Ext.refl _⟩
  case round =>
    obtain ⟨i, o, hi, rfl, hup, hsl, hext⟩ := hrel
    have HUP := Lib.hid hup
    have HSL := Lib.hid hsl
    have HE := Lib.hid hext
    have HBW := Lib.hid (show Below w.heap.size w wr from HXH.out.trans (hext.mono HXH.out.size))
    have hbel := HBW.out
    have hpl := HPL.out
    clear hup hsl HO0 HS0
    by_cases hlt : i < ps.length
    · have HTK := Lib.hid (pneedsL_take (refsOf ts) typ hlt)
      have HLE := Lib.hid (pneedsL_le (refsOf ts) typ hlt)
      obtain ⟨bb, off, pv, rfl, hb, c0, c1, c2, c3, hpt⟩ := HC.out i hlt
      have d0 := (hbel.cell (p := ⟨bb, off + i * 4, none⟩) hb).trans c0
      have d1 := (hbel.cell (p := ⟨bb, off + i * 4 + 1, none⟩) hb).trans c1
      have d2 := (hbel.cell (p := ⟨bb, off + i * 4 + 2, none⟩) hb).trans c2
      have d3 := (hbel.cell (p := ⟨bb, off + i * 4 + 3, none⟩) hb).trans c3
      obtain ⟨aop, cp, rfl, -, -, -⟩ := hpt.rows
      have x1 := Ext.alloc wr (.cells #[.int .i64 ps[i].k, .string ps[i].a, .string ps[i].b, .slice aop ps[i].ps.length cp] 46)
      have HP1 := Lib.hid (Blk.made wr #[.int .i64 ps[i].k, .string ps[i].a, .string ps[i].b, .slice aop ps[i].ps.length cp] 46)
      have HB1 := Lib.hid (HBW.out.trans (x1.mono HBW.out.size))
      have HE1 := Lib.hid (show Ext wh _ from hext.trans x1)
      have HSL1 := Lib.hid (HSL.out.up x1)
      have HR := Lib.hid (HI.out ps[i] (List.getElem_mem hlt) _ _ _ (HTY.out.up HB1.out) (hpt.up HB1.out) HTL.out (by
        have := RT.sz_lt (r := .mk k a b ps) (List.getElem_mem hlt)
        have := HRS.out
        omega) (by have := HLE.out; have := HPE.out; omega))
      have hp1 := HP1.out.cells
      have hs1 := (HSH.out.below HE1.out).cells
      unfold rV at HR
      clear c0 c1 c2 c3 hpt hbel hext x1
      generalize ps[i] = p at *
      have HXL := Lib.hid (show (X0 ++ pneedsL (refsOf ts) typ (ps.take i)).length + (p.pneeds (refsOf ts) typ).length ≤ 3000001 from by
        rw [List.length_append]
        have := HLE.out; have := HPE.out; have := HHL.out; have := HTL.out
        omega)
      have HTX := Lib.hid (show X0 ++ pneedsL (refsOf ts) typ (ps.take (i + 1)) = X0 ++ pneedsL (refsOf ts) typ (ps.take i) ++ p.pneeds (refsOf ts) typ from by rw [HTK.out, List.append_assoc])
      generalize X0 ++ pneedsL (refsOf ts) typ (ps.take i) = Xi at *
      generalize p.pneeds (refsOf ts) typ = Yi at *
      clear HTK HLE
      go_wp2_with fail
      refine HR.out.mono ?_
      rintro e w5 ⟨v5, o5, rfl, hup5, hsl5, hb5⟩
      have HUP5 := Lib.hid hup5
      have HE5 := Lib.hid (HE1.out.trans hb5)
      have HSL5 := Lib.hid (HSL1.out.up hb5)
      have HL5 := Lib.hid (show o5.length ≤ Yi.length from hup5.len)
      obtain ⟨ao5, c5, rfl, -, -, h5c⟩ := refs_rows hsl5
      have H5C := Lib.hid h5c
      have hl5 : o5.length ≤ 3000001 := by have := HL5.out; have := HXL.out; omega
      clear HR hup5 hsl5 hb5 hp1 hs1 h5c d0 d1 d2 d3
      go_wp2_with fail
      go_loopw [7, 62] (fun ov iv wr => ∃ (j : Nat) (o2 : List R2), j ≤ o5.length ∧ iv = .int .i64 j ∧ UpOf o2 (Xi ++ o5.take j) ∧ Sl (· < wr.heap.size) wr 2 ov (r2cs o2) ∧ Ext w5 wr) (fun _ iv _ => o5.length - (intOf iv).toNat)
      case atStart => exact ⟨0, o, by omega, rfl, by rw [List.take_zero, List.append_nil]; exact HUP.out, HSL5.out, Ext.refl _⟩
      case round =>
        obtain ⟨j, o2, hj, rfl, hup2, hsl2, hext2⟩ := hrel
        have HUP2 := Lib.hid hup2
        have HSL2 := Lib.hid hsl2
        have HE2 := Lib.hid hext2
        by_cases hjt : j < o5.length
        · have HTJ := Lib.hid (show Xi ++ o5.take (j + 1) = Xi ++ o5.take j ++ [o5[j]] from by rw [List.take_succ_eq_append_getElem hjt, List.append_assoc])
          have HLJ := Lib.hid (show o2.length ≤ 1000000000 from by
            have h1 := hup2.len
            have h2 := HL5.out
            have h3 := HXL.out
            rw [List.length_append, List.length_take] at h1
            omega)
          obtain ⟨b2, off2, rfl, hb2, c0, c1⟩ := H5C.out j hjt
          have d0 := hext2.cell (a := ⟨b2, off2 + j * 2, none⟩) c0
          have d1 := hext2.cell (a := ⟨b2, off2 + j * 2 + 1, none⟩) c1
          generalize o5[j] = x at *
          obtain ⟨xt, xr⟩ := x
          dsimp only at d0 d1
          have x1 := Ext.alloc wr (.cells #[.string xt, .string xr] 43)
          have HXB := Lib.hid (Blk.made wr #[.string xt, .string xr] 43)
          have HE21 := Lib.hid (hext2.trans x1)
          have HPUT := Lib.hid (put06_up _ o2 ⟨xt, xr⟩ _ (hsl2.up x1) hup2.up HLJ.out)
          have xb1 := HXB.out.cells
          unfold r2V at HPUT
          dsimp only at HPUT
          clear c0 c1 hup2 hsl2 hext2 x1
          go_wp2_with fail
          refine HPUT.out.mono ?_
          rintro e w6 ⟨v6, o6, rfl, hins, hsl6, hb6⟩
          have HUP6 := Lib.hid (show UpOf o6 (Xi ++ o5.take (j + 1)) from by rw [HTJ.out]; exact HUP2.out.put hins)
          have HSL6 := Lib.hid hsl6
          have HE6 := Lib.hid (HE21.out.trans hb6)
          clear hins hsl6 hb6 HPUT xb1 d0 d1
          go_wp2_with fail
          go_roundw
          case rel => exact ⟨j + 1, o6, by omega, by go_num, HUP6.out, HSL6.out, HE6.out⟩
          case measure => simp [intOf]; omega
        · obtain rfl : j = o5.length := by omega
          have HUPN := Lib.hid (show UpOf o2 (X0 ++ pneedsL (refsOf ts) typ (ps.take (i + 1))) from by
            have h2 := hup2
            rw [List.take_length] at h2
            rw [HTX.out]
            exact h2.congr fun x => by rw [List.mem_append, List.mem_append, HUP5.out.mem])
          clear hup2 hsl2 hext2
          go_wp2_with fail
          go_roundw
          case rel => exact ⟨i + 1, o2, by omega, by go_num, HUPN.out, HSL2.out, HE5.out.trans HE2.out⟩
          case measure => simp [intOf]; omega
    · obtain rfl : i = ps.length := by omega
      rw [List.take_length] at HUP
      have HUPE := Lib.hid (HUP.out.congr HPH.out)
      clear hext hbel
      go_wp2_with fail
      go_ret
      exact ⟨_, o, rfl, HUPE.out, HSL.out, HBW.out⟩

end Go.Proofs.Ytfhonficpccegaa
