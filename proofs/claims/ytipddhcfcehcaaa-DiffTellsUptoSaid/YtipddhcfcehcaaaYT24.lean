/- Lemmas for the claim, no condition. -/
import Derived.ProofKit
import Derived.OpenShut
import Derived.Test.YtipddhcfcehcaaaYT22
import Derived.Test.YtipddhcfcehcaaaYT23
import Derived.Test.YtipddhcfcehcaaaYT0
namespace Go.Proofs.Ytipddhcfcehcaaa
open Go Go.RowKit Go.Maps Go.Shelf

theorem rels_look {l : List (ByteArray × RT)} (n : ByteArray) {rel : ByteArray} {i : Nat} (hi : i < l.length) (hr : l[i].1 = rel) (hb : ∀ j (hj : j < l.length), j < i → l[j].1 ≠ rel) : lookA (relsOf n l) ⟨n, rel⟩ = some l[i].2 := by
  induction l generalizing i with
  | nil => simp at hi
  | cons x l ih =>
    unfold relsOf
    rw [List.map_cons, lookA]
    cases i with
    | zero => rw [if_pos (by simpa using congrArg (R2.mk n) hr)]; rfl
    | succ i =>
      have h0 := hb 0 (by simp) (by omega)
      rw [if_neg (by intro e; injection e with _ e; exact h0 e)]
      exact ih (by simpa using hi) (by simpa using hr) fun j hj hji => by
        have := hb (j + 1) (by simpa using hj) (by omega)
        simpa using this
theorem RTAt.nil (S : Nat → Prop) (w : World) (k : Int) (a b : ByteArray) : RTAt S w (.mk k a b []) (.slice none 0 0) := (RTAt.iff _ _).2 ⟨[], rfl, by simp, Sl.nil _ _ _⟩
theorem look_app {a b : List (R2 × RT)} {k : R2} (h : lookA a k = none) : lookA (a ++ b) k = lookA b k := by
  induction a with
  | nil => rfl
  | cons x a ih =>
    rw [List.cons_append, lookA]
    rw [lookA] at h
    split at h
    · cases h
    · rename_i hn
      rw [if_neg hn]
      exact ih h
theorem look_app_some {a b : List (R2 × RT)} {k : R2} {r : RT} (h : lookA a k = some r) : lookA (a ++ b) k = some r := by
  induction a with
  | nil => cases h
  | cons x a ih =>
    rw [List.cons_append, lookA]
    rw [lookA] at h
    split at h
    · rename_i hp
      rw [if_pos hp]; exact h
    · rename_i hn
      rw [if_neg hn]
      exact ih h
theorem refs_pre {ts : List TyS} {i : Nat} {ty rel : ByteArray} (hb : ∀ j (hj : j < ts.length), j < i → ts[j].name ≠ ty) : lookA (refsOf (ts.take i)) ⟨ty, rel⟩ = none := by
  refine look_none_iff.2 fun p hp e => ?_
  obtain ⟨t, ht, hp⟩ := List.mem_flatMap.1 hp
  obtain ⟨r, hr, rfl⟩ := List.mem_map.1 hp
  obtain ⟨m, hm, rfl⟩ := List.getElem_of_mem ht
  rw [List.length_take] at hm
  rw [List.getElem_take] at e
  injection e with e1 _
  exact hb m (by omega) (by omega) e1
theorem refs_split {ts : List TyS} {i : Nat} (hi : i < ts.length) : refsOf ts = refsOf (ts.take i) ++ (relsOf ts[i].name ts[i].rels ++ refsOf (ts.drop (i + 1))) := by
  conv => lhs; rw [← List.take_append_drop i ts, refsOf_append, List.drop_eq_getElem_cons hi]
  rfl
/-- Found. -/
theorem refs_hit {ts : List TyS} {i k : Nat} {ty rel : ByteArray} (hi : i < ts.length) (hn : ts[i].name = ty) (hb : ∀ j (hj : j < ts.length), j < i → ts[j].name ≠ ty) (hk : k < ts[i].rels.length) (hr : ts[i].rels[k].1 = rel) (hb2 : ∀ j (hj : j < ts[i].rels.length), j < k → ts[i].rels[j].1 ≠ rel) : lookA (refsOf ts) ⟨ty, rel⟩ = some ts[i].rels[k].2 := by
  rw [refs_split hi, look_app (refs_pre hb)]
  refine look_app_some ?_
  rw [← hn]
  exact rels_look _ hk hr hb2
/-- Not there. -/
theorem refs_miss {ts : List TyS} (hu : uniqOk ts = true) {i : Nat} {ty rel : ByteArray} (hi : i < ts.length) (hn : ts[i].name = ty) (hb2 : ∀ j (hj : j < ts[i].rels.length), ts[i].rels[j].1 ≠ rel) : lookA (refsOf ts) ⟨ty, rel⟩ = none := by
  refine look_none_iff.2 fun p hp e => ?_
  obtain ⟨t, ht, r, hr, rfl⟩ := refs_mem.1 hp
  injection e with e1 e2
  obtain rfl := uniq_eq hu ht (List.getElem_mem hi) (e1.trans hn.symm)
  obtain ⟨m, hm, rfl⟩ := List.getElem_of_mem hr
  exact hb2 m hm e2
theorem refs_out {ts : List TyS} {ty rel : ByteArray} (hb : ∀ j (hj : j < ts.length), ts[j].name ≠ ty) : lookA (refsOf ts) ⟨ty, rel⟩ = none := by
  have := refs_pre (ts := ts) (i := ts.length) (rel := rel) fun j hj _ => hb j hj
  rwa [List.take_length] at this

set_option maxRecDepth 100000 in
set_option maxHeartbeats 4000000 in
theorem find06_any (ts : List TyS) (tv : Value) (ty rel : ByteArray) (w : World) (h : TysAt (· < w.heap.size) w ts tv) (hu : uniqOk ts = true) :
    Calls Try.prog 28 #[.agg #[tv], .string ty, .string rel] w fun e w' => ∃ z : RV, e = .returned (.tuple #[rvV z, .bool (lookA (refsOf ts) ⟨ty, rel⟩).isSome]) ∧ RTAt (· < w'.heap.size) w' z.1 z.2 ∧ (∀ r, lookA (refsOf ts) ⟨ty, rel⟩ = some r → z.1 = r) ∧ (lookA (refsOf ts) ⟨ty, rel⟩ = none → z = (.mk 0 ByteArray.empty ByteArray.empty [], .slice none 0 0)) ∧ Below w.heap.size w w' := by
  obtain ⟨ao, c, rfl, hlc, hcm, hcell⟩ := h.rows
  have HC := Lib.hid hcell
  have HU := Lib.hid hu
  obtain ⟨w1, hw1⟩ : ∃ x, x = w.alloc (.cells #[.slice ao ts.length c] 24) := ⟨_, rfl⟩
  obtain ⟨w2, hw2⟩ : ∃ x, x = w1.alloc (.cells #[.int .i64 0, .string ⟨#[]⟩, .string ⟨#[]⟩, .slice none 0 0] 72) := ⟨_, rfl⟩
  have e1 : w1.heap.size = w.heap.size + 1 := by rw [hw1]; simp
  have x01 : Ext w w1 := by rw [hw1]; exact Ext.alloc _ _
  have x12 : Ext w1 w2 := by rw [hw2]; exact Ext.alloc _ _
  have hs2 := (show Blk w2 w.heap.size #[.slice ao ts.length c] 24 from Blk.below (by rw [hw1]; exact Blk.made _ _ _) x12).cells
  have HR := Lib.hid (show Blk w2 (w.heap.size + 1) #[.int .i64 0, .string ⟨#[]⟩, .string ⟨#[]⟩, .slice none 0 0] 72 from by rw [hw2, ← e1]; exact Blk.made _ _ _)
  have HB2 := Lib.hid (show Below w.heap.size w w2 from x01.trans x12)
  subst hw2 hw1
  clear h hcell hu e1 x01 x12
  go_enter Try.func28, Try.ntmps28
  go_wp2_with fail
  obtain ⟨w2, hw2⟩ : ∃ x, x = (w.alloc (.cells #[.slice ao ts.length c] 24)).alloc (.cells #[.int .i64 0, .string ⟨#[]⟩, .string ⟨#[]⟩, .slice none 0 0] 72) := ⟨_, rfl⟩
  rw [← hw2] at HR HB2 ⊢
  clear hw2 hs2
  obtain ⟨br, hbr⟩ : ∃ x, x = w.heap.size + 1 := ⟨_, rfl⟩
  rw [← hbr] at HR ⊢
  have HBR := Lib.hid (show w.heap.size ≤ br from by omega)
  clear hbr
  go_loopw [15] (fun ii wr => ∃ i : Nat, i ≤ ts.length ∧ ii = .int .i64 i ∧ (∀ j (hj : j < ts.length), j < i → ts[j].name ≠ ty) ∧ Blk wr br #[.int .i64 0, .string ⟨#[]⟩, .string ⟨#[]⟩, .slice none 0 0] 72 ∧ Below w.heap.size w wr) (fun ii _ => ts.length - (intOf ii).toNat)
  case atStart => exact ⟨0, by omega, rfl, fun _ _ h => absurd h (by omega), HR.out, HB2.out⟩
  case round =>
    rename World => wo
    obtain ⟨i, hi, rfl, hall, hblk, hbel⟩ := hrel
    have HALL := Lib.hid hall
    have HRO := Lib.hid hblk
    have HBO := Lib.hid hbel
    clear HR HB2 hall hblk
    by_cases hlt : i < ts.length
    · have HUP := fun h => Lib.hid (upto_succ (p := fun j hj => ts[j].name ≠ ty) HALL.out hlt h)
      have HMISS := fun (h : ts[i].name = ty) => Lib.hid (fun (hb2 : ∀ j (hj : j < ts[i].rels.length), ts[i].rels[j].1 ≠ rel) => refs_miss HU.out hlt h hb2)
      have HHIT := fun (h : ts[i].name = ty) => Lib.hid (fun k hk hr hb2 => refs_hit (k := k) (rel := rel) hlt h HALL.out hk hr hb2)
      obtain ⟨b, off, pv2, hbo, hb, c0, c1, hat2⟩ := HC.out i hlt
      cases hbo
      have d0 := (hbel.cell (p := ⟨b, off + i * 2, none⟩) hb).trans c0
      have d1 := (hbel.cell (p := ⟨b, off + i * 2 + 1, none⟩) hb).trans c1
      obtain ⟨ao2, c2', rfl, hlc2, hcm2, hcell2⟩ := hat2.rows
      have HC2 := Lib.hid hcell2
      have hb1 := hbel.alloc hbel.size (.cells #[.string ts[i].name, .slice ao2 ts[i].rels.length c2'] 49)
      have HB1 := Lib.hid hb1
      have HRT := Lib.hid (HRO.out.below (Ext.alloc wo (.cells #[.string ts[i].name, .slice ao2 ts[i].rels.length c2'] 49)))
      have hbx := (Blk.made wo #[.string ts[i].name, .slice ao2 ts[i].rels.length c2'] 49).cells
      clear c0 c1 hat2 hcell2 hb1 hbel
      generalize ts[i] = x at *
      obtain ⟨xn, l⟩ := x
      dsimp only at *
      by_cases he : xn = ty
      · have HM := HMISS he
        have HH := HHIT he
        subst he
        clear HUP HMISS HHIT
        go_wp2_with fail
        obtain ⟨wq, hwq⟩ : ∃ x, x = wo.alloc (.cells #[.string xn, .slice ao2 l.length c2'] 49) := ⟨_, rfl⟩
        rw [← hwq] at HB1 HRT ⊢
        clear hwq hbx d0 d1
        go_loopw [26] (fun kk wr => ∃ k : Nat, k ≤ l.length ∧ kk = .int .i64 k ∧ (∀ j (hj : j < l.length), j < k → l[j].1 ≠ rel) ∧ Blk wr br #[.int .i64 0, .string ⟨#[]⟩, .string ⟨#[]⟩, .slice none 0 0] 72 ∧ Below w.heap.size w wr) (fun kk _ => l.length - (intOf kk).toNat)
        case atStart => exact ⟨0, by omega, rfl, fun _ _ h => absurd h (by omega), HRT.out, HB1.out⟩
        case round =>
          obtain ⟨k, hk, rfl, hall2, hblk, hbel⟩ := hrel
          have HALL2 := Lib.hid hall2
          have HRR := Lib.hid hblk
          have HBQ := Lib.hid hbel
          clear HRT HB1 hall2 hblk
          by_cases hlt2 : k < l.length
          · have HUP2 := fun h => Lib.hid (upto_succ (p := fun j hj => l[j].1 ≠ rel) HALL2.out hlt2 h)
            have HFND := fun (h : l[k].1 = rel) => Lib.hid (HH.out k hlt2 h HALL2.out)
            obtain ⟨b2, off2, pv3, hbo, hb2, c0, c1, c2, c3, c4, hat3⟩ := HC2.out k hlt2
            cases hbo
            have d0 := (hbel.cell (p := ⟨b2, off2 + k * 5, none⟩) hb2).trans c0
            have d1 := (hbel.cell (p := ⟨b2, off2 + k * 5 + 1, none⟩) hb2).trans c1
            have d2 := (hbel.cell (p := ⟨b2, off2 + k * 5 + 2, none⟩) hb2).trans c2
            have d3 := (hbel.cell (p := ⟨b2, off2 + k * 5 + 3, none⟩) hb2).trans c3
            have d4 := (hbel.cell (p := ⟨b2, off2 + k * 5 + 4, none⟩) hb2).trans c4
            obtain ⟨ao3, c3', rfl, -⟩ := hat3.rows
            obtain ⟨wx, hwx⟩ : ∃ x, x = wr.alloc (.cells #[.string l[k].1, .int .i64 l[k].2.k, .string l[k].2.a, .string l[k].2.b, .slice ao3 l[k].2.ps.length c3'] 82) := ⟨_, rfl⟩
            have xrx : Ext wr wx := by rw [hwx]; exact Ext.alloc _ _
            have hbx := (show Blk wx wr.heap.size #[.string l[k].1, .int .i64 l[k].2.k, .string l[k].2.a, .string l[k].2.b, .slice ao3 l[k].2.ps.length c3'] 82 from by rw [hwx]; exact Blk.made _ _ _).cells
            have HRX := Lib.hid (HRR.out.below xrx)
            have HBX := Lib.hid (show Below w.heap.size w wx from HBQ.out.trans (xrx.mono HBQ.out.size))
            have HAT := Lib.hid hat3
            have hne : br ≠ wr.heap.size := by have := HRR.out.lt; omega
            clear c0 c1 c2 c3 c4 hat3 xrx hbel
            generalize l[k] = y at *
            obtain ⟨yn, p⟩ := y
            dsimp only at *
            by_cases he2 : yn = rel
            · have HF := HFND he2
              subst he2
              have r3 := HRX.out.cells
              have f3 := HRX.out.free
              have hs1 := HRX.out.set_to 0 (.int .i64 p.k) rfl
              have hs2 := hs1.set_to 1 (.string p.a) rfl
              have hs3 := hs2.set_to 2 (.string p.b) rfl
              have hs4 := hs3.set_to 3 (.slice ao3 p.ps.length c3') rfl
              have HS4 := Lib.hid hs4
              have HBE := Lib.hid (show Below w.heap.size w ((((wx.setCell ⟨br, 0, none⟩ (.int .i64 p.k)).setCell ⟨br, 1, none⟩ (.string p.a)).setCell ⟨br, 2, none⟩ (.string p.b)).setCell ⟨br, 3, none⟩ (.slice ao3 p.ps.length c3')) from (((HBX.out.setCell HBR.out _).setCell HBR.out _).setCell HBR.out _).setCell HBR.out _)
              clear hs1 hs2 hs3 hs4 HUP2 HFND
              subst hwx
              go_wp2_with fail
              refine bodyPost_ret (v := .tuple #[.agg #[.int .i64 p.k, .string p.a, .string p.b, .slice ao3 p.ps.length c3'], .bool true]) ?_ rfl ⟨(p, .slice ao3 p.ps.length c3'), ?_, ?_, fun r hr => ?_, fun hr => ?_, HBE.out⟩
              · rw [results_cell_tmp rfl]
                have hl := run_loadVar_row (P := Try.prog) _ br _ 72 _ _ _ HS4.out Try.underlying72 rfl (by kernel_rfl)
                simp [asAddr, hl, Result.andThen]
              · unfold rvV rV
                rw [HF.out]; rfl
              · exact HAT.out.up HBE.out
              · rw [HF.out] at hr; cases hr; rfl
              · rw [HF.out] at hr; cases hr
            · have HN := HUP2 he2
              have hne2 := ba_beq' he2
              rw [← ByteArray.toList_eq, ← ByteArray.toList_eq] at hne2
              clear HUP2 HFND he2
              subst hwx
              go_wp2_with fail
              go_roundw
              case rel => exact ⟨k + 1, by omega, by go_num, HN.out, HRX.out, HBX.out⟩
              case measure => simp [intOf]; omega
          · obtain rfl : k = l.length := by omega
            have HF := Lib.hid (HM.out fun j hj => HALL2.out j hj hj)
            have r3 := HRR.out.cells
            have f3 := HRR.out.free
            have hs1 := HRR.out.set_to 0 (.int .i64 0) rfl
            have hs2 := hs1.set_to 1 (.string ⟨#[]⟩) rfl
            have hs3 := hs2.set_to 2 (.string ⟨#[]⟩) rfl
            have hs4 := hs3.set_to 3 (.slice none 0 0) rfl
            have HS4 := Lib.hid hs4
            have HBE := Lib.hid (show Below w.heap.size w ((((wr.setCell ⟨br, 0, none⟩ (.int .i64 0)).setCell ⟨br, 1, none⟩ (.string ⟨#[]⟩)).setCell ⟨br, 2, none⟩ (.string ⟨#[]⟩)).setCell ⟨br, 3, none⟩ (.slice none 0 0)) from (((HBQ.out.setCell HBR.out _).setCell HBR.out _).setCell HBR.out _).setCell HBR.out _)
            clear hs1 hs2 hs3 hs4 hbel
            go_wp2_with fail
            refine bodyPost_ret (v := .tuple #[.agg #[.int .i64 0, .string ⟨#[]⟩, .string ⟨#[]⟩, .slice none 0 0], .bool false]) ?_ rfl ⟨(.mk 0 ByteArray.empty ByteArray.empty [], .slice none 0 0), ?_, ?_, fun r hr => ?_, fun hr => rfl, HBE.out⟩
            · rw [results_cell_tmp rfl]
              have hl := run_loadVar_row (P := Try.prog) _ br _ 72 _ _ _ HS4.out Try.underlying72 rfl (by kernel_rfl)
              simp [asAddr, hl, Result.andThen]
            · rw [HF.out]; rfl
            · exact RTAt.nil _ _ _ _ _
            · rw [HF.out] at hr; cases hr
      · have HN := HUP he
        have hne := ba_beq' he
        rw [← ByteArray.toList_eq, ← ByteArray.toList_eq] at hne
        clear HUP HMISS HHIT he
        go_wp2_with fail
        go_roundw
        case rel => exact ⟨i + 1, by omega, by go_num, HN.out, HRT.out, HB1.out⟩
        case measure => simp [intOf]; omega
    · obtain rfl : i = ts.length := by omega
      have HF := Lib.hid (refs_out (rel := rel) fun j hj => HALL.out j hj hj)
      have r3 := HRO.out.cells
      have f3 := HRO.out.free
      have hs1 := HRO.out.set_to 0 (.int .i64 0) rfl
      have hs2 := hs1.set_to 1 (.string ⟨#[]⟩) rfl
      have hs3 := hs2.set_to 2 (.string ⟨#[]⟩) rfl
      have hs4 := hs3.set_to 3 (.slice none 0 0) rfl
      have HS4 := Lib.hid hs4
      have HBE := Lib.hid (show Below w.heap.size w ((((wo.setCell ⟨br, 0, none⟩ (.int .i64 0)).setCell ⟨br, 1, none⟩ (.string ⟨#[]⟩)).setCell ⟨br, 2, none⟩ (.string ⟨#[]⟩)).setCell ⟨br, 3, none⟩ (.slice none 0 0)) from (((HBO.out.setCell HBR.out _).setCell HBR.out _).setCell HBR.out _).setCell HBR.out _)
      clear hs1 hs2 hs3 hs4 hbel
      go_wp2_with fail
      refine bodyPost_ret (v := .tuple #[.agg #[.int .i64 0, .string ⟨#[]⟩, .string ⟨#[]⟩, .slice none 0 0], .bool false]) ?_ rfl ⟨(.mk 0 ByteArray.empty ByteArray.empty [], .slice none 0 0), ?_, ?_, fun r hr => ?_, fun hr => rfl, HBE.out⟩
      · rw [results_cell_tmp rfl]
        have hl := run_loadVar_row (P := Try.prog) _ br _ 72 _ _ _ HS4.out Try.underlying72 rfl (by kernel_rfl)
        simp [asAddr, hl, Result.andThen]
      · rw [HF.out]; rfl
      · exact RTAt.nil _ _ _ _ _
      · rw [HF.out] at hr; cases hr

end Go.Proofs.Ytipddhcfcehcaaa
namespace Go.Proofs.Ytipddhcfcehcaaa
open Go Go.RowKit Go.Maps

theorem look_refs {ts : List TyS} {x : R2} (h : x ∈ (refsOf ts).map (·.1)) : ∃ r, lookA (refsOf ts) x = some r := by
  cases hl : lookA (refsOf ts) x with
  | some r => exact ⟨r, rfl⟩
  | none =>
    obtain ⟨p, hp, rfl⟩ := List.mem_map.1 h
    exact absurd rfl (look_none_iff.1 hl p hp)
theorem UpR.nodup {l : List R2} (h : UpR l) : l.Nodup := List.Pairwise.imp (fun h e => by subst e; rw [ltR_irr] at h; cases h) h
theorem LeastP.congr {ts : List TyS} {S T : List R2} (h : LeastP ts S) (hm : ∀ x, x ∈ T ↔ x ∈ S) : LeastP ts T := ⟨fun x hx => h.sub x ((hm x).1 hx), fun U hU x hx => h.least U hU x ((hm x).1 hx)⟩

/-- Where the document's Barren stands within a round. -/
structure BI (ts : List TyS) (N0 : Nat) (L A : List R2) (ch : Bool) (pr : List (R2 × RT)) : Prop where
  upL : UpR L
  upA : UpR A
  least : LeastP ts L
  subA : ∀ x ∈ A, x ∈ (refsOf ts).map (·.1)
  len0 : N0 ≤ L.length
  more : ch = true → N0 < L.length
  done : ∀ p ∈ pr, p.1 ∈ A ∧ (ch = false → p.2.pcan (refsOf ts) L p.1.t = true → p.1 ∈ L)
theorem BI.start {ts : List TyS} {L A : List R2} (hL : UpR L) (hA : UpR A) (hl : LeastP ts L) (hs : ∀ x ∈ A, x ∈ (refsOf ts).map (·.1)) : BI ts L.length L A false [] :=
  ⟨hL, hA, hl, hs, Nat.le_refl _, fun h => (by cases h), fun p hp => (by cases hp)⟩
theorem BI.skip {ts : List TyS} {N0 : Nat} {L A A' : List R2} {ch : Bool} {pr : List (R2 × RT)} (h : BI ts N0 L A ch pr) {x : R2} {r : RT} (hx : (x, r) ∈ refsOf ts) (hA : Ins A x A') (hc : x ∈ L ∨ r.pcan (refsOf ts) L x.t = false) : BI ts N0 L A' ch (pr ++ [(x, r)]) :=
  ⟨h.upL, hA.up, h.least, fun y hy => by
    rcases (hA.mem y).1 hy with rfl | hy
    · exact List.mem_map.2 ⟨_, hx, rfl⟩
    · exact h.subA y hy, h.len0, h.more, fun p hp => by
    rcases List.mem_append.1 hp with hp | hp
    · exact ⟨(hA.mem _).2 (.inr (h.done p hp).1), (h.done p hp).2⟩
    · obtain rfl := List.mem_singleton.1 hp
      refine ⟨(hA.mem _).2 (.inl rfl), fun _ hcn => ?_⟩
      rcases hc with hc | hc
      · exact hc
      · dsimp only at hcn; rw [hc] at hcn; cases hcn⟩
theorem BI.add {ts : List TyS} {N0 : Nat} {L L' A A' : List R2} {ch : Bool} {pr : List (R2 × RT)} (h : BI ts N0 L A ch pr) {x : R2} {r : RT} (hx : (x, r) ∈ refsOf ts) (hA : Ins A x A') (hL : Ins L x L') (hn : ¬ x ∈ L) (hp : r.pcan (refsOf ts) L x.t = true) : BI ts N0 L' A' true (pr ++ [(x, r)]) := by
  have hlen : L.length + 1 ≤ L'.length := by
    have := nodup_le (l := x :: L) (u := L') (List.nodup_cons.2 ⟨hn, h.upL.nodup⟩) fun y hy => (hL.mem y).2 (List.mem_cons.1 hy)
    simpa using this
  exact ⟨hL.up, hA.up, (h.least.add hx hp).congr fun y => by rw [hL.mem, addR_mem]; exact or_comm, fun y hy => by
    rcases (hA.mem y).1 hy with rfl | hy
    · exact List.mem_map.2 ⟨_, hx, rfl⟩
    · exact h.subA y hy, by have := h.len0; omega, fun _ => by have := h.len0; omega, fun p hp => by
    rcases List.mem_append.1 hp with hp | hp
    · exact ⟨(hA.mem _).2 (.inr (h.done p hp).1), fun e => (by cases e)⟩
    · obtain rfl := List.mem_singleton.1 hp
      exact ⟨(hA.mem _).2 (.inl rfl), fun e => (by cases e)⟩⟩
theorem BI.all {ts : List TyS} {N0 : Nat} {L A : List R2} {ch : Bool} (h : BI ts N0 L A ch (refsOf ts)) : ∀ x ∈ (refsOf ts).map (·.1), x ∈ A := fun x hx => by
  obtain ⟨p, hp, rfl⟩ := List.mem_map.1 hx
  exact (h.done p hp).1
end Go.Proofs.Ytipddhcfcehcaaa
namespace Go.Proofs.Ytipddhcfcehcaaa
open Go Go.RowKit Go.Maps

/-- A row in order, of the members of X. -/
structure UpOf (o X : List R2) : Prop where
  up : UpR o
  mem : ∀ x, x ∈ o ↔ x ∈ X
theorem UpOf.nil : UpOf [] [] := ⟨List.Pairwise.nil, fun _ => Iff.rfl⟩
theorem UpOf.put {o X o' : List R2} {r : R2} (h : UpOf o X) (hi : Ins o r o') : UpOf o' (X ++ [r]) := ⟨hi.up, fun x => by rw [hi.mem, h.mem, List.mem_append, List.mem_singleton, or_comm]⟩
theorem UpOf.len {o X : List R2} (h : UpOf o X) : o.length ≤ X.length := nodup_le h.up.nodup fun x hx => (h.mem x).1 hx
theorem UpOf.congr {o X Y : List R2} (h : UpOf o X) (hm : ∀ x, x ∈ X ↔ x ∈ Y) : UpOf o Y := ⟨h.up, fun x => (h.mem x).trans (hm x)⟩
end Go.Proofs.Ytipddhcfcehcaaa
namespace Go.Proofs.Ytipddhcfcehcaaa
open Go Go.RowKit Go.Maps

/-- Where the document's Closure stands within a round that began with o. -/
structure CD (ts : List TyS) (r : R2) (o pr o2 : List R2) : Prop where
  up : UpR o2
  sub : ∀ x ∈ o, x ∈ o2
  re : ∀ x ∈ o2, ReachP ts r x
  done : ∀ x ∈ pr, ∀ y ∈ needsP ts x, y ∈ o2
theorem CD.start {ts : List TyS} {r : R2} {o : List R2} (hu : UpR o) (hr : ∀ x ∈ o, ReachP ts r x) : CD ts r o [] o := ⟨hu, fun _ h => h, hr, fun x hx => (by cases hx)⟩
theorem CD.put {ts : List TyS} {r y : R2} {o pr o2 o3 : List R2} (h : CD ts r o pr o2) (hi : Ins o2 y o3) (hy : ReachP ts r y) : CD ts r o pr o3 :=
  ⟨hi.up, fun x hx => (hi.mem x).2 (.inr (h.sub x hx)), fun x hx => by
    rcases (hi.mem x).1 hx with rfl | hx
    · exact hy
    · exact h.re x hx, fun x hx z hz => (hi.mem z).2 (.inr (h.done x hx z hz))⟩
theorem CD.next {ts : List TyS} {r : R2} {o o2 : List R2} {i : Nat} (h : CD ts r o (o.take i) o2) (hi : i < o.length) (hn : ∀ y ∈ needsP ts o[i], y ∈ o2) : CD ts r o (o.take (i + 1)) o2 :=
  ⟨h.up, h.sub, h.re, fun x hx y hy => by
    rw [List.take_succ_eq_append_getElem hi, List.mem_append, List.mem_singleton] at hx
    rcases hx with hx | rfl
    · exact h.done x hx y hy
    · exact hn y hy⟩
theorem CD.len {ts : List TyS} {r : R2} {o pr o2 : List R2} (h : CD ts r o pr o2) : o2.length ≤ (univP ts r).length := nodup_le h.up.nodup fun x hx => reach_univ (h.re x hx)
theorem CD.more {ts : List TyS} {r : R2} {o pr o2 : List R2} (h : CD ts r o pr o2) (hu : UpR o) : o.length ≤ o2.length := nodup_le hu.nodup h.sub
theorem CD.fin {ts : List TyS} {r : R2} {o o2 : List R2} (h : CD ts r o o o2) (hu : UpR o) (hr : r ∈ o) (hl : o2.length = o.length) (x : R2) : x ∈ o2 ↔ ReachP ts r x := by
  have hb : ∀ y ∈ o2, y ∈ o := fun y hy => by
    by_cases hyo : y ∈ o
    · exact hyo
    · have := nodup_le (l := y :: o) (u := o2) (List.nodup_cons.2 ⟨hyo, hu.nodup⟩) fun z hz => by
        rcases List.mem_cons.1 hz with rfl | hz
        · exact hy
        · exact h.sub z hz
      simp at this
      omega
  refine ⟨h.re x, fun hx => ?_⟩
  induction hx with
  | self => exact h.sub r hr
  | step _ h2 ih => exact h.done _ (hb _ ih) _ h2

end Go.Proofs.Ytipddhcfcehcaaa
namespace Go.Proofs.Ytipddhcfcehcaaa
open Go Go.RowKit Go.ChangeShapes Go.WideShapes Go.ChangeAt

section
variable {H : Type} {enc : TypeId × Value → H} {P : Program} {w : World}

theorem mapM_some {α β : Type} {f : α → Option β} : ∀ {l : List α} {r : List β}, l.mapM f = some r → r.length = l.length ∧ ∀ (i : Nat) (x : α), l[i]? = some x → f x = r[i]? := by
  intro l
  induction l with
  | nil => intro r h; simp at h; subst h; exact ⟨rfl, by simp⟩
  | cons a l ih =>
    intro r h
    simp only [List.mapM_cons, Option.bind_eq_bind, Option.bind_eq_some_iff, Option.pure_def, Option.some.injEq] at h
    obtain ⟨b, hb, bs, hbs, rfl⟩ := h
    obtain ⟨h1, h2⟩ := ih hbs
    refine ⟨by simp [h1], fun i x hx => ?_⟩
    cases i with
    | zero => simp at hx; subst hx; simpa using hb
    | succ i => simp at hx ⊢; exact h2 i x hx

theorem addr_add_add (a : Addr) (x y : Nat) : (a.add x).add y = a.add (x + y) := by
  by_cases hx : x = 0
  · subst hx; simp [Addr.add]
  · by_cases hy : y = 0
    · subst hy; simp [Addr.add]
    · simp [Addr.add, hx, hy, Nat.add_assoc]

/-- The cells of a row: as World.cells? reads them. -/
theorem cells_get {base : Nat} {a : Addr} {n : Nat} {cs : List Value} (h : w.cells? base a n = some cs) : cs.length = n ∧ ∀ j, j < n → w.cell? (a.add j) = cs[j]? := by
  unfold World.cells? at h
  split at h
  · obtain ⟨h1, h2⟩ := mapM_some h
    refine ⟨by simpa using h1, fun j hj => h2 j j (by simp [hj])⟩
  · cases h

/-- What all of a law's arguments read as, they read as behind a call that has only made new blocks. -/
theorem trodAll_stays {ts : List TypeId} (hl : laidOutB P = true) {W W' : World} (hb : Below W.heap.size W W') :
    ∀ {vs : List Value} {ds : List (DataW H)} {ps : List MemPlace}, (∀ t ∈ ts, P.readableRec t = true ∧ t < P.types.size) → (∀ x ∈ ps, x.block < W.heap.size) →
      DataW.TrodAll enc P W 0 (fun _ => true) true ts vs ds ps → DataW.TrodAll enc P W' 0 (fun b => decide (b < W.heap.size)) true ts vs ds ps := by
  induction ts with
  | nil =>
    intro vs ds ps _ _ h
    cases vs <;> cases ds <;> simp_all [DataW.TrodAll]
  | cons t ts ih =>
    intro vs ds ps hr hlt h
    obtain ⟨v, vs', d, ds', p, q, rfl, rfl, rfl, h1, h2⟩ := trodAll_cons h
    exact trodAll_cons_mk (Below.trod hl (hr t (by simp)).1 (hr t (by simp)).2 h1 hb (fun x hx => hlt x (by simp [hx]))) (ih (fun t ht => hr t (by simp [ht])) (fun x hx => hlt x (by simp [hx])) h2)

/-- A law's post: it says true; the arguments read as they did. -/
theorem law_post {f : Func} {s : ChangeSpec} {W W' : World} {args : Array Value} {ds gs : List (DataW H)} {before : List MemPlace} {tb : TypeId}
    (hW : DataW.Whole enc P f.params.toList s.vars false W args.toList ds gs before) (hvars : s.vars = []) (hres : f.resultTypes = #[tb]) (htb : P.underlying tb = some .bool)
    (hfn : (s.fn H (ds ++ gs)).results = [.lit (.bool true)]) (hfa : (s.fn H (ds ++ gs)).args = ds) (hfv : (s.fn H (ds ++ gs)).vars = [])
    (hl : laidOutB P = true) (hr : (f.params.toList.all fun t => P.readableRec t && decide (t < P.types.size)) = true) (hb : Below W.heap.size W W') :
    s.post enc P f false true false false W args (.bool true) W' := by
  have hlt := hW.lt
  have hW0 := hW
  obtain ⟨p, q, hA, hV, rfl, _, _⟩ := hW
  rw [hvars] at hV
  refine ⟨ds, gs, p ++ q, [], p, [], hW0, ?_, ?_, ?_, hb.frame _, fun h => by cases h⟩
  · rw [hfn, hres]
    exact trodAll_mk1 (shut_bool htb true)
  · rw [hfa]
    refine trodAll_stays hl hb (fun t ht => ?_) (fun x hx => hlt x (by simp [hx])) hA
    have := List.all_eq_true.1 hr t ht
    simpa using this
  · rw [hfv, hvars]
    rfl
end

end Go.Proofs.Ytipddhcfcehcaaa
