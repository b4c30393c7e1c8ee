/- Lemmas for the claim, no condition. -/
import Derived.Test.YtipddhcfcehcaaaYT28
import Derived.Test.YtipddhcfcehcaaaYT26
import Derived.Test.YtipddhcfcehcaaaYT25
import Derived.Test.YtipddhcfcehcaaaYT27
namespace Go.Proofs.Ytipddhcfcehcaaa
open Go Go.RowKit Go.Maps

/-- A rule's parts as they come, in new memory. -/
structure CpI (lo : Nat) (w : World) (q : List (RT × Value)) (pv : Value) : Prop where
  row : Own w lo 72 4 pv (q.flatMap rC)
  parts : ∀ x ∈ q, RTAt (fun b => (lo ≤ b ∧ b < w.heap.size) ∧ pv.ownBlock ≠ some b) w x.1 x.2
theorem CpI.keep {lo : Nat} {w w' : World} {q : List (RT × Value)} {pv : Value} (h : CpI lo w q pv) (hk : Ext w w') : CpI lo w' q pv :=
  ⟨h.row.below hk, fun x hx => ((h.parts x hx).same fun b hb => hk.block b hb.1.2).mono fun b hb => ⟨⟨hb.1.1, Nat.lt_of_lt_of_le hb.1.2 hk.size⟩, hb.2⟩⟩
theorem CpI.add {lo n0 : Nat} {w w7 : World} {q : List (RT × Value)} {pv v7 v5 : Value} {r : RT} (h : CpI lo w q pv) (hk : ∀ b, b < w.heap.size → pv.ownBlock ≠ some b → w7.heap[b]? = w.heap[b]?) (hz : w.heap.size ≤ w7.heap.size)
    (ho : Own w7 lo 72 4 v7 (q.flatMap rC ++ rC (r, v5))) (hb : ∀ g, v7.ownBlock = some g → pv.ownBlock = some g ∨ w.heap.size ≤ g) (hr : RTAt (fun b => n0 ≤ b ∧ b < w.heap.size) w r v5) (hn0 : lo ≤ n0) (hpv : ∀ g, pv.ownBlock = some g → g < n0) :
    CpI lo w7 (q ++ [(r, v5)]) v7 := by
  have hm : ∀ b, ((lo ≤ b ∧ b < w.heap.size) ∧ pv.ownBlock ≠ some b) → ((lo ≤ b ∧ b < w7.heap.size) ∧ v7.ownBlock ≠ some b) := fun b hb' => ⟨⟨hb'.1.1, Nat.lt_of_lt_of_le hb'.1.2 hz⟩, fun e => by
    rcases hb b e with e | e
    · exact hb'.2 e
    · have := hb'.1.2; omega⟩
  refine ⟨by rw [List.flatMap_append]; simpa using ho, fun x hx => ?_⟩
  rcases List.mem_append.1 hx with hx | hx
  · exact ((h.parts x hx).same fun b hb' => hk b hb'.1.2 hb'.2).mono hm
  · obtain rfl := List.mem_singleton.1 hx
    have h2 : ∀ b, (n0 ≤ b ∧ b < w.heap.size) → ((lo ≤ b ∧ b < w.heap.size) ∧ pv.ownBlock ≠ some b) := fun b hb' => ⟨⟨Nat.le_trans hn0 hb'.1, hb'.2⟩, fun e => by have := hpv b e; omega⟩
    exact ((hr.mono h2).same fun b hb' => hk b hb'.1.2 hb'.2).mono hm
theorem szL_lenC : ∀ l : List RT, l.length ≤ szL l
  | [] => Nat.zero_le _
  | a :: l => by
    have h1 := szL_lenC l
    have h2 := a.sz_eq
    rw [szL, List.length_cons]
    omega

set_option maxRecDepth 100000 in
set_option maxHeartbeats 1000000 in
theorem copied_any (r : RT) : ∀ (pv : Value) (w : World), RTAt (· < w.heap.size) w r pv → r.sz ≤ 1000000 → Calls Try.prog 71 #[rV r pv] w fun e w' => ∃ pv', e = .returned (rV r pv') ∧ RTAt (fun b => w.heap.size ≤ b ∧ b < w'.heap.size) w' r pv' ∧ Ext w w' := by
  induction r using RT.ind with
  | h r ih =>
    intro pv w h hsz
    obtain ⟨k, a, b, ps⟩ := r
    have hsz' : szL ps ≤ 999999 := by have := (RT.mk k a b ps).sz_eq; dsimp only [RT.ps] at this; omega
    obtain ⟨ao, c, rfl, hc1, hc2, hrow⟩ := h.rows
    dsimp only [RT.ps] at hc1 hrow ih
    have HRW := Lib.hid hrow
    have HIH := Lib.hid (fun i (hi : i < ps.length) => ih ps[i] (List.getElem_mem hi))
    have HSZ := Lib.hid (fun i (hi : i < ps.length) => szL_mem (List.getElem_mem hi))
    have HPL := Lib.hid (show ps.length ≤ 999999 from Nat.le_trans (szL_lenC ps) hsz')
    have HS9 := Lib.hid hsz'
    unfold rV
    dsimp only [RT.k, RT.a, RT.b, RT.ps]
    obtain ⟨wa, hwa⟩ : ∃ x, x = w.alloc (.cells #[.int .i64 k, .string a, .string b, .slice ao ps.length c] 72) := ⟨_, rfl⟩
    obtain ⟨wb, hwb⟩ : ∃ x, x = wa.alloc (.cells #[.int .i64 0, .string ⟨#[]⟩, .string ⟨#[]⟩, .slice none 0 0] 72) := ⟨_, rfl⟩
    have ea : wa.heap.size = w.heap.size + 1 := by rw [hwa]; simp
    have eb : wb.heap.size = w.heap.size + 2 := by rw [hwb]; simp [ea]
    have xa : Ext w wa := by rw [hwa]; exact Ext.alloc _ _
    have xb : Ext wa wb := by rw [hwb]; exact Ext.alloc _ _
    have HA := Lib.hid (show Blk wb w.heap.size #[.int .i64 k, .string a, .string b, .slice ao ps.length c] 72 from Blk.below (by rw [hwa]; exact Blk.made _ _ _) xb)
    have HB := Lib.hid (show Blk wb (w.heap.size + 1) #[.int .i64 0, .string ⟨#[]⟩, .string ⟨#[]⟩, .slice none 0 0] 72 from by rw [hwb, ← ea]; exact Blk.made _ _ _)
    have HX := Lib.hid (xa.trans xb)
    have HEB := Lib.hid eb
    clear hrow ih hsz hsz' h xa xb ea eb
    subst hwb hwa
    go_enter Try.func71, Try.ntmps71
    go_wp2_with fail
    obtain ⟨wb, hwb⟩ : ∃ x, x = (w.alloc (.cells #[.int .i64 k, .string a, .string b, .slice ao ps.length c] 72)).alloc (.cells #[.int .i64 0, .string ⟨#[]⟩, .string ⟨#[]⟩, .slice none 0 0] 72) := ⟨_, rfl⟩
    rw [← hwb] at HA HB HX HEB ⊢
    clear hwb
    go_loopw [3, 9] (fun ov iv wr => ∃ (i : Nat) (q : List (RT × Value)), i ≤ ps.length ∧ iv = .int .i64 i ∧ q.map (·.1) = ps.take i ∧ CpI (w.heap.size + 2) wr q ov ∧ Ext wb wr) (fun _ iv _ => ps.length - (intOf iv).toNat)
    case atStart => exact ⟨0, [], by omega, rfl, rfl, ⟨Own.nil _ _ _ _, by simp⟩, Ext.refl _⟩
    case round =>
      obtain ⟨i, q, hi, rfl, hq, hcp, hext⟩ := hrel
      have HQ := Lib.hid hq
      have HCP := Lib.hid hcp
      have HE := Lib.hid hext
      have HXW := Lib.hid (show Ext w wr from HX.out.trans hext)
      obtain ⟨aov, kv, cv, rfl, -, -, -⟩ := hcp.row.sl.len
      have HPO := Lib.hid (show ∀ g, Value.ownBlock (.slice aov kv cv) = some g → w.heap.size + 2 ≤ g ∧ g < wr.heap.size from hcp.row.block)
      have HZ := Lib.hid (show w.heap.size + 2 ≤ wr.heap.size from by have := HEB.out; have := hext.size; omega)
      clear hq hcp
      by_cases hlt : i < ps.length
      · obtain ⟨bb, off, rv, rfl, hbb, d0, d1, d2, d3, hat⟩ := HRW.out i hlt
        have d0 := HXW.out.cell (a := ⟨bb, off + i * 4, none⟩) d0
        have d1 := HXW.out.cell (a := ⟨bb, off + i * 4 + 1, none⟩) d1
        have d2 := HXW.out.cell (a := ⟨bb, off + i * 4 + 2, none⟩) d2
        have d3 := HXW.out.cell (a := ⟨bb, off + i * 4 + 3, none⟩) d3
        have HTK := Lib.hid (show ps.take (i + 1) = ps.take i ++ [ps[i]] from List.take_succ_eq_append_getElem hlt)
        have HLQ := Lib.hid (show q.length ≤ 999999 from by have := congrArg List.length HQ.out; rw [List.length_map, List.length_take] at this; have := HPL.out; omega)
        have HC0 := HIH.out i hlt
        have HS0 := Lib.hid (HSZ.out i hlt)
        generalize ps[i] = p at *
        obtain ⟨aor, cr, rfl, -, -, -⟩ := hat.rows
        obtain ⟨wp, hwp⟩ : ∃ x, x = wr.alloc (.cells #[.int .i64 p.k, .string p.a, .string p.b, .slice aor p.ps.length cr] 72) := ⟨_, rfl⟩
        have xp : Ext wr wp := by rw [hwp]; exact Ext.alloc _ _
        have pb := (show Blk wp wr.heap.size #[.int .i64 p.k, .string p.a, .string p.b, .slice aor p.ps.length cr] 72 from by rw [hwp]; exact Blk.made _ _ _).cells
        have HXP := Lib.hid (show Ext w wp from HXW.out.trans xp)
        have HCQ := Lib.hid (HCP.out.keep xp)
        have HEP := Lib.hid (show Ext wb wp from hext.trans xp)
        have HZP := Lib.hid (show wr.heap.size < wp.heap.size from by rw [hwp]; simp)
        have HC1 := Lib.hid (HC0 (.slice aor p.ps.length cr) wp (hat.up HXP.out) (by have := HS0.out; have := HS9.out; omega))
        unfold rV at HC1
        clear HC0 hat xp hext HCP HE
        subst hwp
        go_wp2_with fail
        refine HC1.out.mono ?_
        rintro e w5 ⟨v5, rfl, hat5, hb5⟩
        generalize wr.alloc (.cells #[.int .i64 p.k, .string p.a, .string p.b, .slice aor p.ps.length cr] 72) = wp at *
        obtain ⟨ao5, c5, rfl, -, -, -⟩ := hat5.rows
        have HC5 := Lib.hid (HCQ.out.keep hb5)
        have HX5 := Lib.hid (show Ext w w5 from HXP.out.trans hb5)
        have HE5 := Lib.hid (show Ext wb w5 from HEP.out.trans hb5)
        have HAT := Lib.hid hat5
        have HZ5 := Lib.hid (show w.heap.size + 2 ≤ w5.heap.size ∧ wr.heap.size < w5.heap.size ∧ w.heap.size + 2 ≤ wp.heap.size from by have := hb5.size; have := HZP.out; have := HZ.out; omega)
        have X56 := Lib.hid (Ext.alloc w5 (.cells #[.int .i64 p.k, .string p.a, .string p.b, .slice ao5 p.ps.length c5] 72))
        clear hat5 hb5 HXP HEP HCQ HC1 d0 d1 d2 d3 pb
        go_wp2_with (at_builtin; go_must (refine wpList_ownw ruleT rfl (.tmp 13) (.tmp 16) rfl rfl (HC5.out.row.below X56.out) rfl (m := 1) (news := [.int .i64 p.k, .string p.a, .string p.b, .slice ao5 p.ps.length c5]) rfl (by intro j u hu; rw [Addr.add_lit, cell_of_row _ w5.heap.size (0 + j) #[.int .i64 p.k, .string p.a, .string p.b, .slice ao5 p.ps.length c5] 72 (0, 0) (heap_alloc_new w5 _)]; simpa using hu) (by simp [Value.oneCell']) (by have := HLQ.out; rw [flat_length rC_length]; simp; omega) (by have := HLQ.out; rw [flat_length rC_length]; simp; omega) (by have := HZ5.out; have := X56.out.size; omega) ?_; intro v7 w7 hown7 hb7 hgr7; have hk57 : ∀ b, b < w5.heap.size → Value.ownBlock (.slice aov kv cv) ≠ some b → w7.heap[b]? = w5.heap[b]? := (fun b h1 h2 => (hgr7.block b (Nat.lt_of_lt_of_le h1 X56.out.size) (fun e => h2 e.symm)).trans (X56.out.block b h1)); have HADD := Lib.hid (HC5.out.add (n0 := wp.heap.size) (r := p) (v5 := .slice ao5 p.ps.length c5) hk57 (Nat.le_trans X56.out.size hgr7.size) hown7 (fun g hg => (hb7 g hg).imp id (fun h => Nat.le_trans X56.out.size h)) HAT.out HZ5.out.2.2 (fun g hg => by have := (HPO.out g hg).2; have := HZP.out; omega)); have HE7 := Lib.hid (show Ext wb w7 from ⟨(hgr7.os.trans X56.out.os).trans HE5.out.os, (hgr7.tape.trans X56.out.tape).trans HE5.out.tape, (hgr7.output.trans X56.out.output).trans HE5.out.output, Nat.le_trans HE5.out.size (Nat.le_trans X56.out.size hgr7.size), fun b hb => (hk57 b (Nat.lt_of_lt_of_le hb HE5.out.size) (fun e => by have := (HPO.out b e).1; have := HEB.out; omega)).trans (HE5.out.block b hb)⟩); clear hown7 hb7 hgr7 hk57))
        go_roundw
        case rel => exact ⟨i + 1, q ++ [(p, .slice ao5 p.ps.length c5)], by omega, by go_num, by rw [List.map_append, HQ.out, HTK.out]; rfl, HADD.out, HE7.out⟩
        case measure => simp [intOf]; omega
      · obtain rfl : i = ps.length := by omega
        have HAR := Lib.hid (HA.out.below hext)
        have HBR := Lib.hid (HB.out.below hext)
        have ha := HAR.out.cells
        have hfa := HAR.out.free
        have hb := HBR.out.cells
        have hfb := HBR.out.free
        clear hext
        go_wp2_with fail
        clear ha hfa hb hfb
        have hks : Kept (fun b => b ≠ w.heap.size ∧ b ≠ w.heap.size + 1) wr (((((wr.setCell ⟨w.heap.size, 3, none⟩ (.slice aov kv cv)).setCell ⟨w.heap.size + 1, 0, none⟩ (.int .i64 k)).setCell ⟨w.heap.size + 1, 1, none⟩ (.string a)).setCell ⟨w.heap.size + 1, 2, none⟩ (.string b)).setCell ⟨w.heap.size + 1, 3, none⟩ (.slice aov kv cv)) := ((Kept.refl _ wr).set (a := ⟨w.heap.size, 3, none⟩) (fun h => h.1 rfl) _).set4 (B := w.heap.size + 1) (fun h => h.2 rfl) _ _ _ _
        refine bodyPost_ret (results_cell_row rfl _ _ (w.heap.size + 1) 72 #[.int .i64 k, .string a, .string b, .slice aov kv cv] (0, 0) _ rfl ((HBR.out.other (a := ⟨w.heap.size, 3, none⟩) (show w.heap.size + 1 ≠ w.heap.size by omega) _).set4 _ _ _ _) Try.underlying72 rfl (by kernel_rfl)) rfl ?_
        refine ⟨.slice aov kv cv, rfl, (RTAt.iff _ _).2 ⟨q, by rw [HQ.out, List.take_length]; rfl, fun x hx => ?_, ?_⟩, Below.trans HXW.out (hks.below fun b (hb : b < w.heap.size) => (⟨by omega, by omega⟩ : b ≠ w.heap.size ∧ b ≠ w.heap.size + 1))⟩
        · exact ((HCP.out.parts x hx).same fun b hb => hks.block b ⟨by have := hb.1.1; omega, by have := hb.1.1; omega⟩).mono fun b hb => ⟨by have := hb.1.1; omega, Nat.lt_of_lt_of_le hb.1.2 hks.size⟩
        · exact (HCP.out.row.sl.same fun b hb => hks.block b ⟨by have := hb.1; omega, by have := hb.1; omega⟩).mono fun b hb => ⟨by have := hb.1; omega, Nat.lt_of_lt_of_le hb.2 hks.size⟩

end Go.Proofs.Ytipddhcfcehcaaa
namespace Go.Proofs.Ytipddhcfcehcaaa
open Go Go.RowKit Go.Maps

theorem rel_own : ∀ n ∈ relNs, ownB n = true ∧ n ≠ (⟨#[116, 121, 112, 101]⟩ : ByteArray) ∧ n.size ≤ 6 := by
  intro n hn
  have h : (relNs.all fun n => ownB n && decide (n ≠ (⟨#[116, 121, 112, 101]⟩ : ByteArray)) && decide (n.size ≤ 6)) = true := by kernel_rfl
  have := List.all_eq_true.1 h n hn
  simp only [Bool.and_eq_true, decide_eq_true_eq] at this
  exact ⟨this.1.1, this.1.2, this.2⟩
/-- What the plain laws want of a rule. -/
structure FineR (ts : List TyS) (t : TyS) (d n m : Nat) (r : RT) : Prop where
  text : ∀ k, k + d ≤ 8 → r.textOk k = true
  sz : r.sz ≤ n
  bk : r.bk ≤ m
  ok : r.Ok
  named : r.named ts t = true
theorem FineR.leaf {ts : List TyS} {t : TyS} {own : List ByteArray} (hs : ∀ n ∈ own, n ∈ relNs) (hh : ∀ n ∈ own, hasT t n = true) (ha : ∀ n ∈ relNs.take 2, anyT ts n = true) (d : Nat) {r : RT} (h : LeafR own r) : FineR ts t d 1 17 r := by
  have h0 : (⟨#[]⟩ : ByteArray).size = 0 := rfl
  rcases h with rfl | ⟨a, h1, rfl⟩ | ⟨a, h1, b, h2, rfl⟩
  · refine ⟨fun k _ => ?_, ?_, ?_, ?_, ?_⟩
    · rw [RT.textOk]; rfl
    · rw [RT.sz]; simp [szL]
    · rw [RT.bk, bkL, h0]; omega
    · rw [RT.Ok, okL, h0]; exact ⟨by omega, by omega, by omega, trivial⟩
    · rw [RT.named]; simp [namedL, headOk]
  · obtain ⟨o1, o2, o3⟩ := rel_own a (hs a h1)
    refine ⟨fun k _ => ?_, ?_, ?_, ?_, ?_⟩
    · rw [RT.textOk, if_neg (by decide), if_pos rfl, o1]; rfl
    · rw [RT.sz]; simp [szL]
    · rw [RT.bk, bkL, h0]; omega
    · rw [RT.Ok, okL, h0]; exact ⟨by omega, by omega, by omega, trivial⟩
    · rw [RT.named]; simp [namedL, headOk, hh a h1]
  · obtain ⟨o1, o2, o3⟩ := rel_own a (hs a h1)
    obtain ⟨p1, p2, p3⟩ := rel_own b (List.take_subset 2 relNs h2)
    refine ⟨fun k _ => ?_, ?_, ?_, ?_, ?_⟩
    · rw [RT.textOk, if_neg (by decide), if_neg (by decide), if_pos rfl, o1, p1]; rfl
    · rw [RT.sz]; simp [szL]
    · rw [RT.bk, bkL]; omega
    · rw [RT.Ok, okL]; exact ⟨by omega, by omega, by omega, trivial⟩
    · rw [RT.named]; simp [namedL, headOk, hh a h1, ha b h2]
theorem FineR.mono {ts : List TyS} {t : TyS} {d n m d' n' m' : Nat} {r : RT} (h : FineR ts t d n m r) (hd : d ≤ d') (hn : n ≤ n') (hm : m ≤ m') : FineR ts t d' n' m' r := ⟨fun k hk => h.text k (by omega), Nat.le_trans h.sz hn, Nat.le_trans h.bk hm, h.ok, h.named⟩
theorem GoodR.zero {own : List ByteArray} {r : RT} : GoodR own 0 r ↔ LeafR own r := Iff.rfl
section
variable {ts : List TyS} {t : TyS} {own : List ByteArray} (hs : ∀ n ∈ own, n ∈ relNs) (hh : ∀ n ∈ own, hasT t n = true) (ha : ∀ n ∈ relNs.take 2, anyT ts n = true)
include hs hh ha
end
end Go.Proofs.Ytipddhcfcehcaaa
namespace Go.Proofs.Ytipddhcfcehcaaa
open Go Go.RowKit Go.Maps

theorem lookA_of_nodup {κ α : Type} [DecidableEq κ] : ∀ {l : List (κ × α)}, (l.map (·.1)).Nodup → ∀ {p : κ × α}, p ∈ l → lookA l p.1 = some p.2
  | [], _, _, hp => absurd hp (by simp)
  | q :: l, hn, p, hp => by
    rw [List.map_cons, List.nodup_cons] at hn
    rw [lookA]
    rcases List.mem_cons.1 hp with rfl | hp
    · rw [if_pos rfl]
    · rw [if_neg (fun e => hn.1 (by rw [e]; exact List.mem_map_of_mem hp))]
      exact lookA_of_nodup hn.2 hp
/-- Two schemas that tell the same. -/
structure Like (ts us : List TyS) : Prop where
  T : ∀ n, kn ts n = kn us n
  R : ∀ k, lookA (refsOf ts) k = lookA (refsOf us) k
theorem chk_print {ts : List TyS} (h : chk06 ts = 0) : printOk ts = true := by
  unfold chk06 at h
  split at h
  · assumption
  · cases h
theorem refs_sub : ∀ ts : List TyS, ((refsOf ts).map (·.1)).Sublist (namesOf ts)
  | [] => List.Sublist.refl _
  | t :: ts => by
    unfold refsOf namesOf
    rw [List.flatMap_cons, List.flatMap_cons, List.map_append]
    refine List.Sublist.append ?_ (refs_sub ts)
    unfold namesT relsOf
    rw [List.map_map]
    exact List.Sublist.cons _ (List.Sublist.refl _)
theorem refs_nodup {ts : List TyS} (h : chk06 ts = 0) : ((refsOf ts).map (·.1)).Nodup := ((names_nodup (chk_print h)).2 (chk_uq h)).sublist (refs_sub ts)
theorem tys_nodup {ts : List TyS} (h : chk06 ts = 0) : (ts.map (·.name)).Nodup := by
  have := chk_uq h
  unfold uniqOk at this
  rw [Bool.and_eq_true, decide_eq_true_eq] at this
  exact this.1
theorem Nms.plain {ts : List TyS} (h : chk06 ts = 0) : Nms ts := by
  refine ⟨?_, ?_, fun x hx e => ?_⟩
  · unfold trL
    rw [List.map_map]
    exact tys_nodup h
  · unfold dL
    rw [List.map_map]
    exact refs_nodup h
  · obtain ⟨t, ht, r, hr, rfl⟩ := refs_mem.1 hx
    have h1 := List.all_eq_true.1 (chk_print h) t ht
    unfold tyOk at h1
    rw [Bool.and_eq_true] at h1
    have h2 := List.all_eq_true.1 h1.2 r hr
    unfold relOk at h2
    simp only [Bool.and_eq_true] at h2
    have h3 := (own_chars h2.1.2).2.1
    dsimp only at e
    rw [e] at h3
    exact h3 rfl
theorem Like.symm {ts us : List TyS} (h : Like ts us) : Like us ts := ⟨fun n => (h.T n).symm, fun k => (h.R k).symm⟩
end Go.Proofs.Ytipddhcfcehcaaa
namespace Go.Proofs.Ytipddhcfcehcaaa
open Go Go.RowKit Go.Maps

theorem Kept.cellq {K : Nat → Prop} {w w' : World} (h : Kept K w w') {a : Addr} (hb : K a.block) {v : Value} (hc : w.cell? a = some v) : w'.cell? a = some v := (World.cell?_of_block (h.block _ hb)).trans hc
/-- A relation that is left, with its new rule. -/
def mrgF (m : List (ByteArray × RT)) (r : ByteArray × RT) : Option (ByteArray × RT) := (lookA m r.1).map fun q => (r.1, q)
/-- What is left of l, with m's rules; then what is new in m. -/
def mrgR (l m : List (ByteArray × RT)) : List (ByteArray × RT) := l.filterMap (mrgF m) ++ m.filter fun r => (lookA l r.1).isNone
theorem fm_snoc {α β : Type} (f : α → Option β) {l : List α} {i : Nat} (hi : i < l.length) : (l.take (i + 1)).filterMap f = (l.take i).filterMap f ++ (f l[i]).toList := by
  rw [List.take_succ_eq_append_getElem hi, List.filterMap_append]
  cases h : f l[i] <;> simp [h]
theorem fl_snoc {α : Type} (p : α → Bool) {l : List α} {i : Nat} (hi : i < l.length) : (l.take (i + 1)).filter p = (l.take i).filter p ++ if p l[i] = true then [l[i]] else [] := by
  rw [List.take_succ_eq_append_getElem hi, List.filter_append]
  by_cases h : p l[i] = true <;> simp [h]
theorem idx_look {m : List (ByteArray × RT)} {n : ByteArray} {k : Int} (hn : (m.map (·.1)).Nodup) (h : IdxP (fun x : ByteArray × RT => decide (x.1 = n)) m k) : (∃ (j : Nat) (hj : j < m.length), k = (j : Int) ∧ lookA m n = some m[j].2) ∨ (k = -1 ∧ lookA m n = none) := by
  rcases h with ⟨j, hj, rfl, hp⟩ | ⟨rfl, h⟩
  · refine .inl ⟨j, hj, rfl, ?_⟩
    have := lookA_of_nodup hn (List.getElem_mem hj)
    rw [of_decide_eq_true hp] at this
    exact this
  · exact .inr ⟨rfl, look_none_iff.2 fun p hp => of_decide_eq_false (h p hp)⟩
theorem fm_len {α β : Type} (f : α → Option β) (l : List α) : (l.filterMap f).length ≤ l.length := List.length_filterMap_le _ _

set_option maxRecDepth 100000 in
set_option maxHeartbeats 1500000 in
theorem merged_any (tn un : ByteArray) (l m : List (ByteArray × RT)) (lv mv : Value) (w : World) (hl : RelsAt (· < w.heap.size) w l lv) (hm : RelsAt (· < w.heap.size) w m mv) (hnl : (l.map (·.1)).Nodup) (hnm : (m.map (·.1)).Nodup) (hsz : ∀ r ∈ m, r.2.sz ≤ 1000000) (hl1 : l.length ≤ 2000000) (hl2 : m.length ≤ 2000000) :
    Calls Try.prog 45 #[.agg #[.string tn, lv], .agg #[.string un, mv]] w fun e w' => ∃ rv, e = .returned (.agg #[.string tn, rv]) ∧ RelsAt (fun b => w.heap.size ≤ b ∧ b < w'.heap.size) w' (mrgR l m) rv ∧ Ext w w' := by
  obtain ⟨aol, cl, rfl, hcl1, hcl2, hrl⟩ := hl.rows
  obtain ⟨aom, cm, rfl, hcm1, hcm2, hrm⟩ := hm.rows
  have HRL := Lib.hid hrl
  have HRM := Lib.hid hrm
  have HL := Lib.hid hl
  have HM := Lib.hid hm
  have HN := Lib.hid (And.intro hnl hnm)
  have HSZ := Lib.hid hsz
  have HLL := Lib.hid (And.intro hl1 hl2)
  obtain ⟨wa, hwa⟩ : ∃ x, x = w.alloc (.cells #[.string tn, .slice aol l.length cl] 49) := ⟨_, rfl⟩
  obtain ⟨wc, hwc⟩ : ∃ x, x = wa.alloc (.cells #[.string un, .slice aom m.length cm] 49) := ⟨_, rfl⟩
  obtain ⟨we, hwe⟩ : ∃ x, x = wc.alloc (.cells #[.string ⟨#[]⟩, .slice none 0 0] 49) := ⟨_, rfl⟩
  obtain ⟨wb, hwb⟩ : ∃ x, x = we.alloc (.cells #[.string tn, .slice none 0 0] 49) := ⟨_, rfl⟩
  have ea : wa.heap.size = w.heap.size + 1 := by rw [hwa]; simp
  have ec : wc.heap.size = w.heap.size + 1 + 1 := by rw [hwc]; simp [ea]
  have ee : we.heap.size = w.heap.size + 1 + 1 + 1 := by rw [hwe]; simp [ec]
  have eb : wb.heap.size = w.heap.size + 1 + 1 + 1 + 1 := by rw [hwb]; simp [ee]
  have xa : Ext w wa := by rw [hwa]; exact Ext.alloc _ _
  have xc : Ext wa wc := by rw [hwc]; exact Ext.alloc _ _
  have xe : Ext wc we := by rw [hwe]; exact Ext.alloc _ _
  have xb : Ext we wb := by rw [hwb]; exact Ext.alloc _ _
  have HA := Lib.hid (show Blk wb w.heap.size #[.string tn, .slice aol l.length cl] 49 from Blk.below (by rw [hwa]; exact Blk.made _ _ _) (xc.trans (xe.trans xb)))
  have HB := Lib.hid (show Blk wb (w.heap.size + 1) #[.string un, .slice aom m.length cm] 49 from Blk.below (by rw [hwc, ← ea]; exact Blk.made _ _ _) (xe.trans xb))
  have HR := Lib.hid (show Blk wb (w.heap.size + 1 + 1) #[.string ⟨#[]⟩, .slice none 0 0] 49 from Blk.below (by rw [hwe, ← ec]; exact Blk.made _ _ _) xb)
  have HO := Lib.hid (show TyBox (w.heap.size + 1 + 1 + 1) (w.heap.size + 1 + 1 + 1 + 1) [.string tn] wb [] (.slice none 0 0) from ⟨by rw [hwb, ← ee]; exact Blk.made _ _ _, Own.nil _ _ _ _, by simp⟩)
  have HX := Lib.hid (show Ext w wb from xa.trans (xc.trans (xe.trans xb)))
  clear xa xc xe xb ea ec ee eb hl hm hrl hrm hnl hnm hsz hl1 hl2
  subst hwb hwe hwc hwa
  go_enter Try.func45, Try.ntmps45
  go_wp2_with fail
  obtain ⟨wb, hwb⟩ : ∃ x, x = (((w.alloc (.cells #[.string tn, .slice aol l.length cl] 49)).alloc (.cells #[.string un, .slice aom m.length cm] 49)).alloc (.cells #[.string ⟨#[]⟩, .slice none 0 0] 49)).alloc (.cells #[.string tn, .slice none 0 0] 49) := ⟨_, rfl⟩
  rw [← hwb] at HA HB HR HO HX ⊢
  clear hwb
  go_loopw [18] (fun iv wr => ∃ (i : Nat) (q : List ((ByteArray × RT) × Value)) (ov : Value), i ≤ l.length ∧ iv = .int .i64 i ∧ q.map (·.1) = (l.take i).filterMap (mrgF m) ∧ TyBox (w.heap.size + 1 + 1 + 1) (w.heap.size + 1 + 1 + 1 + 1) [.string tn] wr q ov ∧ Below (w.heap.size + 1 + 1 + 1) wb wr ∧ Ext w wr) (fun iv _ => l.length - (intOf iv).toNat)
  case atStart => exact ⟨0, [], .slice none 0 0, by omega, rfl, rfl, HO.out, Below.refl _ _, HX.out⟩
  case round =>
    obtain ⟨i, q, ov, hi, rfl, hq, hbx, hbe, hxw⟩ := hrel
    have HQ := Lib.hid hq
    have HBX := Lib.hid hbx
    have HBE := Lib.hid hbe
    have HXW := Lib.hid hxw
    obtain ⟨aov, kv, cv, rfl, -, -, -⟩ := hbx.row.sl.len
    have HPO := Lib.hid (show ∀ g, Value.ownBlock (.slice aov kv cv) = some g → w.heap.size + 1 + 1 + 1 + 1 ≤ g ∧ g < wr.heap.size from hbx.row.block)
    have HLQ := Lib.hid (show q.length ≤ 4000000 from by
      have h1 := congrArg List.length hq
      rw [List.length_map] at h1
      have h2 := fm_len (mrgF m) (l.take i)
      rw [List.length_take] at h2
      have := HLL.out.1
      omega)
    clear HO HX hq hbx hbe
    by_cases hlt : i < l.length
    · obtain ⟨bl, offl, rvl, haol, hbb, d0, d1, d2, d3, d4, hrtl⟩ := HRL.out i hlt
      have d0 := hxw.cell (a := ⟨bl, offl + i * 5, none⟩) d0
      have d1 := hxw.cell (a := ⟨bl, offl + i * 5 + 1, none⟩) d1
      have d2 := hxw.cell (a := ⟨bl, offl + i * 5 + 2, none⟩) d2
      have d3 := hxw.cell (a := ⟨bl, offl + i * 5 + 3, none⟩) d3
      have d4 := hxw.cell (a := ⟨bl, offl + i * 5 + 4, none⟩) d4
      have HFS := Lib.hid (fm_snoc (mrgF m) hlt)
      subst haol
      generalize l[i] = x at *
      obtain ⟨nm, rl⟩ := x
      dsimp only at d0 d1 d2 d3 d4 hrtl
      obtain ⟨aor, cr, rfl, -, -, -⟩ := hrtl.rows
      obtain ⟨wp, hwp⟩ : ∃ x, x = wr.alloc (.cells #[.string nm, .int .i64 rl.k, .string rl.a, .string rl.b, .slice aor rl.ps.length cr] 82) := ⟨_, rfl⟩
      have xp : Ext wr wp := by rw [hwp]; exact Ext.alloc _ _
      have hpb : Blk wp wr.heap.size #[.string nm, .int .i64 rl.k, .string rl.a, .string rl.b, .slice aor rl.ps.length cr] 82 := by rw [hwp]; exact Blk.made _ _ _
      have HPB0 := Lib.hid hpb
      have pb := hpb.cells
      have HXP := Lib.hid (show Ext w wp from hxw.trans xp)
      have HBP := Lib.hid (HBX.out.keep (Below.kept xp fun b hb => hb.1) (xp.block _ HBX.out.box.lt))
      have HEP := Lib.hid (show Below (w.heap.size + 1 + 1 + 1) wb wp from HBE.out.trans (Below.mono xp (by have := HBX.out.box.lt; omega)))
      have HIX := Lib.hid (relIdx_any m _ un nm wp (HM.out.up HXP.out))
      have mb := (show Blk wp (w.heap.size + 1) #[.string un, .slice aom m.length cm] 49 from (HEP.out.block _ (by omega)).trans HB.out).cells
      clear hxw hrtl xp hpb HBX HBE HXW
      subst hwp
      go_wp2_with fail
      refine HIX.out.mono ?_
      rintro e w2 ⟨k, rfl, hk, hb2⟩
      have HPB := Lib.hid (HPB0.out.below hb2).cells
      have HB2 := Lib.hid (HBP.out.keep (Below.kept hb2 fun b hb => hb.1) (hb2.block _ HBP.out.box.lt))
      have HX2 := Lib.hid (show Ext w w2 from HXP.out.trans hb2)
      have HE2 := Lib.hid (show Below (w.heap.size + 1 + 1 + 1) wb w2 from HEP.out.trans (Below.mono hb2 (by have := HBP.out.box.lt; omega)))
      have HP2 := Lib.hid (show (∀ g, Value.ownBlock (.slice aov kv cv) = some g → g < wr.heap.size) ∧ True ∧ wr.heap.size < w2.heap.size from ⟨fun g e => (HPO.out g e).2, trivial, (HPB0.out.below hb2).lt⟩)
      generalize wr.alloc (.cells #[.string nm, .int .i64 rl.k, .string rl.a, .string rl.b, .slice aor rl.ps.length cr] 82) = wp at *
      clear HIX HBP HEP HXP HPB0 hb2 pb mb d0 d1 d2 d3 d4
      rcases idx_look HN.out.2 hk with ⟨j, hj, rfl, hlk⟩ | ⟨rfl, hlk⟩
      · obtain ⟨bm, offm, rv5, haom, hbm, e0, e1, e2, e3, e4, hrt⟩ := HRM.out j hj
        subst haom
        have HFX := Lib.hid (show mrgF m (nm, rl) = some (nm, m[j].2) from by unfold mrgF; rw [hlk]; rfl)
        have HRS := Lib.hid (HSZ.out _ (List.getElem_mem hj))
        generalize m[j] = y at *
        obtain ⟨nm5, r5⟩ := y
        dsimp only at e1 e2 e3 e4 hrt HFX HRS
        obtain ⟨aor5, cr5, rfl, -, -, -⟩ := hrt.rows
        have hge : (0 : Int) ≤ (j : Int) := by omega
        have hjl : (j : Int) < (m.length : Int) := by omega
        clear hk hlk
        go_wp2_with fail
        obtain ⟨wd, hwd⟩ : ∃ wd, wd = w2.drew := ⟨_, rfl⟩
        have X2d : Ext w2 wd := by rw [hwd]; exact Ext.drew w2
        have HBd := Lib.hid (HB2.out.keep (Below.kept X2d fun b hb => hb.1) (X2d.block _ HB2.out.box.lt))
        have HXd := Lib.hid (show Ext w wd from HX2.out.trans X2d)
        have HEd := Lib.hid (show Below (w.heap.size + 1 + 1 + 1) wb wd from HE2.out.trans (Below.mono X2d (by have := HB2.out.box.lt; omega)))
        have HPd := Lib.hid (show ∀ g, Value.ownBlock (.slice aov kv cv) = some g → w.heap.size + 1 + 1 + 1 + 1 ≤ g ∧ g < wd.heap.size from HBd.out.row.block)
        have HZd := Lib.hid (show w.heap.size + 1 + 1 + 1 + 1 ≤ wd.heap.size from HBd.out.box.lt)
        have HD2 := Lib.hid (show w2.heap.size ≤ wd.heap.size from X2d.size)
        have HCP := Lib.hid (copied_any r5 (.slice aor5 r5.ps.length cr5) wd (hrt.up HXd.out) HRS.out)
        refine region_walkL 15 (Kept (fun b => b < wd.heap.size ∧ Value.ownBlock (.slice aov kv cv) ≠ some b) wd) (by rw [← hwd]; exact Kept.refl _ _) (by kernel_rfl) (by kernel_rfl) (fun _ _ d _ _ h => by cases d <;> exact h) ?_
        rw [← hwd]
        have hov : ∀ W, Kept (fun b => b < wd.heap.size ∧ Value.ownBlock (.slice aov kv cv) ≠ some b) wd W → W.cell? ⟨w.heap.size + 1 + 1 + 1, 1, none⟩ = some (.slice aov kv cv) := fun W h => Kept.cellq h ⟨HBd.out.box.lt, fun e => by have := (HPd.out _ e).1; dsimp only at this; omega⟩ (HBd.out.box.cells 1)
        have h8 : ∀ W, Kept (fun b => b < wd.heap.size ∧ Value.ownBlock (.slice aov kv cv) ≠ some b) wd W → W.cell? ⟨wr.heap.size, 0, none⟩ = some (.string nm) := fun W h => Kept.cellq h ⟨by have := HP2.out.2.2; have := HXd.out.size; have := HEd.out.size; exact Nat.lt_of_lt_of_le HP2.out.2.2 HD2.out, fun e => by have := HP2.out.1 _ e; dsimp only at this; omega⟩ (X2d.cell (a := ⟨wr.heap.size, 0, none⟩) (HPB.out 0))
        have h3 : ∀ W, Kept (fun b => b < wd.heap.size ∧ Value.ownBlock (.slice aov kv cv) ≠ some b) wd W → W.cell? ⟨w.heap.size + 1, 1, none⟩ = some (.slice (some ⟨bm, offm, none⟩) m.length cm) := fun W h => Kept.cellq h ⟨by have := HZd.out; show w.heap.size + 1 < _; omega, fun e => by have := (HPd.out _ e).1; dsimp only at this; omega⟩ (Blk.cells ((HEd.out.block (w.heap.size + 1) (by omega)).trans HB.out) 1)
        have hm1 : ∀ W, Kept (fun b => b < wd.heap.size ∧ Value.ownBlock (.slice aov kv cv) ≠ some b) wd W → W.cell? ⟨bm, offm + j * 5 + 1, none⟩ = some (.int .i64 r5.k) := fun W h => Kept.cellq h ⟨by have := HZd.out; show bm < _; omega, fun e => by have := (HPd.out _ e).1; dsimp only at this; omega⟩ (HXd.out.cell (a := ⟨bm, offm + j * 5 + 1, none⟩) e1)
        have hm2 : ∀ W, Kept (fun b => b < wd.heap.size ∧ Value.ownBlock (.slice aov kv cv) ≠ some b) wd W → W.cell? ⟨bm, offm + j * 5 + 2, none⟩ = some (.string r5.a) := fun W h => Kept.cellq h ⟨by have := HZd.out; show bm < _; omega, fun e => by have := (HPd.out _ e).1; dsimp only at this; omega⟩ (HXd.out.cell (a := ⟨bm, offm + j * 5 + 2, none⟩) e2)
        have hm3 : ∀ W, Kept (fun b => b < wd.heap.size ∧ Value.ownBlock (.slice aov kv cv) ≠ some b) wd W → W.cell? ⟨bm, offm + j * 5 + 3, none⟩ = some (.string r5.b) := fun W h => Kept.cellq h ⟨by have := HZd.out; show bm < _; omega, fun e => by have := (HPd.out _ e).1; dsimp only at this; omega⟩ (HXd.out.cell (a := ⟨bm, offm + j * 5 + 3, none⟩) e3)
        have hm4 : ∀ W, Kept (fun b => b < wd.heap.size ∧ Value.ownBlock (.slice aov kv cv) ≠ some b) wd W → W.cell? ⟨bm, offm + j * 5 + 4, none⟩ = some ((.slice aor5 r5.ps.length cr5)) := fun W h => Kept.cellq h ⟨by have := HZd.out; show bm < _; omega, fun e => by have := (HPd.out _ e).1; dsimp only at this; omega⟩ (HXd.out.cell (a := ⟨bm, offm + j * 5 + 4, none⟩) e4)

        clear hwd X2d
        ((refine WalkL.take 0 _ ?_ (by simp only [List.getElem?_toArray, List.getElem?_cons_zero]; rfl) (by kernel_rfl) (by kernel_rfl) (by kernel_rfl) (by rfl) (fun W hW => ?_) ?_; rotate_left; · (go_simp; try with_reducible rfl)); simp only [Act.put, List.setIfInBounds_toArray, List.set_cons_zero, List.set_cons_succ]); ((refine WalkL.take 1 _ ?_ (by simp only [List.getElem?_toArray, List.getElem?_cons_succ, List.getElem?_cons_zero]; rfl) (by kernel_rfl) (by kernel_rfl) (by kernel_rfl) (by rfl) (fun W hW => ?_) ?_; rotate_left; · (go_simp; try with_reducible rfl)); simp only [Act.put, List.setIfInBounds_toArray, List.set_cons_zero, List.set_cons_succ]); ((refine WalkL.take 2 _ ?_ (by simp only [List.getElem?_toArray, List.getElem?_cons_succ, List.getElem?_cons_zero]; rfl) (by kernel_rfl) (by kernel_rfl) (by kernel_rfl) (by rfl) (fun W hW => ?_) ?_; rotate_left; · (go_simp; try with_reducible rfl)); simp only [Act.put, List.setIfInBounds_toArray, List.set_cons_zero, List.set_cons_succ]); ((refine WalkL.take 3 _ ?_ (by simp only [List.getElem?_toArray, List.getElem?_cons_succ, List.getElem?_cons_zero]; rfl) (by kernel_rfl) (by kernel_rfl) (by kernel_rfl) (by rfl) (fun W hW => ?_) ?_; rotate_left; · (go_simp; try with_reducible rfl)); simp only [Act.put, List.setIfInBounds_toArray, List.set_cons_zero, List.set_cons_succ]); ((refine WalkL.take 4 _ ?_ (by simp only [List.getElem?_toArray, List.getElem?_cons_succ, List.getElem?_cons_zero]; rfl) (by kernel_rfl) (by kernel_rfl) (by kernel_rfl) (by rfl) (fun W hW => ?_) ?_; rotate_left; · (go_simp; try with_reducible rfl)); simp only [Act.put, List.setIfInBounds_toArray, List.set_cons_zero, List.set_cons_succ]); ((refine WalkL.take 5 _ ?_ (by simp only [List.getElem?_toArray, List.getElem?_cons_succ, List.getElem?_cons_zero]; rfl) (by kernel_rfl) (by kernel_rfl) (by kernel_rfl) (by rfl) (fun W hW => ?_) ?_; rotate_left; · (go_simp; try with_reducible rfl)); simp only [Act.put, List.setIfInBounds_toArray, List.set_cons_zero, List.set_cons_succ]); ((refine WalkL.take 6 _ ?_ (by simp only [List.getElem?_toArray, List.getElem?_cons_succ, List.getElem?_cons_zero]; rfl) (by kernel_rfl) (by kernel_rfl) (by kernel_rfl) (by rfl) (fun W hW => ?_) ?_; rotate_left; · (go_simp; try with_reducible rfl)); simp only [Act.put, List.setIfInBounds_toArray, List.set_cons_zero, List.set_cons_succ]); ((refine WalkL.take 7 _ ?_ (by simp only [List.getElem?_toArray, List.getElem?_cons_succ, List.getElem?_cons_zero]; rfl) (by kernel_rfl) (by kernel_rfl) (by kernel_rfl) (by rfl) (fun W hW => ?_) ?_; rotate_left; · (go_simp; try with_reducible rfl)); simp only [Act.put, List.setIfInBounds_toArray, List.set_cons_zero, List.set_cons_succ]); ((refine WalkL.take 8 _ ?_ (by simp only [List.getElem?_toArray, List.getElem?_cons_succ, List.getElem?_cons_zero]; rfl) (by kernel_rfl) (by kernel_rfl) (by kernel_rfl) (by rfl) (fun W hW => ?_) ?_; rotate_left; · (go_simp; try with_reducible rfl)); simp only [Act.put, List.setIfInBounds_toArray, List.set_cons_zero, List.set_cons_succ]); ((refine WalkL.take 9 _ ?_ (by simp only [List.getElem?_toArray, List.getElem?_cons_succ, List.getElem?_cons_zero]; rfl) (by kernel_rfl) (by kernel_rfl) (by kernel_rfl) (by rfl) (fun W hW => ?_) ?_; rotate_left; · (go_simp; try with_reducible rfl)); simp only [Act.put, List.setIfInBounds_toArray, List.set_cons_zero, List.set_cons_succ])
        refine WalkL.one 10 (by kernel_rfl) ?_
        refine ⟨_, (by simp only [List.getElem?_toArray, List.getElem?_cons_succ, List.getElem?_cons_zero]; rfl), by rfl, fun K hK => ?_⟩
        go_simp
        refine HCP.out.mono ?_
        unfold rV
        rintro e w5 ⟨v5, rfl, hat5, hb5⟩
        have hk5 : Kept (fun b => b < wd.heap.size ∧ Value.ownBlock (.slice aov kv cv) ≠ some b) wd w5 := Below.kept hb5 fun b hb => hb.1
        refine hK.out _ _ hk5 ?_
        clear hK
        obtain ⟨ao5, c5, rfl, -, -, -⟩ := hat5.rows
        have HB5 := Lib.hid (HBd.out.keep (Below.kept hb5 fun b hb => hb.1) (hb5.block _ HBd.out.box.lt))
        have HX5 := Lib.hid (show Ext w w5 from HXd.out.trans hb5)
        have HE5 := Lib.hid (show Below (w.heap.size + 1 + 1 + 1) wb w5 from HEd.out.trans (Below.mono hb5 (by have := HZd.out; omega)))
        have HAT := Lib.hid hat5
        have HZ5 := Lib.hid (show wd.heap.size ≤ w5.heap.size from hb5.size)
        clear hat5 hb5 HCP
        ((refine WalkL.take 11 _ ?_ (by simp only [List.getElem?_toArray, List.getElem?_cons_succ, List.getElem?_cons_zero]; rfl) (by kernel_rfl) (by kernel_rfl) (by kernel_rfl) (by rfl) (fun W hW => ?_) ?_; rotate_left; · (go_simp; try with_reducible rfl)); simp only [Act.put, List.setIfInBounds_toArray, List.set_cons_zero, List.set_cons_succ])
        refine WalkL.one 12 (by kernel_rfl) ?_
        refine ⟨_, (by simp only [List.getElem?_toArray, List.getElem?_cons_succ, List.getElem?_cons_zero]; rfl), by rfl, fun K hK => ?_⟩
        go_simp
        have X6 := Lib.hid (Ext.alloc w5 (.cells #[.string nm, .int .i64 r5.k, .string r5.a, .string r5.b, .slice ao5 r5.ps.length c5] 82))
        have hk6 := hk5.trans (Below.kept X6.out fun b (hb : b < wd.heap.size ∧ Value.ownBlock (.slice aov kv cv) ≠ some b) => Nat.lt_of_lt_of_le hb.1 HZ5.out)
        refine hK.out _ _ hk6 ?_
        clear hK
        refine WalkL.one 13 (by kernel_rfl) ?_
        refine ⟨_, (by simp only [List.getElem?_toArray, List.getElem?_cons_succ, List.getElem?_cons_zero]; rfl), by rfl, fun K hK => ?_⟩
        refine wp_ownw relsElT (.tmp 30) (.tmp 41) rfl rfl (HB5.out.row.below X6.out) rfl (m := 1) (news := [.string nm, .int .i64 r5.k, .string r5.a, .string r5.b, .slice ao5 r5.ps.length c5]) rfl (fun j u hu => ?_) (by simp [Value.oneCell']) (by have := HLQ.out; rw [flat_length relC_length]; simp; omega) (by have := HLQ.out; rw [flat_length relC_length]; simp; omega) (by have := HZd.out; have := HZ5.out; simp; omega) (fun v7 w7 hown7 hb7 hgr7 => ?_)
        · rw [Addr.add_lit, cell_of_row _ w5.heap.size (0 + j) #[.string nm, .int .i64 r5.k, .string r5.a, .string r5.b, .slice ao5 r5.ps.length c5] 82 (0, 0) (heap_alloc_new w5 _)]
          simpa using hu
        have hk57 : ∀ b, b < w5.heap.size → Value.ownBlock (.slice aov kv cv) ≠ some b → w7.heap[b]? = w5.heap[b]? := fun b h1 h2 => (hgr7.block b (Nat.lt_of_lt_of_le h1 X6.out.size) (fun e => h2 e.symm)).trans (X6.out.block b h1)
        have hz57 : w5.heap.size ≤ w7.heap.size := Nat.le_trans X6.out.size hgr7.size
        have hk57' : Kept (fun b => b < w5.heap.size ∧ Value.ownBlock (.slice aov kv cv) ≠ some b) w5 w7 := ⟨hgr7.os.trans X6.out.os, hgr7.tape.trans X6.out.tape, hgr7.output.trans X6.out.output, hz57, fun b hb => hk57 b hb.1 hb.2⟩
        have hk7 := hk5.trans (hk57'.mono fun b (hb : b < wd.heap.size ∧ Value.ownBlock (.slice aov kv cv) ≠ some b) => ⟨Nat.lt_of_lt_of_le hb.1 HZ5.out, hb.2⟩)
        refine hK.out _ _ hk7 ?_
        clear hK
        simp only [Act.put, List.setIfInBounds_toArray, List.set_cons_zero, List.set_cons_succ]
        have HADD := Lib.hid (HB5.out.add (n0 := wd.heap.size) (x := ((nm, r5), .slice ao5 r5.ps.length c5)) (Nat.lt_succ_self _) hk57 hz57 hown7 (fun g hg => (hb7 g hg).imp id (fun h => Nat.le_trans X6.out.size h)) HAT.out HZd.out (fun g hg => (HPd.out g hg).2))
        have HLOW := Lib.hid (show Below (w.heap.size + 1 + 1 + 1) wb (w7.setCell ⟨w.heap.size + 1 + 1 + 1, 1, none⟩ v7) from (HE5.out.trans (hk57'.below fun b hb => ⟨by have := HZd.out; have := HZ5.out; omega, fun e => by have := (HPd.out _ e).1; omega⟩)).setCell (Nat.le_refl _) _)
        have HLX := Lib.hid (show Below w.heap.size w (w7.setCell ⟨w.heap.size + 1 + 1 + 1, 1, none⟩ v7) from (Below.trans HX5.out (hk57'.below fun b (hb : b < w.heap.size) => ⟨by have := HZd.out; have := HZ5.out; omega, fun e => by have := (HPd.out _ e).1; omega⟩)).setCell (by show w.heap.size ≤ w.heap.size + 1 + 1 + 1; omega) _)
        have hrp7 : Blk w7 (w.heap.size + 1 + 1 + 1) #[.string tn, .slice aov kv cv] 49 := (hk57 _ HB5.out.box.lt (fun e => by have := (HPd.out _ e).1; omega)).trans HB5.out.box
        obtain ⟨ao7, k7, c7, rfl, -, -, -⟩ := hown7.sl.len
        have f7 := hrp7.free
        have g7 := hrp7.cells 1
        clear hk5 hk6 hk57 hz57 hk57' hown7 hb7 hgr7 hrp7 X6 hov
        ((refine WalkL.take 14 _ ?_ (by simp only [List.getElem?_toArray, List.getElem?_cons_succ, List.getElem?_cons_zero]; rfl) (by kernel_rfl) (by kernel_rfl) (by kernel_rfl) (by rfl) (fun W hW => ?_) ?_; rotate_left; · (go_simp; try with_reducible rfl)); simp only [Act.put, List.setIfInBounds_toArray, List.set_cons_zero, List.set_cons_succ])
        refine WalkL.last (by kernel_rfl) (by kernel_rfl) ?_
        refine ⟨_, (by simp only [List.getElem?_toArray, List.getElem?_cons_succ, List.getElem?_cons_zero]; rfl), by rfl, fun K hK => ?_⟩
        go_simp
        refine hK.out _ _ ?_
        clear hK hk7 f7 g7 HBd HXd HEd HPd HZd HB5 HX5 HE5 HAT HZ5
        generalize w7.setCell ⟨w.heap.size + 1 + 1 + 1, 1, none⟩ (.slice ao7 k7 c7) = w8 at *
        go_wp2_with fail

        go_roundw
        case rel => exact ⟨i + 1, _, _, by omega, by go_num, by rw [List.map_append, HQ.out, HFS.out, HFX.out]; rfl, HADD.out, HLOW.out, HLX.out⟩
        case measure => simp [intOf]; omega
      · have HFX := Lib.hid (show mrgF m (nm, rl) = none from by unfold mrgF; rw [hlk]; rfl)
        clear hk hlk
        go_wp2_with fail
        go_roundw
        case rel => exact ⟨i + 1, q, _, by omega, by go_num, by rw [HQ.out, HFS.out, HFX.out]; simp, HB2.out, HE2.out, HX2.out⟩
        case measure => simp [intOf]; omega
    · obtain rfl : i = l.length := by omega
      clear hxw
      have mb := (show Blk wr (w.heap.size + 1) #[.string un, .slice aom m.length cm] 49 from (HBE.out.block _ (by omega)).trans HB.out).cells
      rw [List.take_length] at HQ
      go_wp2_with fail
      clear mb
      go_loopw [48] (fun iv wr => ∃ (i : Nat) (q : List ((ByteArray × RT) × Value)) (ov : Value), i ≤ m.length ∧ iv = .int .i64 i ∧ q.map (·.1) = l.filterMap (mrgF m) ++ (m.take i).filter (fun r => (lookA l r.1).isNone) ∧ TyBox (w.heap.size + 1 + 1 + 1) (w.heap.size + 1 + 1 + 1 + 1) [.string tn] wr q ov ∧ Below (w.heap.size + 1 + 1 + 1) wb wr ∧ Ext w wr) (fun iv _ => m.length - (intOf iv).toNat)
      case atStart => exact ⟨0, q, _, by omega, rfl, by rw [HQ.out]; simp, HBX.out, HBE.out, HXW.out⟩
      case round =>
        obtain ⟨i, q, ov, hi, rfl, hq, hbx, hbe, hxw⟩ := hrel
        clear HQ HBX HBE HXW HPO HLQ
        have HQ := Lib.hid hq
        have HBX := Lib.hid hbx
        have HBE := Lib.hid hbe
        have HXW := Lib.hid hxw
        obtain ⟨aov, kv, cv, rfl, -, -, -⟩ := hbx.row.sl.len
        have HPO := Lib.hid (show ∀ g, Value.ownBlock (.slice aov kv cv) = some g → w.heap.size + 1 + 1 + 1 + 1 ≤ g ∧ g < wr.heap.size from hbx.row.block)
        have HLQ := Lib.hid (show q.length ≤ 4000000 from by
          have h1 := congrArg List.length hq
          rw [List.length_map, List.length_append] at h1
          have h2 := fm_len (mrgF m) l
          have h3 := List.length_filter_le (fun r : ByteArray × RT => (lookA l r.1).isNone) (m.take i)
          rw [List.length_take] at h3
          have := HLL.out
          omega)
        clear hq hbx hbe
        by_cases hlt : i < m.length
        · obtain ⟨bl, offl, rvl, haol, hbb, d0, d1, d2, d3, d4, hrtl⟩ := HRM.out i hlt
          have d0 := hxw.cell (a := ⟨bl, offl + i * 5, none⟩) d0
          have d1 := hxw.cell (a := ⟨bl, offl + i * 5 + 1, none⟩) d1
          have d2 := hxw.cell (a := ⟨bl, offl + i * 5 + 2, none⟩) d2
          have d3 := hxw.cell (a := ⟨bl, offl + i * 5 + 3, none⟩) d3
          have d4 := hxw.cell (a := ⟨bl, offl + i * 5 + 4, none⟩) d4
          have HFS := Lib.hid (fl_snoc (fun r : ByteArray × RT => (lookA l r.1).isNone) hlt)
          have HRS0 := Lib.hid (HSZ.out _ (List.getElem_mem hlt))
          subst haol
          generalize m[i] = x at *
          obtain ⟨nm, r5⟩ := x
          dsimp only at d0 d1 d2 d3 d4 hrtl HRS0 HFS
          have HRS := HRS0
          clear HRS0
          obtain ⟨aor, cr, rfl, -, -, -⟩ := hrtl.rows
          obtain ⟨wp, hwp⟩ : ∃ x, x = wr.alloc (.cells #[.string nm, .int .i64 r5.k, .string r5.a, .string r5.b, .slice aor r5.ps.length cr] 82) := ⟨_, rfl⟩
          have xp : Ext wr wp := by rw [hwp]; exact Ext.alloc _ _
          have hpb : Blk wp wr.heap.size #[.string nm, .int .i64 r5.k, .string r5.a, .string r5.b, .slice aor r5.ps.length cr] 82 := by rw [hwp]; exact Blk.made _ _ _
          have HPB0 := Lib.hid hpb
          have pb := hpb.cells
          have HXP := Lib.hid (show Ext w wp from hxw.trans xp)
          have HBP := Lib.hid (HBX.out.keep (Below.kept xp fun b hb => hb.1) (xp.block _ HBX.out.box.lt))
          have HEP := Lib.hid (show Below (w.heap.size + 1 + 1 + 1) wb wp from HBE.out.trans (Below.mono xp (by have := HBX.out.box.lt; omega)))
          have HIX := Lib.hid (relIdx_any l _ tn nm wp (HL.out.up HXP.out))
          have ab := (show Blk wp w.heap.size #[.string tn, .slice aol l.length cl] 49 from (HEP.out.block _ (by omega)).trans HA.out).cells
          have hrt := hrtl
          have HRT := Lib.hid hrtl
          clear hxw hrtl xp hpb HBX HBE HXW hrt
          subst hwp
          go_wp2_with fail
          refine HIX.out.mono ?_
          rintro e w2 ⟨k, rfl, hk, hb2⟩
          have HPB := Lib.hid (HPB0.out.below hb2).cells
          have pb2 := HPB.out
          have HB2 := Lib.hid (HBP.out.keep (Below.kept hb2 fun b hb => hb.1) (hb2.block _ HBP.out.box.lt))
          have HX2 := Lib.hid (show Ext w w2 from HXP.out.trans hb2)
          have HE2 := Lib.hid (show Below (w.heap.size + 1 + 1 + 1) wb w2 from HEP.out.trans (Below.mono hb2 (by have := HBP.out.box.lt; omega)))
          have HP2 := Lib.hid (show (∀ g, Value.ownBlock (.slice aov kv cv) = some g → g < wr.heap.size) ∧ True ∧ wr.heap.size < w2.heap.size from ⟨fun g e => (HPO.out g e).2, trivial, (HPB0.out.below hb2).lt⟩)
          generalize wr.alloc (.cells #[.string nm, .int .i64 r5.k, .string r5.a, .string r5.b, .slice aor r5.ps.length cr] 82) = wp at *
          clear HIX HBP HEP HXP HPB0 hb2 pb ab d0 d1 d2 d3 d4
          rcases idx_look HN.out.1 hk with ⟨j, hj, rfl, hlk⟩ | ⟨rfl, hlk⟩
          · have HFX := Lib.hid (show ¬ ((lookA l nm).isNone = true) from by rw [hlk]; simp)
            have hge : ¬ ((j : Int) < 0) := by omega
            clear hk hlk pb2
            go_wp2_with fail
            go_roundw
            case rel => exact ⟨i + 1, q, _, by omega, by go_num, by rw [HQ.out, HFS.out, if_neg HFX.out, List.append_nil], HB2.out, HE2.out, HX2.out⟩
            case measure => simp [intOf]; omega
          · have HFX := Lib.hid (show (lookA l nm).isNone = true from by rw [hlk]; rfl)
            have hrt := HRT.out
            clear hk hlk pb2
            go_wp2_with fail
            obtain ⟨wd, hwd⟩ : ∃ wd, wd = w2.drew := ⟨_, rfl⟩
            have X2d : Ext w2 wd := by rw [hwd]; exact Ext.drew w2
            have HBd := Lib.hid (HB2.out.keep (Below.kept X2d fun b hb => hb.1) (X2d.block _ HB2.out.box.lt))
            have HXd := Lib.hid (show Ext w wd from HX2.out.trans X2d)
            have HEd := Lib.hid (show Below (w.heap.size + 1 + 1 + 1) wb wd from HE2.out.trans (Below.mono X2d (by have := HB2.out.box.lt; omega)))
            have HPd := Lib.hid (show ∀ g, Value.ownBlock (.slice aov kv cv) = some g → w.heap.size + 1 + 1 + 1 + 1 ≤ g ∧ g < wd.heap.size from HBd.out.row.block)
            have HZd := Lib.hid (show w.heap.size + 1 + 1 + 1 + 1 ≤ wd.heap.size from HBd.out.box.lt)
            have HD2 := Lib.hid (show w2.heap.size ≤ wd.heap.size from X2d.size)
            have HCP := Lib.hid (copied_any r5 (.slice aor r5.ps.length cr) wd (hrt.up HXd.out) HRS.out)
            refine region_walkL 11 (Kept (fun b => b < wd.heap.size ∧ Value.ownBlock (.slice aov kv cv) ≠ some b) wd) (by rw [← hwd]; exact Kept.refl _ _) (by kernel_rfl) (by kernel_rfl) (fun _ _ d _ _ h => by cases d <;> exact h) ?_
            rw [← hwd]
            have hov : ∀ W, Kept (fun b => b < wd.heap.size ∧ Value.ownBlock (.slice aov kv cv) ≠ some b) wd W → W.cell? ⟨w.heap.size + 1 + 1 + 1, 1, none⟩ = some (.slice aov kv cv) := fun W h => Kept.cellq h ⟨HBd.out.box.lt, fun e => by have := (HPd.out _ e).1; dsimp only at this; omega⟩ (HBd.out.box.cells 1)
            have h80 : ∀ W, Kept (fun b => b < wd.heap.size ∧ Value.ownBlock (.slice aov kv cv) ≠ some b) wd W → W.cell? ⟨wr.heap.size, 0, none⟩ = some (.string nm) := fun W h => Kept.cellq h ⟨Nat.lt_of_lt_of_le HP2.out.2.2 HD2.out, fun e => by have := HP2.out.1 _ e; dsimp only at this; omega⟩ (X2d.cell (a := ⟨wr.heap.size, 0, none⟩) (HPB.out 0))
            have h81 : ∀ W, Kept (fun b => b < wd.heap.size ∧ Value.ownBlock (.slice aov kv cv) ≠ some b) wd W → W.cell? ⟨wr.heap.size, 1, none⟩ = some (.int .i64 r5.k) := fun W h => Kept.cellq h ⟨Nat.lt_of_lt_of_le HP2.out.2.2 HD2.out, fun e => by have := HP2.out.1 _ e; dsimp only at this; omega⟩ (X2d.cell (a := ⟨wr.heap.size, 1, none⟩) (HPB.out 1))
            have h82 : ∀ W, Kept (fun b => b < wd.heap.size ∧ Value.ownBlock (.slice aov kv cv) ≠ some b) wd W → W.cell? ⟨wr.heap.size, 2, none⟩ = some (.string r5.a) := fun W h => Kept.cellq h ⟨Nat.lt_of_lt_of_le HP2.out.2.2 HD2.out, fun e => by have := HP2.out.1 _ e; dsimp only at this; omega⟩ (X2d.cell (a := ⟨wr.heap.size, 2, none⟩) (HPB.out 2))
            have h83 : ∀ W, Kept (fun b => b < wd.heap.size ∧ Value.ownBlock (.slice aov kv cv) ≠ some b) wd W → W.cell? ⟨wr.heap.size, 3, none⟩ = some (.string r5.b) := fun W h => Kept.cellq h ⟨Nat.lt_of_lt_of_le HP2.out.2.2 HD2.out, fun e => by have := HP2.out.1 _ e; dsimp only at this; omega⟩ (X2d.cell (a := ⟨wr.heap.size, 3, none⟩) (HPB.out 3))
            have h84 : ∀ W, Kept (fun b => b < wd.heap.size ∧ Value.ownBlock (.slice aov kv cv) ≠ some b) wd W → W.cell? ⟨wr.heap.size, 4, none⟩ = some (.slice aor r5.ps.length cr) := fun W h => Kept.cellq h ⟨Nat.lt_of_lt_of_le HP2.out.2.2 HD2.out, fun e => by have := HP2.out.1 _ e; dsimp only at this; omega⟩ (X2d.cell (a := ⟨wr.heap.size, 4, none⟩) (HPB.out 4))

            clear hwd X2d
            ((refine WalkL.take 0 _ ?_ (by simp only [List.getElem?_toArray, List.getElem?_cons_zero]; rfl) (by kernel_rfl) (by kernel_rfl) (by kernel_rfl) (by rfl) (fun W hW => ?_) ?_; rotate_left; · (go_simp; try with_reducible rfl)); simp only [Act.put, List.setIfInBounds_toArray, List.set_cons_zero, List.set_cons_succ]); ((refine WalkL.take 1 _ ?_ (by simp only [List.getElem?_toArray, List.getElem?_cons_succ, List.getElem?_cons_zero]; rfl) (by kernel_rfl) (by kernel_rfl) (by kernel_rfl) (by rfl) (fun W hW => ?_) ?_; rotate_left; · (go_simp; try with_reducible rfl)); simp only [Act.put, List.setIfInBounds_toArray, List.set_cons_zero, List.set_cons_succ]); ((refine WalkL.take 2 _ ?_ (by simp only [List.getElem?_toArray, List.getElem?_cons_succ, List.getElem?_cons_zero]; rfl) (by kernel_rfl) (by kernel_rfl) (by kernel_rfl) (by rfl) (fun W hW => ?_) ?_; rotate_left; · (go_simp; try with_reducible rfl)); simp only [Act.put, List.setIfInBounds_toArray, List.set_cons_zero, List.set_cons_succ]); ((refine WalkL.take 3 _ ?_ (by simp only [List.getElem?_toArray, List.getElem?_cons_succ, List.getElem?_cons_zero]; rfl) (by kernel_rfl) (by kernel_rfl) (by kernel_rfl) (by rfl) (fun W hW => ?_) ?_; rotate_left; · (go_simp; try with_reducible rfl)); simp only [Act.put, List.setIfInBounds_toArray, List.set_cons_zero, List.set_cons_succ]); ((refine WalkL.take 4 _ ?_ (by simp only [List.getElem?_toArray, List.getElem?_cons_succ, List.getElem?_cons_zero]; rfl) (by kernel_rfl) (by kernel_rfl) (by kernel_rfl) (by rfl) (fun W hW => ?_) ?_; rotate_left; · (go_simp; try with_reducible rfl)); simp only [Act.put, List.setIfInBounds_toArray, List.set_cons_zero, List.set_cons_succ]); ((refine WalkL.take 5 _ ?_ (by simp only [List.getElem?_toArray, List.getElem?_cons_succ, List.getElem?_cons_zero]; rfl) (by kernel_rfl) (by kernel_rfl) (by kernel_rfl) (by rfl) (fun W hW => ?_) ?_; rotate_left; · (go_simp; try with_reducible rfl)); simp only [Act.put, List.setIfInBounds_toArray, List.set_cons_zero, List.set_cons_succ])
            refine WalkL.one 6 (by kernel_rfl) ?_
            refine ⟨_, (by simp only [List.getElem?_toArray, List.getElem?_cons_succ, List.getElem?_cons_zero]; rfl), by rfl, fun K hK => ?_⟩
            go_simp
            refine HCP.out.mono ?_
            unfold rV
            rintro e w5 ⟨v5, rfl, hat5, hb5⟩
            have hk5 : Kept (fun b => b < wd.heap.size ∧ Value.ownBlock (.slice aov kv cv) ≠ some b) wd w5 := Below.kept hb5 fun b hb => hb.1
            refine hK.out _ _ hk5 ?_
            clear hK
            obtain ⟨ao5, c5, rfl, -, -, -⟩ := hat5.rows
            have HB5 := Lib.hid (HBd.out.keep (Below.kept hb5 fun b hb => hb.1) (hb5.block _ HBd.out.box.lt))
            have HX5 := Lib.hid (show Ext w w5 from HXd.out.trans hb5)
            have HE5 := Lib.hid (show Below (w.heap.size + 1 + 1 + 1) wb w5 from HEd.out.trans (Below.mono hb5 (by have := HZd.out; omega)))
            have HAT := Lib.hid hat5
            have HZ5 := Lib.hid (show wd.heap.size ≤ w5.heap.size from hb5.size)
            clear hat5 hb5 HCP
            ((refine WalkL.take 7 _ ?_ (by simp only [List.getElem?_toArray, List.getElem?_cons_succ, List.getElem?_cons_zero]; rfl) (by kernel_rfl) (by kernel_rfl) (by kernel_rfl) (by rfl) (fun W hW => ?_) ?_; rotate_left; · (go_simp; try with_reducible rfl)); simp only [Act.put, List.setIfInBounds_toArray, List.set_cons_zero, List.set_cons_succ])
            refine WalkL.one 8 (by kernel_rfl) ?_
            refine ⟨_, (by simp only [List.getElem?_toArray, List.getElem?_cons_succ, List.getElem?_cons_zero]; rfl), by rfl, fun K hK => ?_⟩
            go_simp
            have X6 := Lib.hid (Ext.alloc w5 (.cells #[.string nm, .int .i64 r5.k, .string r5.a, .string r5.b, .slice ao5 r5.ps.length c5] 82))
            have hk6 := hk5.trans (Below.kept X6.out fun b (hb : b < wd.heap.size ∧ Value.ownBlock (.slice aov kv cv) ≠ some b) => Nat.lt_of_lt_of_le hb.1 HZ5.out)
            refine hK.out _ _ hk6 ?_
            clear hK
            refine WalkL.one 9 (by kernel_rfl) ?_
            refine ⟨_, (by simp only [List.getElem?_toArray, List.getElem?_cons_succ, List.getElem?_cons_zero]; rfl), by rfl, fun K hK => ?_⟩
            refine wp_ownw relsElT (.tmp 59) (.tmp 66) rfl rfl (HB5.out.row.below X6.out) rfl (m := 1) (news := [.string nm, .int .i64 r5.k, .string r5.a, .string r5.b, .slice ao5 r5.ps.length c5]) rfl (fun j u hu => ?_) (by simp [Value.oneCell']) (by have := HLQ.out; rw [flat_length relC_length]; simp; omega) (by have := HLQ.out; rw [flat_length relC_length]; simp; omega) (by have := HZd.out; have := HZ5.out; simp; omega) (fun v7 w7 hown7 hb7 hgr7 => ?_)
            · rw [Addr.add_lit, cell_of_row _ w5.heap.size (0 + j) #[.string nm, .int .i64 r5.k, .string r5.a, .string r5.b, .slice ao5 r5.ps.length c5] 82 (0, 0) (heap_alloc_new w5 _)]
              simpa using hu
            have hk57 : ∀ b, b < w5.heap.size → Value.ownBlock (.slice aov kv cv) ≠ some b → w7.heap[b]? = w5.heap[b]? := fun b h1 h2 => (hgr7.block b (Nat.lt_of_lt_of_le h1 X6.out.size) (fun e => h2 e.symm)).trans (X6.out.block b h1)
            have hz57 : w5.heap.size ≤ w7.heap.size := Nat.le_trans X6.out.size hgr7.size
            have hk57' : Kept (fun b => b < w5.heap.size ∧ Value.ownBlock (.slice aov kv cv) ≠ some b) w5 w7 := ⟨hgr7.os.trans X6.out.os, hgr7.tape.trans X6.out.tape, hgr7.output.trans X6.out.output, hz57, fun b hb => hk57 b hb.1 hb.2⟩
            have hk7 := hk5.trans (hk57'.mono fun b (hb : b < wd.heap.size ∧ Value.ownBlock (.slice aov kv cv) ≠ some b) => ⟨Nat.lt_of_lt_of_le hb.1 HZ5.out, hb.2⟩)
            refine hK.out _ _ hk7 ?_
            clear hK
            simp only [Act.put, List.setIfInBounds_toArray, List.set_cons_zero, List.set_cons_succ]
            have HADD := Lib.hid (HB5.out.add (n0 := wd.heap.size) (x := ((nm, r5), .slice ao5 r5.ps.length c5)) (Nat.lt_succ_self _) hk57 hz57 hown7 (fun g hg => (hb7 g hg).imp id (fun h => Nat.le_trans X6.out.size h)) HAT.out HZd.out (fun g hg => (HPd.out g hg).2))
            have HLOW := Lib.hid (show Below (w.heap.size + 1 + 1 + 1) wb (w7.setCell ⟨w.heap.size + 1 + 1 + 1, 1, none⟩ v7) from (HE5.out.trans (hk57'.below fun b hb => ⟨by have := HZd.out; have := HZ5.out; omega, fun e => by have := (HPd.out _ e).1; omega⟩)).setCell (Nat.le_refl _) _)
            have HLX := Lib.hid (show Below w.heap.size w (w7.setCell ⟨w.heap.size + 1 + 1 + 1, 1, none⟩ v7) from (Below.trans HX5.out (hk57'.below fun b (hb : b < w.heap.size) => ⟨by have := HZd.out; have := HZ5.out; omega, fun e => by have := (HPd.out _ e).1; omega⟩)).setCell (by show w.heap.size ≤ w.heap.size + 1 + 1 + 1; omega) _)
            have hrp7 : Blk w7 (w.heap.size + 1 + 1 + 1) #[.string tn, .slice aov kv cv] 49 := (hk57 _ HB5.out.box.lt (fun e => by have := (HPd.out _ e).1; omega)).trans HB5.out.box
            obtain ⟨ao7, k7, c7, rfl, -, -, -⟩ := hown7.sl.len
            have f7 := hrp7.free
            have g7 := hrp7.cells 1
            clear hk5 hk6 hk57 hz57 hk57' hown7 hb7 hgr7 hrp7 X6 hov
            ((refine WalkL.take 10 _ ?_ (by simp only [List.getElem?_toArray, List.getElem?_cons_succ, List.getElem?_cons_zero]; rfl) (by kernel_rfl) (by kernel_rfl) (by kernel_rfl) (by rfl) (fun W hW => ?_) ?_; rotate_left; · (go_simp; try with_reducible rfl)); simp only [Act.put, List.setIfInBounds_toArray, List.set_cons_zero, List.set_cons_succ])
            refine WalkL.last (by kernel_rfl) (by kernel_rfl) ?_
            refine ⟨_, (by simp only [List.getElem?_toArray, List.getElem?_cons_succ, List.getElem?_cons_zero]; rfl), by rfl, fun K hK => ?_⟩
            go_simp
            refine hK.out _ _ ?_
            clear hK hk7 f7 g7 HBd HXd HEd HPd HZd HB5 HX5 HE5 HAT HZ5
            generalize w7.setCell ⟨w.heap.size + 1 + 1 + 1, 1, none⟩ (.slice ao7 k7 c7) = w8 at *
            go_wp2_with fail

            go_roundw
            case rel => exact ⟨i + 1, _, _, by omega, by go_num, by rw [List.map_append, HQ.out, HFS.out, if_pos HFX.out, List.append_assoc]; rfl, HADD.out, HLOW.out, HLX.out⟩
            case measure => simp [intOf]; omega
        · obtain rfl : i = m.length := by omega
          clear hxw
          rw [List.take_length] at HQ
          have ob := HBX.out.box.cells
          have hrb : Blk wr (w.heap.size + 1 + 1) #[.string ⟨#[]⟩, .slice none 0 0] 49 := (HBE.out.block _ (by omega)).trans HR.out
          have HRB := Lib.hid hrb
          have rb := hrb.cells
          have rf := hrb.free
          clear hrb
          go_wp2_with fail
          clear ob rb rf
          have hks : Kept (fun b => b ≠ w.heap.size + 1 + 1) wr ((wr.setCell ⟨w.heap.size + 1 + 1, 0, none⟩ (.string tn)).setCell ⟨w.heap.size + 1 + 1, 1, none⟩ (.slice aov kv cv)) := ((Kept.refl _ wr).set (a := ⟨w.heap.size + 1 + 1, 0, none⟩) (fun h => h rfl) _).set (a := ⟨w.heap.size + 1 + 1, 1, none⟩) (fun h => h rfl) _
          refine bodyPost_ret (results_cell_row rfl _ _ (w.heap.size + 1 + 1) 49 #[.string tn, .slice aov kv cv] (0, 0) _ rfl (HRB.out.set2 _ _) Try.underlying49 rfl (by kernel_rfl)) rfl ?_
          refine ⟨.slice aov kv cv, rfl, ⟨q, HQ.out, fun x hx => ?_, ?_⟩, Below.trans HXW.out (hks.below fun b (hb : b < w.heap.size) => (by show b ≠ w.heap.size + 1 + 1; omega))⟩
          · exact (ElR.mono (ElR.same (HBX.out.parts x hx) fun b hb => hks.block b (by have := hb.1.1; show b ≠ w.heap.size + 1 + 1; omega)) fun b hb => ⟨by have := hb.1.1; omega, Nat.lt_of_lt_of_le hb.1.2 hks.size⟩)
          · exact (HBX.out.row.sl.same fun b hb => hks.block b (by have := hb.1; show b ≠ w.heap.size + 1 + 1; omega)).mono fun b hb => ⟨by have := hb.1; omega, Nat.lt_of_lt_of_le hb.2 hks.size⟩

end Go.Proofs.Ytipddhcfcehcaaa
