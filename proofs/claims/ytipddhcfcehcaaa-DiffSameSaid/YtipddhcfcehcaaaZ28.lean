/- The walks of RulesCheck and RulesWrite. The walk of the document's SameRefs at equal rows. The walk of RulesBarren. The document's SameRule. The walk of RulesNeed. Bytes as cells, and as an argument. The tape: Next, rels. No condition: lemmas. -/
import GoSem.PinnedTables
import Derived.Deep.DeepHandedRow
import Derived.Lib.SmallJoins
import Derived.Test.YtipddhcfcehcaaaZ27
import Derived.Test.YtipddhcfcehcaaaZ26
import Derived.Test.YtipddhcfcehcaaaZ7
import Derived.Test.YtipddhcfcehcaaaZ3
namespace Go.Proofs.Ytipddhcfcehcaaa
open Go Go.RowKit Go.Maps

theorem chk_uniq {ts : List TyS} (h : chk06 ts = 0) : uniqOk ts = true := by
  unfold chk06 at h
  split at h
  · split at h
    · split at h
      · assumption
      · cases h
    · cases h
  · cases h
/-- A tuple's parts. -/
def prts (t : Tup) : List ByteArray := [t.o.t, t.o.i, t.o.r, t.s.t, t.s.i, t.s.r]

end Go.Proofs.Ytipddhcfcehcaaa
namespace Go.Proofs.Ytipddhcfcehcaaa
open Go Go.RowKit

end Go.Proofs.Ytipddhcfcehcaaa
namespace Go.Proofs.Ytipddhcfcehcaaa
open Go Go.RowKit Go.Maps

theorem chk_long {ts : List TyS} (h : chk06 ts = 0) : longOk ts = true := by
  unfold chk06 at h
  split at h
  · split at h
    · assumption
    · cases h
  · cases h
theorem long_small {ts : List TyS} (h : longOk ts = true) : ts.length ≤ 16 ∧ ∀ t ∈ ts, t.rels.length ≤ 16 ∧ ∀ r ∈ t.rels, r.2.sz ≤ 32 := by
  unfold longOk at h
  rw [Bool.and_eq_true, decide_eq_true_eq, List.all_eq_true] at h
  refine ⟨h.1, fun t ht => ?_⟩
  have h2 := h.2 t ht
  unfold tyLong at h2
  rw [Bool.and_eq_true, decide_eq_true_eq, List.all_eq_true] at h2
  exact ⟨h2.1, fun r hr => by simpa using h2.2 r hr⟩
theorem long_refs {ts : List TyS} (h : longOk ts = true) : (refsOf ts).length ≤ 256 := by
  obtain ⟨h1, h2⟩ := long_small h
  have := flat_le (fun t : TyS => relsOf t.name t.rels) 16 ts fun t ht => by unfold relsOf; rw [List.length_map]; exact (h2 t ht).1
  unfold refsOf
  omega
theorem barren_eq {ts : List TyS} {S T ss st : List R2} (h1 : LeastP ts S) (c1 : ClosedP ts S) (u1 : UpR ss) (m1 : ∀ x, x ∈ ss ↔ x ∈ (refsOf ts).map (·.1) ∧ ¬ x ∈ S) (h2 : LeastP ts T) (c2 : ClosedP ts T) (u2 : UpR st) (m2 : ∀ x, x ∈ st ↔ x ∈ (refsOf ts).map (·.1) ∧ ¬ x ∈ T) : ss = st :=
  u1.eq u2 fun x => by
    rw [m1, m2]
    have : x ∈ S ↔ x ∈ T := ⟨h1.least T c2 x, h2.least S c1 x⟩
    rw [this]

end Go.Proofs.Ytipddhcfcehcaaa
namespace Go.Proofs.Ytipddhcfcehcaaa
open Go Go.RowKit Go.Maps

theorem ba_toList_inj {a b : ByteArray} (h : a.toList = b.toList) : a = b := by
  rw [ByteArray.toList_eq, ByteArray.toList_eq] at h
  exact ByteArray.ext (by rw [← Array.toList_inj]; exact h)
theorem parts_eq {l m : List RT} (hl : l.length = m.length) (h : ∀ i (h1 : i < l.length) (h2 : i < m.length), l[i] = m[i]) : l = m := List.ext_getElem hl h

set_option maxRecDepth 100000 in
set_option maxHeartbeats 600000 in
theorem sameRule_any (r : RT) : ∀ (q : RT) (pv qv : Value) (w : World) (t : Bool), RTAt (· < w.heap.size) w r pv → RTAt (· < w.heap.size) w q qv → (t = true ↔ r = q) →
    Calls Try.prog 48 #[rV r pv, rV q qv] w fun e w' => e = .returned (.bool t) ∧ Below w.heap.size w w' := by
  induction r using RT.ind with
  | h r ih =>
  intro q pv qv w t hr hq ht
  have HT := Lib.hid ht
  obtain ⟨ao, c, rfl, hlc, hcm, hcell⟩ := hr.rows
  obtain ⟨ao2, cc, rfl, hlc2, hcm2, hcell2⟩ := hq.rows
  have HC := Lib.hid hcell
  have HC2 := Lib.hid hcell2
  have HI := Lib.hid ih
  clear ih hcell hcell2 hr hq ht
  obtain ⟨k, a, b, ps⟩ := r
  obtain ⟨k2, a2, b2, qs⟩ := q
  unfold rV
  dsimp only [RT.ps] at HC HC2 HI hlc hlc2
  dsimp only [RT.k, RT.a, RT.b, RT.ps]
  have hX := Ext.trans (Ext.alloc w (.cells #[.int .i64 k, .string a, .string b, .slice ao ps.length c] 72)) (Ext.alloc _ (.cells #[.int .i64 k2, .string a2, .string b2, .slice ao2 qs.length cc] 72))
  have HX := Lib.hid hX
  clear hX
  by_cases hk : k = k2
  case neg =>
    have hk1 : (k == k2) = false := by rw [beq_eq_false_iff_ne]; exact hk
    have hk2 : (k != k2) = true := by rw [bne_iff_ne]; exact hk
    have HN := Lib.hid (show ¬ RT.mk k a b ps = RT.mk k2 a2 b2 qs from fun h => hk (by injection h))
    have HTF := Lib.hid (show t = false from by cases t with | false => rfl | true => exact absurd (HT.out.1 rfl) HN.out)
    clear hk
    go_enter Try.func48, Try.ntmps48
    go_wp2_with fail
    go_ret
    exact ⟨by rw [HTF.out]; rfl, HX.out⟩
  subst hk
  by_cases ha : a = a2
  case neg =>
    have ha1 := ba_beq' ha
    have ha2 : ¬ a.toList = a2.toList := fun h => ha (ba_toList_inj h)
    have HN := Lib.hid (show ¬ RT.mk k a b ps = RT.mk k a2 b2 qs from fun h => ha (by injection h))
    have HTF := Lib.hid (show t = false from by cases t with | false => rfl | true => exact absurd (HT.out.1 rfl) HN.out)
    clear ha
    go_enter Try.func48, Try.ntmps48
    go_wp2_with fail
    go_ret
    exact ⟨by rw [HTF.out]; rfl, HX.out⟩
  subst ha
  by_cases hb : b = b2
  case neg =>
    have hb1 := ba_beq' hb
    have hb2 : ¬ b.toList = b2.toList := fun h => hb (ba_toList_inj h)
    have HN := Lib.hid (show ¬ RT.mk k a b ps = RT.mk k a b2 qs from fun h => hb (by injection h))
    have HTF := Lib.hid (show t = false from by cases t with | false => rfl | true => exact absurd (HT.out.1 rfl) HN.out)
    clear hb
    go_enter Try.func48, Try.ntmps48
    go_wp2_with fail
    go_ret
    exact ⟨by rw [HTF.out]; rfl, HX.out⟩
  subst hb
  by_cases hn : ps.length = qs.length
  case neg =>
    have HN := Lib.hid (show ¬ RT.mk k a b ps = RT.mk k a b qs from fun h => hn (by injection h with _ _ _ h; rw [h]))
    have HTF := Lib.hid (show t = false from by cases t with | false => rfl | true => exact absurd (HT.out.1 rfl) HN.out)
    clear HC HC2 HI
    generalize ps.length = n1 at *
    generalize qs.length = n2 at *
    have hn1 : ((n1 : Int) == (n2 : Int)) = false := by rw [beq_eq_false_iff_ne]; omega
    have hn2 : ((n1 : Int) != (n2 : Int)) = true := by rw [bne_iff_ne]; omega
    clear hn
    go_enter Try.func48, Try.ntmps48
    go_wp2_with fail
    go_ret
    exact ⟨by rw [HTF.out]; rfl, HX.out⟩
  have HN := Lib.hid hn
  obtain ⟨wa, hwa⟩ : ∃ x, x = w.alloc (.cells #[.int .i64 k, .string a, .string b, .slice ao ps.length c] 72) := ⟨_, rfl⟩
  obtain ⟨wb, hwb⟩ : ∃ x, x = wa.alloc (.cells #[.int .i64 k, .string a, .string b, .slice ao2 ps.length cc] 72) := ⟨_, rfl⟩
  have e1 : wa.heap.size = w.heap.size + 1 := by rw [hwa]; simp
  have x12 : Ext wa wb := by rw [hwb]; exact Ext.alloc _ _
  have HA := Lib.hid (show Blk wb w.heap.size #[.int .i64 k, .string a, .string b, .slice ao ps.length c] 72 from Blk.below (by rw [hwa]; exact Blk.made _ _ _) x12)
  have HB := Lib.hid (show Blk wb (w.heap.size + 1) #[.int .i64 k, .string a, .string b, .slice ao2 ps.length cc] 72 from by rw [hwb, ← e1]; exact Blk.made _ _ _)
  rw [← hn] at HX hlc2 ⊢
  have HX := Lib.hid (show Below w.heap.size w wb from by rw [hwb, hwa]; exact HX.out)
  have ha := HA.out.cells
  have hb := HB.out.cells
  subst hwb hwa
  clear e1 x12 hn
  go_enter Try.func48, Try.ntmps48
  go_wp2_with fail
  obtain ⟨wb, hwb⟩ : ∃ x, x = (w.alloc (.cells #[.int .i64 k, .string a, .string b, .slice ao ps.length c] 72)).alloc (.cells #[.int .i64 k, .string a, .string b, .slice ao2 ps.length cc] 72) := ⟨_, rfl⟩
  rw [← hwb] at HA HB HX ⊢
  clear hwb ha hb
  go_loopw [5, 37] (fun _ iv wr => ∃ i : Nat, i ≤ ps.length ∧ iv = .int .i64 i ∧ (∀ j (h1 : j < ps.length) (h2 : j < qs.length), j < i → ps[j] = qs[j]) ∧ Ext wb wr) (fun _ iv _ => ps.length - (intOf iv).toNat)
  case atStart => exact ⟨0, by omega, rfl, fun j _ _ h => absurd h (by omega), Ext.refl _⟩
  case round =>
    obtain ⟨i, hi, rfl, hall, hext⟩ := hrel
    have HALL := Lib.hid hall
    have HE := Lib.hid hext
    have hbel := Lib.hid (show Below w.heap.size w wr from HX.out.trans (hext.mono HX.out.size))
    clear hall
    by_cases hlt : i < ps.length
    · have hlt2 : i < qs.length := by have := HN.out; omega
      obtain ⟨bb, off, pv, rfl, hb, c0, c1, c2, c3, hpt⟩ := HC.out i hlt
      obtain ⟨bb2, off2, qv, rfl, hb2, f0, f1, f2, f3, hqt⟩ := HC2.out i hlt2
      have HI2 := Lib.hid (HI.out ps[i] (List.getElem_mem hlt) qs[i])
      have HST := Lib.hid (show ps[i] = qs[i] → ∀ j (h1 : j < ps.length) (h2 : j < qs.length), j < i + 1 → ps[j] = qs[j] from fun he j h1 h2 hj => by
        by_cases hji : j = i
        · subst hji; exact he
        · exact HALL.out j h1 h2 (by omega))
      have HNE := Lib.hid (show ¬ ps[i] = qs[i] → ¬ RT.mk k a b ps = RT.mk k a b qs from fun hne h => hne (by injection h with _ _ _ h; subst h; rfl))
      obtain ⟨aop, cp, rfl, -, -, -⟩ := hpt.rows
      obtain ⟨aoq, cq, rfl, -, -, -⟩ := hqt.rows
      generalize ps[i] = p at *
      generalize qs[i] = q at *
      have HPT := Lib.hid hpt
      have HQT := Lib.hid hqt
      clear hpt hqt hlt2
      go_wp2_with fail
      have hx := hbel.out
      have hra : ∀ W, Ext wr W → W.cell? ⟨w.heap.size, 3, none⟩ = some (.slice (some ⟨bb, off, none⟩) ps.length c) := fun W h => by rw [(HA.out.below (HE.out.trans h)).cells]; rfl
      have hrb : ∀ W, Ext wr W → W.cell? ⟨w.heap.size + 1, 3, none⟩ = some (.slice (some ⟨bb2, off2, none⟩) ps.length cc) := fun W h => by rw [(HB.out.below (HE.out.trans h)).cells]; rfl
      have g0 : ∀ W, Ext wr W → W.cell? ⟨bb, off + i * 4, none⟩ = some (.int .i64 p.k) := fun W h => ((Below.cell (hx.trans (h.mono hx.size)) (p := ⟨bb, off + i * 4, none⟩) hb)).trans c0
      have g1 : ∀ W, Ext wr W → W.cell? ⟨bb, off + i * 4 + 1, none⟩ = some (.string p.a) := fun W h => ((Below.cell (hx.trans (h.mono hx.size)) (p := ⟨bb, off + i * 4 + 1, none⟩) hb)).trans c1
      have g2 : ∀ W, Ext wr W → W.cell? ⟨bb, off + i * 4 + 2, none⟩ = some (.string p.b) := fun W h => ((Below.cell (hx.trans (h.mono hx.size)) (p := ⟨bb, off + i * 4 + 2, none⟩) hb)).trans c2
      have g3 : ∀ W, Ext wr W → W.cell? ⟨bb, off + i * 4 + 3, none⟩ = some (.slice aop p.ps.length cp) := fun W h => ((Below.cell (hx.trans (h.mono hx.size)) (p := ⟨bb, off + i * 4 + 3, none⟩) hb)).trans c3
      have k0 : ∀ W, Ext wr W → W.cell? ⟨bb2, off2 + i * 4, none⟩ = some (.int .i64 q.k) := fun W h => ((Below.cell (hx.trans (h.mono hx.size)) (p := ⟨bb2, off2 + i * 4, none⟩) hb2)).trans f0
      have k1 : ∀ W, Ext wr W → W.cell? ⟨bb2, off2 + i * 4 + 1, none⟩ = some (.string q.a) := fun W h => ((Below.cell (hx.trans (h.mono hx.size)) (p := ⟨bb2, off2 + i * 4 + 1, none⟩) hb2)).trans f1
      have k2 : ∀ W, Ext wr W → W.cell? ⟨bb2, off2 + i * 4 + 2, none⟩ = some (.string q.b) := fun W h => ((Below.cell (hx.trans (h.mono hx.size)) (p := ⟨bb2, off2 + i * 4 + 2, none⟩) hb2)).trans f2
      have k3 : ∀ W, Ext wr W → W.cell? ⟨bb2, off2 + i * 4 + 3, none⟩ = some (.slice aoq q.ps.length cq) := fun W h => ((Below.cell (hx.trans (h.mono hx.size)) (p := ⟨bb2, off2 + i * 4 + 3, none⟩) hb2)).trans f3
      have hE : Ext wr wr.drew := Ext.drew wr
      have HX2 := Lib.hid (show Below w.heap.size w wr.drew from hx.trans (hE.mono hx.size))
      have HE2 := Lib.hid (show Ext wb wr.drew from HE.out.trans hE)
      clear c0 c1 c2 c3 f0 f1 f2 f3 hb hb2 hx hext hbel HE
      refine region_walk [(0, true), (1, true), (2, true), (3, true), (4, true), (5, true), (6, true), (7, true), (8, true), (9, true), (10, false), (11, true)] (by kernel_rfl) (by kernel_rfl) (by kernel_rfl) rfl (fun _ _ d _ _ h => by cases d <;> exact h) ?_
      iterate 10 ((refine Walk.take _ ?_ (by simp only [List.getElem?_toArray, List.getElem?_cons_succ, List.getElem?_cons_zero]; rfl) (by rfl) (fun W hW => ?_) ?_; rotate_left; · (have hE0 := hE.trans hW; go_simp; try with_reducible rfl)); simp only [Act.put, List.setIfInBounds_toArray, List.set_cons_zero, List.set_cons_succ])
      refine Walk.make _ (by simp only [List.getElem?_toArray, List.getElem?_cons_succ, List.getElem?_cons_zero]; rfl) (by rfl) (fun K hK => ?_); go_simp
      obtain ⟨tf, htf⟩ : ∃ tf : Bool, tf = true ↔ p = q := by
        by_cases h : p = q
        · exact ⟨true, by simp [h]⟩
        · exact ⟨false, by simp [h]⟩
      have HTF2 := Lib.hid htf
      clear htf
      refine (HI2.out _ _ _ tf (HPT.out.up HX2.out) (HQT.out.up HX2.out) HTF2.out).mono ?_
      rintro e w4 ⟨rfl, hb4⟩
      refine hK.out _ _ hb4 ?_
      have hE := hE.trans hb4
      clear hK
      iterate 1 ((refine Walk.take _ ?_ (by simp only [List.getElem?_toArray, List.getElem?_cons_succ, List.getElem?_cons_zero]; rfl) (by rfl) (fun W hW => ?_) ?_; rotate_left; · (have hE0 := hE.trans hW; go_simp; try with_reducible rfl)); simp only [Act.put, List.setIfInBounds_toArray, List.set_cons_zero, List.set_cons_succ])
      unfold Walk
      have HE4 := Lib.hid (show Ext wb w4 from HE2.out.trans hb4)
      have HX4 := Lib.hid (show Below w.heap.size w w4 from HX2.out.trans (hb4.mono HX2.out.size))
      clear hE hra hrb g0 g1 g2 g3 k0 k1 k2 k3 hb4
      cases tf with
      | true =>
        have HS := Lib.hid (HST.out (HTF2.out.1 rfl))
        go_wp2_with fail
        go_roundw
        case rel => exact ⟨i + 1, by omega, by go_num, HS.out, HE4.out⟩
        case measure => simp [intOf]; omega
      | false =>
        have HF := Lib.hid (HNE.out fun h => by have := HTF2.out.2 h; cases this)
        have HTF := Lib.hid (show t = false from by cases t with | false => rfl | true => exact absurd (HT.out.1 rfl) HF.out)
        go_wp2_with fail
        go_ret
        exact ⟨by rw [HTF.out]; rfl, HX4.out⟩
    · obtain rfl : i = ps.length := by omega
      have HEQ := Lib.hid (show ps = qs from parts_eq HN.out fun j h1 h2 => HALL.out j h1 h2 h1)
      clear hext
      go_wp2_with fail
      go_ret
      exact ⟨by rw [HT.out.2 (by rw [HEQ.out])]; rfl, hbel.out⟩

end Go.Proofs.Ytipddhcfcehcaaa
namespace Go.Proofs.Ytipddhcfcehcaaa
open Go Go.RowKit Go.Maps

theorem one_len {l : List R2} (hn : l.Nodup) {a : R2} (h : ∀ x ∈ l, x = a) : l.length ≤ 1 := nodup_le (u := [a]) hn fun x hx => List.mem_singleton.2 (h x hx)
theorem where_len {ts : List TyS} (hu : uniqOk ts = true) (b : ByteArray) : (whereP (refsOf ts) b).length ≤ ts.length := by
  unfold whereP refsOf
  rw [List.length_map, List.filter_flatMap]
  have := flat_le (fun t : TyS => (relsOf t.name t.rels).filter fun x => decide (x.1.r = b)) 1 ts fun t ht => by
    have hn := (uniq_names hu).2 t ht
    unfold relsOf
    rw [List.filter_map, List.length_map]
    have h1 : ((t.rels.filter ((fun x : R2 × RT => decide (x.1.r = b)) ∘ fun r : ByteArray × RT => (⟨t.name, r.1⟩, r.2))).map fun r : ByteArray × RT => r.1).length ≤ 1 := nodup_le (u := [b]) (hn.sublist (List.Sublist.map _ List.filter_sublist)) fun x hx => by
      obtain ⟨y, hy, rfl⟩ := List.mem_map.1 hx
      have := (List.mem_filter.1 hy).2
      exact List.mem_singleton.2 (by simpa using this)
    rwa [List.length_map] at h1
  omega
theorem pneeds_len {P : List (R2 × RT)} {typ : ByteArray} {n : Nat} (hw : ∀ b, (whereP P b).length ≤ n) (r : RT) : (r.pneeds P typ).length ≤ r.sz * (1 + n) := by
  induction r using RT.ind with
  | h r ih =>
  obtain ⟨k, a, b, ps⟩ := r
  dsimp only [RT.ps] at ih
  have h1 : ∀ l : List RT, (∀ p ∈ l, (p.pneeds P typ).length ≤ p.sz * (1 + n)) → (pneedsL P typ l).length ≤ szL l * (1 + n) := fun l hl => by
    induction l with
    | nil => simp [pneedsL]
    | cons x l ih2 =>
      rw [pneedsL, szL, List.length_append, Nat.add_mul]
      have := hl x List.mem_cons_self
      have := ih2 fun p hp => hl p (List.mem_cons_of_mem _ hp)
      omega
  have h2 := h1 ps ih
  have h3 := (RT.mk k a b ps).sz_eq
  dsimp only [RT.ps] at h3
  rw [h3, Nat.add_mul, Nat.one_mul, RT.pneeds, List.length_append]
  have h4 := hw b
  split
  · simp only [List.length_cons, List.length_nil]; omega
  · split
    · simp only [List.length_cons, List.length_map]; omega
    · simp only [List.length_nil]; omega
theorem long_needs {ts : List TyS} (hu : uniqOk ts = true) (hl : longOk ts = true) : ∀ x ∈ refsOf ts, x.2.sz ≤ 32 ∧ (x.2.pneeds (refsOf ts) x.1.t).length ≤ 544 := by
  intro x hx
  obtain ⟨t, ht, r, hr, rfl⟩ := refs_mem.1 hx
  have h1 := ((long_small hl).2 t ht).2 r hr
  have h2 := (long_small hl).1
  have h3 := pneeds_len (P := refsOf ts) (typ := t.name) (fun b => where_len hu b) r.2
  refine ⟨h1, Nat.le_trans h3 ?_⟩
  exact Nat.le_trans (Nat.mul_le_mul h1 (show 1 + ts.length ≤ 17 from by omega)) (by omega)
theorem long_univ {ts : List TyS} (hu : uniqOk ts = true) (hl : longOk ts = true) (r : R2) : (univP ts r).length ≤ 200000 := by
  unfold univP
  rw [List.length_cons]
  have h1 := flat_le (fun x : R2 × RT => x.2.pneeds (refsOf ts) x.1.t) 544 (refsOf ts) fun x hx => (long_needs hu hl x hx).2
  have h2 := long_refs hl
  omega
theorem long_needsP {ts : List TyS} (hu : uniqOk ts = true) (hl : longOk ts = true) (r : R2) : (needsP ts r).length ≤ 544 := by
  unfold needsP
  split
  · simp
  · rename_i rule h
    exact (long_needs hu hl (r, rule) (look_mem h)).2

end Go.Proofs.Ytipddhcfcehcaaa
namespace Go.Proofs.Ytipddhcfcehcaaa
open Go Go.RowKit Go.ChangeShapes Go.WideShapes Go.ChangeAt

/-- Bytes as cells. -/
def bc (l : List UInt8) : List Value := l.map fun c => .int .u8 c.toNat
theorem bc_append (a b : List UInt8) : bc (a ++ b) = bc a ++ bc b := by simp [bc]
theorem bc_length (a : List UInt8) : (bc a).length = a.length := by simp [bc]
theorem bytes_at {S : Nat → Prop} {w : World} {ao : Option Addr} {l : List UInt8} {c : Nat} (h : Sl S w 1 (.slice ao l.length c) (bc l)) : ∀ i (hi : i < l.length), ∃ b off, ao = some ⟨b, off, none⟩ ∧ S b ∧ w.cell? ⟨b, off + i, none⟩ = some (.int .u8 l[i].toNat) := by
  obtain ⟨ao', n', c', hv, h1, h2, h3, h4, h5⟩ := h
  cases hv
  intro i hi
  obtain ⟨b, off, rfl, hb, hc⟩ := h5 (fun e => by have := congrArg List.length e; rw [bc_length] at this; simp only [List.length_nil] at this; omega)
  exact ⟨b, off, rfl, hb, hc i _ (by simp [bc, hi])⟩

section
variable {H : Type} {enc : TypeId × Value → H} {W : World} {base : Nat} {v : Value} {d : DataW H} {ps : List MemPlace}
set_option maxRecDepth 100000 in
theorem open_bytesV (hok : Value.okWide Try.prog W .any base 42 v) (h : DataW.Trod enc Try.prog W 0 (fun _ => true) true 42 v d ps) : ∃ l : List UInt8, Sl (· < W.heap.size) W 1 v (bc l) := by
  obtain ⟨xs, elems, fuel, hs, hl, he, _⟩ := open_sl Try.underlying42 (okWide_slice Try.underlying42 hok) h
  rw [show Try.prog.cellsOf 5 = 1 from by kernel_rfl] at hs hl he
  have hall : ∀ i (hi : i < xs.length), ∃ c : UInt8, xs[i] = .int .u8 c.toNat := by
    intro i hi
    have hie : i < elems.length := by omega
    have := he i elems[i] (by simp [hie])
    rw [Nat.mul_one, show (xs.drop i).take 1 = [xs[i]] from by rw [List.drop_eq_getElem_cons hi]; rfl] at this
    obtain ⟨n, e1, _, hw⟩ := DataW.trod_int Try.underlying5 this
    have hb := bounds_u8 hw
    refine ⟨UInt8.ofNat n.toNat, ?_⟩
    have e2 : xs[i] = .int .u8 n := by simpa using e1
    rw [e2]
    congr 1
    have : (UInt8.ofNat n.toNat).toNat = n.toNat := by simp; omega
    rw [this]
    omega
  refine ⟨xs.map fun x => match x with | .int _ n => UInt8.ofNat n.toNat | _ => 0, ?_⟩
  have : bc (xs.map fun x => match x with | .int _ n => UInt8.ofNat n.toNat | _ => 0) = xs := by
    apply List.ext_getElem
    · simp [bc]
    · intro i h1 h2
      obtain ⟨c, hc⟩ := hall i h2
      simp [bc, hc]
  rw [this]
  exact hs
set_option maxRecDepth 100000 in
theorem open_u8V (hok : Value.okWide Try.prog W .any base 5 v) (h : DataW.Trod enc Try.prog W 0 (fun _ => true) true 5 v d ps) : ∃ q : Nat, v = .int .u8 q ∧ q < 256 := by
  obtain ⟨x, rfl, _, _, wx⟩ := open_int Try.underlying5 hok h
  have hb := bounds_u8 wx
  exact ⟨x.toNat, by congr 1; omega, by omega⟩
end

end Go.Proofs.Ytipddhcfcehcaaa
namespace Go.Proofs.Ytipddhcfcehcaaa
open Go Go.RowKit Go.Maps

/-- A tape: its bytes lie below it. -/
def Tp (w : World) (tp : Nat) : Prop := ∃ (bv : Value) (l : List UInt8) (n : Nat), n ≤ l.length ∧ Sl (· < tp) w 1 bv (bc l) ∧ Blk w tp #[bv, .int .i64 n] 46
/-- Nothing that lay there has turned but the tape. -/
abbrev KT (tp : Nat) (w w' : World) : Prop := Kept (fun b => b < w.heap.size ∧ b ≠ tp) w w'
theorem KT.trans {tp : Nat} {w w' w'' : World} (h : KT tp w w') (k : KT tp w' w'') : KT tp w w'' := Kept.trans h (Kept.mono k fun b hb => ⟨Nat.lt_of_lt_of_le hb.1 h.size, hb.2⟩)
theorem KT.of {tp : Nat} {w w' : World} (h : Ext w w') : KT tp w w' := Below.kept h fun b hb => hb.1
theorem Tp.ext {w w' : World} {tp : Nat} (h : Tp w tp) (hb : Ext w w') : Tp w' tp := by
  obtain ⟨bv, l, n, hn, hs, hB⟩ := h
  exact ⟨bv, l, n, hn, hs.same ((Same.below hb).mono fun b h => Nat.lt_trans h hB.lt), hB.below hb⟩
theorem Tp.lt {w : World} {tp : Nat} (h : Tp w tp) : tp < w.heap.size := by
  obtain ⟨bv, l, n, hn, hs, hB⟩ := h
  exact hB.lt
theorem KT.same {tp : Nat} {w w' : World} {S : Nat → Prop} (h : KT tp w w') (hS : ∀ b, S b → b < w.heap.size ∧ b ≠ tp) : Same S w w' := fun b hb => h.block b (hS b hb)
theorem KT.blk {tp : Nat} {w w' : World} (h : KT tp w w') {B : Nat} {cs : Array Value} {e : TypeId} (hB : Blk w B cs e) (hn : B ≠ tp) : Blk w' B cs e := Kept.blk h hB ⟨hB.lt, hn⟩

set_option maxRecDepth 100000 in
set_option maxHeartbeats 600000 in
theorem next_any (tp : Nat) (n : Int) (w : World) (h : Tp w tp) (hn : 1 ≤ n) (hm : n ≤ 1000000) : Calls Try.prog 33 #[.pointer (some ⟨tp, 0, none⟩), .int .i64 n] w fun e w' => ∃ k : Nat, e = .returned (.int .i64 k) ∧ (k : Int) < n ∧ Tp w' tp ∧ KT tp w w' := by
  obtain ⟨bv, l, m, hml, hs, hB⟩ := h
  obtain ⟨ao, ln, c, rfl, hln, hlc, hcm⟩ := hs.len
  rw [bc_length, Nat.mul_one] at hln
  subst hln
  have HS := Lib.hid hs
  have HB := Lib.hid hB
  have HM := Lib.hid hm
  have HML := Lib.hid hml
  clear hs hB hm
  by_cases h2 : n < 2
  · have HN := Lib.hid hn
    have hn2 : decide (n < 2) = true := decide_eq_true h2
    go_enter Try.func33, Try.ntmps33
    go_wp2_with fail
    refine region_walkN (Ext w) (Ext.drew w) (by kernel_rfl) (by kernel_rfl) (fun _ _ d _ _ h => by cases d <;> exact h) ?_
    ((refine WalkN.take 0 _ ?_ (by simp only [List.getElem?_toArray, List.getElem?_cons_zero]; rfl) (by kernel_rfl) (by kernel_rfl) (by rfl) (fun W hW => ?_) ?_; rotate_left; · (go_simp; try with_reducible rfl)); simp only [Act.put, List.setIfInBounds_toArray, List.set_cons_zero, List.set_cons_succ]); ((refine WalkN.take 1 _ ?_ (by simp only [List.getElem?_toArray, List.getElem?_cons_succ, List.getElem?_cons_zero]; rfl) (by kernel_rfl) (by kernel_rfl) (by rfl) (fun W hW => ?_) ?_; rotate_left; · (go_simp; try with_reducible rfl)); simp only [Act.put, List.setIfInBounds_toArray, List.set_cons_zero, List.set_cons_succ]); ((refine WalkN.take 2 _ ?_ (by simp only [List.getElem?_toArray, List.getElem?_cons_succ, List.getElem?_cons_zero]; rfl) (by kernel_rfl) (by kernel_rfl) (by rfl) (fun W hW => ?_) ?_; rotate_left; · (go_simp; try with_reducible rfl)); simp only [Act.put, List.setIfInBounds_toArray, List.set_cons_zero, List.set_cons_succ])
    (refine WalkN.skip 3 _ (by simp only [List.getElem?_toArray, List.getElem?_cons_succ, List.getElem?_cons_zero]; rfl) (by kernel_rfl) (by kernel_rfl) (by rfl) ?_; simp only [Act.put, List.setIfInBounds_toArray, List.set_cons_zero, List.set_cons_succ]); (refine WalkN.skip 4 _ (by simp only [List.getElem?_toArray, List.getElem?_cons_succ, List.getElem?_cons_zero]; rfl) (by kernel_rfl) (by kernel_rfl) (by rfl) ?_; simp only [Act.put, List.setIfInBounds_toArray, List.set_cons_zero, List.set_cons_succ]); (refine WalkN.skip 5 _ (by simp only [List.getElem?_toArray, List.getElem?_cons_succ, List.getElem?_cons_zero]; rfl) (by kernel_rfl) (by kernel_rfl) (by rfl) ?_; simp only [Act.put, List.setIfInBounds_toArray, List.set_cons_zero, List.set_cons_succ]); (refine WalkN.skip 6 _ (by simp only [List.getElem?_toArray, List.getElem?_cons_succ, List.getElem?_cons_zero]; rfl) (by kernel_rfl) (by kernel_rfl) (by rfl) ?_; simp only [Act.put, List.setIfInBounds_toArray, List.set_cons_zero, List.set_cons_succ]); (refine WalkN.skip 7 _ (by simp only [List.getElem?_toArray, List.getElem?_cons_succ, List.getElem?_cons_zero]; rfl) (by kernel_rfl) (by kernel_rfl) (by rfl) ?_; simp only [Act.put, List.setIfInBounds_toArray, List.set_cons_zero, List.set_cons_succ]); (refine WalkN.skip 8 _ (by simp only [List.getElem?_toArray, List.getElem?_cons_succ, List.getElem?_cons_zero]; rfl) (by kernel_rfl) (by kernel_rfl) (by rfl) ?_; simp only [Act.put, List.setIfInBounds_toArray, List.set_cons_zero, List.set_cons_succ]); (refine WalkN.skip 9 _ (by simp only [List.getElem?_toArray, List.getElem?_cons_succ, List.getElem?_cons_zero]; rfl) (by kernel_rfl) (by kernel_rfl) (by rfl) ?_; simp only [Act.put, List.setIfInBounds_toArray, List.set_cons_zero, List.set_cons_succ]); (refine WalkN.skip 10 _ (by simp only [List.getElem?_toArray, List.getElem?_cons_succ, List.getElem?_cons_zero]; rfl) (by kernel_rfl) (by kernel_rfl) (by rfl) ?_; simp only [Act.put, List.setIfInBounds_toArray, List.set_cons_zero, List.set_cons_succ]); (refine WalkN.skip 11 _ (by simp only [List.getElem?_toArray, List.getElem?_cons_succ, List.getElem?_cons_zero]; rfl) (by kernel_rfl) (by kernel_rfl) (by rfl) ?_; simp only [Act.put, List.setIfInBounds_toArray, List.set_cons_zero, List.set_cons_succ]); (refine WalkN.skip 12 _ (by simp only [List.getElem?_toArray, List.getElem?_cons_succ, List.getElem?_cons_zero]; rfl) (by kernel_rfl) (by kernel_rfl) (by rfl) ?_; simp only [Act.put, List.setIfInBounds_toArray, List.set_cons_zero, List.set_cons_succ])
    ((refine WalkN.take 13 _ ?_ (by simp only [List.getElem?_toArray, List.getElem?_cons_succ, List.getElem?_cons_zero]; rfl) (by kernel_rfl) (by kernel_rfl) (by rfl) (fun W hW => ?_) ?_; rotate_left; · (go_simp; try with_reducible rfl)); simp only [Act.put, List.setIfInBounds_toArray, List.set_cons_zero, List.set_cons_succ])
    refine WalkN.done (by kernel_rfl) ?_
    go_wp2_with fail
    go_ret
    exact ⟨0, rfl, by have := HN.out; omega, ⟨_, l, m, HML.out, HS.out.same ((Same.below (Ext.drew w)).mono fun b h => Nat.lt_trans h HB.out.lt), HB.out.below (Ext.drew w)⟩, KT.of (Ext.drew w)⟩
  · have hn2 : decide (n < 2) = false := decide_eq_false h2
    have HN2 := Lib.hid h2
    have a0 : ∀ W, Ext w W → W.cell? ⟨tp, 0, none⟩ = some (.slice ao l.length c) := fun W h => by rw [(HB.out.below h).cells]; rfl
    have a1 : ∀ W, Ext w W → W.cell? ⟨tp, 1, none⟩ = some (.int .i64 m) := fun W h => by rw [(HB.out.below h).cells]; rfl
    clear h2
    by_cases hlt : m < l.length
    · have hge : decide ((l.length : Int) ≤ (m : Int)) = false := decide_eq_false (by omega)
      have hge2 : ¬ (l.length : Int) ≤ (m : Int) := by omega
      go_enter Try.func33, Try.ntmps33
      go_wp2_with fail
      refine region_walkN (Ext w) (Ext.drew w) (by kernel_rfl) (by kernel_rfl) (fun _ _ d _ _ h => by cases d <;> exact h) ?_
      ((refine WalkN.take 0 _ ?_ (by simp only [List.getElem?_toArray, List.getElem?_cons_zero]; rfl) (by kernel_rfl) (by kernel_rfl) (by rfl) (fun W hW => ?_) ?_; rotate_left; · (go_simp; try with_reducible rfl)); simp only [Act.put, List.setIfInBounds_toArray, List.set_cons_zero, List.set_cons_succ]); ((refine WalkN.take 1 _ ?_ (by simp only [List.getElem?_toArray, List.getElem?_cons_succ, List.getElem?_cons_zero]; rfl) (by kernel_rfl) (by kernel_rfl) (by rfl) (fun W hW => ?_) ?_; rotate_left; · (go_simp; try with_reducible rfl)); simp only [Act.put, List.setIfInBounds_toArray, List.set_cons_zero, List.set_cons_succ]); ((refine WalkN.take 2 _ ?_ (by simp only [List.getElem?_toArray, List.getElem?_cons_succ, List.getElem?_cons_zero]; rfl) (by kernel_rfl) (by kernel_rfl) (by rfl) (fun W hW => ?_) ?_; rotate_left; · (go_simp; try with_reducible rfl)); simp only [Act.put, List.setIfInBounds_toArray, List.set_cons_zero, List.set_cons_succ]); ((refine WalkN.take 3 _ ?_ (by simp only [List.getElem?_toArray, List.getElem?_cons_succ, List.getElem?_cons_zero]; rfl) (by kernel_rfl) (by kernel_rfl) (by rfl) (fun W hW => ?_) ?_; rotate_left; · (go_simp; try with_reducible rfl)); simp only [Act.put, List.setIfInBounds_toArray, List.set_cons_zero, List.set_cons_succ]); ((refine WalkN.take 4 _ ?_ (by simp only [List.getElem?_toArray, List.getElem?_cons_succ, List.getElem?_cons_zero]; rfl) (by kernel_rfl) (by kernel_rfl) (by rfl) (fun W hW => ?_) ?_; rotate_left; · (go_simp; try with_reducible rfl)); simp only [Act.put, List.setIfInBounds_toArray, List.set_cons_zero, List.set_cons_succ]); ((refine WalkN.take 5 _ ?_ (by simp only [List.getElem?_toArray, List.getElem?_cons_succ, List.getElem?_cons_zero]; rfl) (by kernel_rfl) (by kernel_rfl) (by rfl) (fun W hW => ?_) ?_; rotate_left; · (go_simp; try with_reducible rfl)); simp only [Act.put, List.setIfInBounds_toArray, List.set_cons_zero, List.set_cons_succ]); ((refine WalkN.take 6 _ ?_ (by simp only [List.getElem?_toArray, List.getElem?_cons_succ, List.getElem?_cons_zero]; rfl) (by kernel_rfl) (by kernel_rfl) (by rfl) (fun W hW => ?_) ?_; rotate_left; · (go_simp; try with_reducible rfl)); simp only [Act.put, List.setIfInBounds_toArray, List.set_cons_zero, List.set_cons_succ]); ((refine WalkN.take 7 _ ?_ (by simp only [List.getElem?_toArray, List.getElem?_cons_succ, List.getElem?_cons_zero]; rfl) (by kernel_rfl) (by kernel_rfl) (by rfl) (fun W hW => ?_) ?_; rotate_left; · (go_simp; try with_reducible rfl)); simp only [Act.put, List.setIfInBounds_toArray, List.set_cons_zero, List.set_cons_succ]); ((refine WalkN.take 8 _ ?_ (by simp only [List.getElem?_toArray, List.getElem?_cons_succ, List.getElem?_cons_zero]; rfl) (by kernel_rfl) (by kernel_rfl) (by rfl) (fun W hW => ?_) ?_; rotate_left; · (go_simp; try with_reducible rfl)); simp only [Act.put, List.setIfInBounds_toArray, List.set_cons_zero, List.set_cons_succ]); ((refine WalkN.take 9 _ ?_ (by simp only [List.getElem?_toArray, List.getElem?_cons_succ, List.getElem?_cons_zero]; rfl) (by kernel_rfl) (by kernel_rfl) (by rfl) (fun W hW => ?_) ?_; rotate_left; · (go_simp; try with_reducible rfl)); simp only [Act.put, List.setIfInBounds_toArray, List.set_cons_zero, List.set_cons_succ]); ((refine WalkN.take 10 _ ?_ (by simp only [List.getElem?_toArray, List.getElem?_cons_succ, List.getElem?_cons_zero]; rfl) (by kernel_rfl) (by kernel_rfl) (by rfl) (fun W hW => ?_) ?_; rotate_left; · (go_simp; try with_reducible rfl)); simp only [Act.put, List.setIfInBounds_toArray, List.set_cons_zero, List.set_cons_succ]); ((refine WalkN.take 11 _ ?_ (by simp only [List.getElem?_toArray, List.getElem?_cons_succ, List.getElem?_cons_zero]; rfl) (by kernel_rfl) (by kernel_rfl) (by rfl) (fun W hW => ?_) ?_; rotate_left; · (go_simp; try with_reducible rfl)); simp only [Act.put, List.setIfInBounds_toArray, List.set_cons_zero, List.set_cons_succ]); ((refine WalkN.take 12 _ ?_ (by simp only [List.getElem?_toArray, List.getElem?_cons_succ, List.getElem?_cons_zero]; rfl) (by kernel_rfl) (by kernel_rfl) (by rfl) (fun W hW => ?_) ?_; rotate_left; · (go_simp; try with_reducible rfl)); simp only [Act.put, List.setIfInBounds_toArray, List.set_cons_zero, List.set_cons_succ]); ((refine WalkN.take 13 _ ?_ (by simp only [List.getElem?_toArray, List.getElem?_cons_succ, List.getElem?_cons_zero]; rfl) (by kernel_rfl) (by kernel_rfl) (by rfl) (fun W hW => ?_) ?_; rotate_left; · (go_simp; try with_reducible rfl)); simp only [Act.put, List.setIfInBounds_toArray, List.set_cons_zero, List.set_cons_succ])
      refine WalkN.done (by kernel_rfl) ?_
      have c1 := a1 _ (Ext.drew w)
      have hf1 := (HB.out.below (Ext.drew w)).free
      have hw1 : wrap64 ((m : Int) + 1) = ((m + 1 : Nat) : Int) := by rw [wrap_in _ (by omega) (by omega)]; omega
      obtain ⟨bb, off, rfl, hb, hcl⟩ := bytes_at HS.out m hlt
      generalize hq : l[m] = q at *
      clear a0 a1
      have HD := Lib.hid (HB.out.below (Ext.drew w))
      have HSD := Lib.hid (HS.out.same ((Same.below (Ext.drew w)).mono fun b h => Nat.lt_trans h HB.out.lt))
      go_wp2_with fail
      obtain ⟨w2, hw2⟩ : ∃ x, x = (w.setCell ⟨tp, 1, none⟩ (.int .i64 ((m : Int) + 1))).drew := ⟨_, rfl⟩
      rw [← hw2]
      have H2 := Lib.hid (show Blk w2 tp #[.slice (some ⟨bb, off, none⟩) l.length c, .int .i64 ((m + 1 : Nat) : Int)] 46 from by rw [hw2]; exact (HB.out.set_to 1 _ (by simp)).drew)
      have HK2 := Lib.hid (show KT tp w w2 from by rw [hw2]; exact ((Kept.refl _ _).set (fun h => h.2 rfl) _).drew)
      have hcl2 := (World.cell?_of_block (a := ⟨bb, off + m, none⟩) (HK2.out.block bb ⟨Nat.lt_trans hb HB.out.lt, by omega⟩)).trans hcl
      have HS2 := Lib.hid (HS.out.same (HK2.out.same (S := (· < tp)) fun b (h : b < tp) => ⟨Nat.lt_trans h HB.out.lt, by omega⟩))
      have HTW := Lib.hid (show Tp w2 tp from ⟨_, l, m + 1, hlt, HS2.out, H2.out⟩)
      have b0 : ∀ W, Ext w2 W → W.cell? ⟨tp, 0, none⟩ = some (.slice (some ⟨bb, off, none⟩) l.length c) := fun W h => by rw [(H2.out.below h).cells]; rfl
      have b1 : ∀ W, Ext w2 W → W.cell? ⟨tp, 1, none⟩ = some (.int .i64 ((m + 1 : Nat) : Int)) := fun W h => by rw [(H2.out.below h).cells]; rfl
      have b2 : ∀ W, Ext w2 W → W.cell? ⟨bb, off + m, none⟩ = some (.int .u8 q.toNat) := fun W h => Ext.cell h (a := ⟨bb, off + m, none⟩) hcl2
      have hs1 : IntKind.i64.wrap (m : Int) = (m : Int) := IntWalk.i64_in _ (by omega)
      have hs2 : (0 : Int) ≤ (m : Int) := by omega
      have hs3 : (m : Int) < (l.length : Int) := by omega
      obtain ⟨n', rfl⟩ : ∃ n' : Nat, n = n' := ⟨n.toNat, by omega⟩
      have hmod : (q.toNat : Int).tmod (n' : Int) = ((q.toNat % n' : Nat) : Int) := by
        rw [Int.tmod_eq_emod_of_nonneg (by omega)]; simp
      have hkl := Nat.mod_lt q.toNat (show 0 < n' from by omega)
      have hn0 : ¬ n' = 0 := by omega
      have hq0 := q.toNat_lt
      generalize q.toNat = qn at *
      have hqw : IntKind.i64.wrap (qn : Int) = (qn : Int) := IntWalk.i64_in _ (by omega)
      generalize hk : qn % n' = k at *
      have HKL := Lib.hid hkl
      clear hw2 c1 hf1 hw1 hcl hcl2 hb hq hk hkl
      refine region_walkN (Ext w2) (Ext.drew w2) (by kernel_rfl) (by kernel_rfl) (fun _ _ d _ _ h => by cases d <;> exact h) ?_
      ((refine WalkN.take 0 _ ?_ (by simp only [List.getElem?_toArray, List.getElem?_cons_zero]; rfl) (by kernel_rfl) (by kernel_rfl) (by rfl) (fun W hW => ?_) ?_; rotate_left; · (go_simp; try with_reducible rfl)); simp only [Act.put, List.setIfInBounds_toArray, List.set_cons_zero, List.set_cons_succ]); ((refine WalkN.take 1 _ ?_ (by simp only [List.getElem?_toArray, List.getElem?_cons_succ, List.getElem?_cons_zero]; rfl) (by kernel_rfl) (by kernel_rfl) (by rfl) (fun W hW => ?_) ?_; rotate_left; · (go_simp; try with_reducible rfl)); simp only [Act.put, List.setIfInBounds_toArray, List.set_cons_zero, List.set_cons_succ]); ((refine WalkN.take 2 _ ?_ (by simp only [List.getElem?_toArray, List.getElem?_cons_succ, List.getElem?_cons_zero]; rfl) (by kernel_rfl) (by kernel_rfl) (by rfl) (fun W hW => ?_) ?_; rotate_left; · (go_simp; try with_reducible rfl)); simp only [Act.put, List.setIfInBounds_toArray, List.set_cons_zero, List.set_cons_succ]); ((refine WalkN.take 3 _ ?_ (by simp only [List.getElem?_toArray, List.getElem?_cons_succ, List.getElem?_cons_zero]; rfl) (by kernel_rfl) (by kernel_rfl) (by rfl) (fun W hW => ?_) ?_; rotate_left; · (go_simp; try with_reducible rfl)); simp only [Act.put, List.setIfInBounds_toArray, List.set_cons_zero, List.set_cons_succ]); ((refine WalkN.take 4 _ ?_ (by simp only [List.getElem?_toArray, List.getElem?_cons_succ, List.getElem?_cons_zero]; rfl) (by kernel_rfl) (by kernel_rfl) (by rfl) (fun W hW => ?_) ?_; rotate_left; · (go_simp; try with_reducible rfl)); simp only [Act.put, List.setIfInBounds_toArray, List.set_cons_zero, List.set_cons_succ]); ((refine WalkN.take 5 _ ?_ (by simp only [List.getElem?_toArray, List.getElem?_cons_succ, List.getElem?_cons_zero]; rfl) (by kernel_rfl) (by kernel_rfl) (by rfl) (fun W hW => ?_) ?_; rotate_left; · (go_simp; try with_reducible rfl)); simp only [Act.put, List.setIfInBounds_toArray, List.set_cons_zero, List.set_cons_succ]); ((refine WalkN.take 6 _ ?_ (by simp only [List.getElem?_toArray, List.getElem?_cons_succ, List.getElem?_cons_zero]; rfl) (by kernel_rfl) (by kernel_rfl) (by rfl) (fun W hW => ?_) ?_; rotate_left; · (go_simp; try with_reducible rfl)); simp only [Act.put, List.setIfInBounds_toArray, List.set_cons_zero, List.set_cons_succ]); ((refine WalkN.take 7 _ ?_ (by simp only [List.getElem?_toArray, List.getElem?_cons_succ, List.getElem?_cons_zero]; rfl) (by kernel_rfl) (by kernel_rfl) (by rfl) (fun W hW => ?_) ?_; rotate_left; · (go_simp; try with_reducible rfl)); simp only [Act.put, List.setIfInBounds_toArray, List.set_cons_zero, List.set_cons_succ]); ((refine WalkN.take 8 _ ?_ (by simp only [List.getElem?_toArray, List.getElem?_cons_succ, List.getElem?_cons_zero]; rfl) (by kernel_rfl) (by kernel_rfl) (by rfl) (fun W hW => ?_) ?_; rotate_left; · (go_simp; try with_reducible rfl)); simp only [Act.put, List.setIfInBounds_toArray, List.set_cons_zero, List.set_cons_succ]); ((refine WalkN.take 9 _ ?_ (by simp only [List.getElem?_toArray, List.getElem?_cons_succ, List.getElem?_cons_zero]; rfl) (by kernel_rfl) (by kernel_rfl) (by rfl) (fun W hW => ?_) ?_; rotate_left; · (go_simp; try with_reducible rfl)); simp only [Act.put, List.setIfInBounds_toArray, List.set_cons_zero, List.set_cons_succ]); ((refine WalkN.take 10 _ ?_ (by simp only [List.getElem?_toArray, List.getElem?_cons_succ, List.getElem?_cons_zero]; rfl) (by kernel_rfl) (by kernel_rfl) (by rfl) (fun W hW => ?_) ?_; rotate_left; · (go_simp; try with_reducible rfl)); simp only [Act.put, List.setIfInBounds_toArray, List.set_cons_zero, List.set_cons_succ]); ((refine WalkN.take 11 _ ?_ (by simp only [List.getElem?_toArray, List.getElem?_cons_succ, List.getElem?_cons_zero]; rfl) (by kernel_rfl) (by kernel_rfl) (by rfl) (fun W hW => ?_) ?_; rotate_left; · (go_simp; try with_reducible rfl)); simp only [Act.put, List.setIfInBounds_toArray, List.set_cons_zero, List.set_cons_succ]); ((refine WalkN.take 12 _ ?_ (by simp only [List.getElem?_toArray, List.getElem?_cons_succ, List.getElem?_cons_zero]; rfl) (by kernel_rfl) (by kernel_rfl) (by rfl) (fun W hW => ?_) ?_; rotate_left; · (go_simp; try with_reducible rfl)); simp only [Act.put, List.setIfInBounds_toArray, List.set_cons_zero, List.set_cons_succ]); ((refine WalkN.take 13 _ ?_ (by simp only [List.getElem?_toArray, List.getElem?_cons_succ, List.getElem?_cons_zero]; rfl) (by kernel_rfl) (by kernel_rfl) (by rfl) (fun W hW => ?_) ?_; rotate_left; · (go_simp; try with_reducible rfl)); simp only [Act.put, List.setIfInBounds_toArray, List.set_cons_zero, List.set_cons_succ]); ((refine WalkN.take 14 _ ?_ (by simp only [List.getElem?_toArray, List.getElem?_cons_succ, List.getElem?_cons_zero]; rfl) (by kernel_rfl) (by kernel_rfl) (by rfl) (fun W hW => ?_) ?_; rotate_left; · (go_simp; try with_reducible rfl)); simp only [Act.put, List.setIfInBounds_toArray, List.set_cons_zero, List.set_cons_succ])
      refine WalkN.done (by kernel_rfl) ?_
      clear b0 b1 b2
      go_wp2_with fail
      go_ret
      exact ⟨k, rfl, by have := HKL.out; omega, HTW.out.ext (Ext.drew w2), KT.trans HK2.out (KT.of (Ext.drew w2))⟩
    · have hge : decide ((l.length : Int) ≤ (m : Int)) = true := decide_eq_true (by omega)
      have hge2 : (l.length : Int) ≤ (m : Int) := by omega
      go_enter Try.func33, Try.ntmps33
      go_wp2_with fail
      refine region_walkN (Ext w) (Ext.drew w) (by kernel_rfl) (by kernel_rfl) (fun _ _ d _ _ h => by cases d <;> exact h) ?_
      ((refine WalkN.take 0 _ ?_ (by simp only [List.getElem?_toArray, List.getElem?_cons_zero]; rfl) (by kernel_rfl) (by kernel_rfl) (by rfl) (fun W hW => ?_) ?_; rotate_left; · (go_simp; try with_reducible rfl)); simp only [Act.put, List.setIfInBounds_toArray, List.set_cons_zero, List.set_cons_succ]); ((refine WalkN.take 1 _ ?_ (by simp only [List.getElem?_toArray, List.getElem?_cons_succ, List.getElem?_cons_zero]; rfl) (by kernel_rfl) (by kernel_rfl) (by rfl) (fun W hW => ?_) ?_; rotate_left; · (go_simp; try with_reducible rfl)); simp only [Act.put, List.setIfInBounds_toArray, List.set_cons_zero, List.set_cons_succ]); ((refine WalkN.take 2 _ ?_ (by simp only [List.getElem?_toArray, List.getElem?_cons_succ, List.getElem?_cons_zero]; rfl) (by kernel_rfl) (by kernel_rfl) (by rfl) (fun W hW => ?_) ?_; rotate_left; · (go_simp; try with_reducible rfl)); simp only [Act.put, List.setIfInBounds_toArray, List.set_cons_zero, List.set_cons_succ]); ((refine WalkN.take 3 _ ?_ (by simp only [List.getElem?_toArray, List.getElem?_cons_succ, List.getElem?_cons_zero]; rfl) (by kernel_rfl) (by kernel_rfl) (by rfl) (fun W hW => ?_) ?_; rotate_left; · (go_simp; try with_reducible rfl)); simp only [Act.put, List.setIfInBounds_toArray, List.set_cons_zero, List.set_cons_succ]); ((refine WalkN.take 4 _ ?_ (by simp only [List.getElem?_toArray, List.getElem?_cons_succ, List.getElem?_cons_zero]; rfl) (by kernel_rfl) (by kernel_rfl) (by rfl) (fun W hW => ?_) ?_; rotate_left; · (go_simp; try with_reducible rfl)); simp only [Act.put, List.setIfInBounds_toArray, List.set_cons_zero, List.set_cons_succ]); ((refine WalkN.take 5 _ ?_ (by simp only [List.getElem?_toArray, List.getElem?_cons_succ, List.getElem?_cons_zero]; rfl) (by kernel_rfl) (by kernel_rfl) (by rfl) (fun W hW => ?_) ?_; rotate_left; · (go_simp; try with_reducible rfl)); simp only [Act.put, List.setIfInBounds_toArray, List.set_cons_zero, List.set_cons_succ]); ((refine WalkN.take 6 _ ?_ (by simp only [List.getElem?_toArray, List.getElem?_cons_succ, List.getElem?_cons_zero]; rfl) (by kernel_rfl) (by kernel_rfl) (by rfl) (fun W hW => ?_) ?_; rotate_left; · (go_simp; try with_reducible rfl)); simp only [Act.put, List.setIfInBounds_toArray, List.set_cons_zero, List.set_cons_succ]); ((refine WalkN.take 7 _ ?_ (by simp only [List.getElem?_toArray, List.getElem?_cons_succ, List.getElem?_cons_zero]; rfl) (by kernel_rfl) (by kernel_rfl) (by rfl) (fun W hW => ?_) ?_; rotate_left; · (go_simp; try with_reducible rfl)); simp only [Act.put, List.setIfInBounds_toArray, List.set_cons_zero, List.set_cons_succ]); ((refine WalkN.take 8 _ ?_ (by simp only [List.getElem?_toArray, List.getElem?_cons_succ, List.getElem?_cons_zero]; rfl) (by kernel_rfl) (by kernel_rfl) (by rfl) (fun W hW => ?_) ?_; rotate_left; · (go_simp; try with_reducible rfl)); simp only [Act.put, List.setIfInBounds_toArray, List.set_cons_zero, List.set_cons_succ]); ((refine WalkN.take 9 _ ?_ (by simp only [List.getElem?_toArray, List.getElem?_cons_succ, List.getElem?_cons_zero]; rfl) (by kernel_rfl) (by kernel_rfl) (by rfl) (fun W hW => ?_) ?_; rotate_left; · (go_simp; try with_reducible rfl)); simp only [Act.put, List.setIfInBounds_toArray, List.set_cons_zero, List.set_cons_succ]); ((refine WalkN.take 10 _ ?_ (by simp only [List.getElem?_toArray, List.getElem?_cons_succ, List.getElem?_cons_zero]; rfl) (by kernel_rfl) (by kernel_rfl) (by rfl) (fun W hW => ?_) ?_; rotate_left; · (go_simp; try with_reducible rfl)); simp only [Act.put, List.setIfInBounds_toArray, List.set_cons_zero, List.set_cons_succ]); ((refine WalkN.take 11 _ ?_ (by simp only [List.getElem?_toArray, List.getElem?_cons_succ, List.getElem?_cons_zero]; rfl) (by kernel_rfl) (by kernel_rfl) (by rfl) (fun W hW => ?_) ?_; rotate_left; · (go_simp; try with_reducible rfl)); simp only [Act.put, List.setIfInBounds_toArray, List.set_cons_zero, List.set_cons_succ]); ((refine WalkN.take 12 _ ?_ (by simp only [List.getElem?_toArray, List.getElem?_cons_succ, List.getElem?_cons_zero]; rfl) (by kernel_rfl) (by kernel_rfl) (by rfl) (fun W hW => ?_) ?_; rotate_left; · (go_simp; try with_reducible rfl)); simp only [Act.put, List.setIfInBounds_toArray, List.set_cons_zero, List.set_cons_succ]); ((refine WalkN.take 13 _ ?_ (by simp only [List.getElem?_toArray, List.getElem?_cons_succ, List.getElem?_cons_zero]; rfl) (by kernel_rfl) (by kernel_rfl) (by rfl) (fun W hW => ?_) ?_; rotate_left; · (go_simp; try with_reducible rfl)); simp only [Act.put, List.setIfInBounds_toArray, List.set_cons_zero, List.set_cons_succ])
      refine WalkN.done (by kernel_rfl) ?_
      clear a0 a1
      go_wp2_with fail
      go_ret
      exact ⟨0, rfl, by have := HN2.out; omega, ⟨_, l, m, HML.out, HS.out.same ((Same.below (Ext.drew w)).mono fun b h => Nat.lt_trans h HB.out.lt), HB.out.below (Ext.drew w)⟩, KT.of (Ext.drew w)⟩

end Go.Proofs.Ytipddhcfcehcaaa
