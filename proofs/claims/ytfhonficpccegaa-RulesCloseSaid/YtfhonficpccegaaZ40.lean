/- The walk of RulesNeed. A reference among the arguments, opened. No condition: lemmas. -/
import Derived.Test.YtfhonficpccegaaZ39
import Derived.Test.YtfhonficpccegaaZ31
import Derived.Test.YtfhonficpccegaaZ5
namespace Go.Proofs.Ytfhonficpccegaa
open Go Go.RowKit Go.Maps

theorem one_len {l : List R2} (hn : l.Nodup) {a : R2} (h : ∀ x ∈ l, x = a) : l.length ≤ 1 := nodup_le (u := [a]) hn fun x hx => List.mem_singleton.2 (h x hx)
theorem where_len {ts : List TyS} (hu : uniqOk ts = true) (b : ByteArray) : (whereP (refsOf ts) b).length ≤ ts.length := by
  unfold whereP refsOf
  rw [List.length_map, List.filter_flatMap]
  have := flat_le (fun t : TyS => (relsOf t.name t.rels).filter fun x => decide (x.1.r = b)) 1 ts fun t ht => by
    have hn := (uniq_names hu).2 t ht
    unfold relsOf
    rw [List.filter_map, List.length_map]
    have h1 : ((t.rels.filter ((fun x : R2 × RT => decide (x.1.r = b)) ∘ fun r : ByteArray × RT => (⟨t.name, r.1⟩, r.2))).map fun r : ByteArray × RT => r.1).length ≤ 1 := nodup_le (u := [b]) (hn.sublist (List.Sublist.map _ List.filter_sublist)) fun x hx => by
      obtain ⟨y, hy, rfl⟩ := List.mem_map.1 hx
      have := (List.mem_filter.1 hy).2
      exact List.mem_singleton.2 (by simpa using this)
    rwa [List.length_map] at h1
  omega
theorem pneeds_len {P : List (R2 × RT)} {typ : ByteArray} {n : Nat} (hw : ∀ b, (whereP P b).length ≤ n) (r : RT) : (r.pneeds P typ).length ≤ r.sz * (1 + n) := by
  induction r using RT.ind with
  | h r ih =>
  obtain ⟨k, a, b, ps⟩ := r
  dsimp only [RT.ps] at ih
  have h1 : ∀ l : List RT, (∀ p ∈ l, (p.pneeds P typ).length ≤ p.sz * (1 + n)) → (pneedsL P typ l).length ≤ szL l * (1 + n) := fun l hl => by
    induction l with
    | nil => simp [pneedsL]
    | cons x l ih2 =>
      rw [pneedsL, szL, List.length_append, Nat.add_mul]
      have := hl x List.mem_cons_self
      have := ih2 fun p hp => hl p (List.mem_cons_of_mem _ hp)
      omega
  have h2 := h1 ps ih
  have h3 := (RT.mk k a b ps).sz_eq
  dsimp only [RT.ps] at h3
  rw [h3, Nat.add_mul, Nat.one_mul, RT.pneeds, List.length_append]
  have h4 := hw b
  split
  · simp only [List.length_cons, List.length_nil]; omega
  · split
    · simp only [List.length_cons, List.length_map]; omega
    · simp only [List.length_nil]; omega
theorem long_needs {ts : List TyS} (hu : uniqOk ts = true) (hl : longOk ts = true) : ∀ x ∈ refsOf ts, x.2.sz ≤ 32 ∧ (x.2.pneeds (refsOf ts) x.1.t).length ≤ 544 := by
  intro x hx
  obtain ⟨t, ht, r, hr, rfl⟩ := refs_mem.1 hx
  have h1 := ((long_small hl).2 t ht).2 r hr
  have h2 := (long_small hl).1
  have h3 := pneeds_len (P := refsOf ts) (typ := t.name) (fun b => where_len hu b) r.2
  refine ⟨h1, Nat.le_trans h3 ?_⟩
  exact Nat.le_trans (Nat.mul_le_mul h1 (show 1 + ts.length ≤ 17 from by omega)) (by omega)
theorem long_univ {ts : List TyS} (hu : uniqOk ts = true) (hl : longOk ts = true) (r : R2) : (univP ts r).length ≤ 200000 := by
  unfold univP
  rw [List.length_cons]
  have h1 := flat_le (fun x : R2 × RT => x.2.pneeds (refsOf ts) x.1.t) 544 (refsOf ts) fun x hx => (long_needs hu hl x hx).2
  have h2 := long_refs hl
  omega
theorem long_needsP {ts : List TyS} (hu : uniqOk ts = true) (hl : longOk ts = true) (r : R2) : (needsP ts r).length ≤ 544 := by
  unfold needsP
  split
  · simp
  · rename_i rule h
    exact (long_needs hu hl (r, rule) (look_mem h)).2

set_option maxRecDepth 100000 in
set_option maxHeartbeats 1000000 in
theorem needLaw_any (ts : List TyS) (tv : Value) (r : R2) (w : World) (h : TysAt (· < w.heap.size) w ts tv) (hsz : schBk ts ≤ 1048576) (hok : ∀ t ∈ ts, t.Ok) (hr : r.Ok) : Calls Try.prog 6 #[.agg #[tv], r2V r] w fun e w' => e = .returned (.bool true) ∧ Below w.heap.size w w' := by
  obtain ⟨rt, rr⟩ := r
  have HRO := Lib.hid hr
  have HT := Lib.hid h
  have HOK := Lib.hid hok
  have HSZ := Lib.hid hsz
  obtain ⟨ao, c, rfl, -, -, -⟩ := h.rows
  generalize ts.length = tl at *
  obtain ⟨wa, hwa⟩ : ∃ x, x = w.alloc (.cells #[.slice ao tl c] 24) := ⟨_, rfl⟩
  obtain ⟨wb, hwb⟩ : ∃ x, x = wa.alloc (.cells #[.string rt, .string rr] 43) := ⟨_, rfl⟩
  have e1 : wa.heap.size = w.heap.size + 1 := by rw [hwa]; simp
  have x01 : Ext w wa := by rw [hwa]; exact Ext.alloc _ _
  have x12 : Ext wa wb := by rw [hwb]; exact Ext.alloc _ _
  have HSA := Lib.hid (show Blk wb w.heap.size #[.slice ao tl c] 24 from Blk.below (by rw [hwa]; exact Blk.made _ _ _) x12)
  have HPA := Lib.hid (show Blk wb (w.heap.size + 1) #[.string rt, .string rr] 43 from by rw [hwb, ← e1]; exact Blk.made _ _ _)
  have HX := Lib.hid (x01.trans x12)
  have HF := Lib.hid (fixed06_any wb)
  subst hwb hwa
  clear h hok hsz hr e1 x01 x12
  unfold r2V
  dsimp only
  go_enter Try.func6, Try.ntmps6
  go_wp2_with fail
  refine HF.out.mono ?_
  rintro e w1 ⟨rfl, hb1⟩
  have HB1 := Lib.hid (show Ext w w1 from HX.out.trans hb1)
  have HS1 := Lib.hid (HSA.out.below hb1)
  have HP1 := Lib.hid (HPA.out.below hb1)
  have HT1 := Lib.hid (HT.out.up HB1.out)
  have HFE := Lib.hid (few05_any ts _ w1 HT1.out HOK.out)
  have hs1 := HS1.out.cells
  clear hb1 HF HT HX HSA HPA
  cases hfe : fewT ts 200 with
  | false =>
    rw [hfe] at HFE
    go_wp2_with fail
    refine HFE.out.mono ?_
    rintro e w2 ⟨rfl, hb2⟩
    have HB2 := Lib.hid (HB1.out.trans hb2)
    clear hb2
    go_wp2_with fail
    go_ret
    exact ⟨rfl, HB2.out⟩
  | true =>
    rw [hfe] at HFE
    go_wp2_with fail
    refine HFE.out.mono ?_
    rintro e w2 ⟨rfl, hb2⟩
    have HB2 := Lib.hid (HB1.out.trans hb2)
    have HS2 := Lib.hid (HS1.out.below hb2)
    have HP2 := Lib.hid (HP1.out.below hb2)
    have HT2 := Lib.hid (HT1.out.up hb2)
    have hs2 := HS2.out.cells
    have HCH := Lib.hid (check06_any ts _ _ HT2.out HOK.out (by have := schW_bk ts; have := HSZ.out; omega))
    clear hb2 hs1 hfe HFE HB1 HS1 HP1 HT1
    by_cases hck : chk06 ts = 0
    · have HU := Lib.hid (chk_uniq hck)
      have HLG := Lib.hid (chk_long hck)
      rw [hck] at HCH
      clear hck
      go_wp2_with fail
      refine HCH.out.mono ?_
      rintro e w3 ⟨rfl, hb3⟩
      have HB3 := Lib.hid (HB2.out.trans hb3)
      have HS3 := Lib.hid (HS2.out.below hb3)
      have HP3 := Lib.hid (HP2.out.below hb3)
      have HT3 := Lib.hid (HT2.out.up hb3)
      have hs3 := HS3.out.cells
      have hp3 := HP3.out.cells
      have HFP := Lib.hid (findP_any ts _ rt rr w3 HT3.out HOK.out HU.out (by have := long_refs HLG.out; omega) HRO.out.1 HRO.out.2)
      clear hb3 hs2 HCH HB2 HS2 HP2 HT2
      go_wp2_with fail
      refine HFP.out.mono ?_
      rintro e w4 ⟨⟨z1, zv1⟩, rfl, hat4, hz4, hn4, hb4⟩
      have HZ4 := Lib.hid (And.intro hz4 hn4)
      dsimp only at hat4
      obtain ⟨ao4, c4, rfl, -, -, -⟩ := hat4.rows
      have x45 := Ext.alloc w4 (.cells #[.int .i64 z1.k, .string z1.a, .string z1.b, .slice ao4 z1.ps.length c4] 46)
      have HR5 := Lib.hid (Blk.made w4 #[.int .i64 z1.k, .string z1.a, .string z1.b, .slice ao4 z1.ps.length c4] 46)
      have HB5 := Lib.hid (HB3.out.trans (Ext.trans hb4 x45))
      have HS5 := Lib.hid (HS3.out.below (Ext.trans hb4 x45))
      have HP5 := Lib.hid (HP3.out.below (Ext.trans hb4 x45))
      have HT5 := Lib.hid (HT3.out.up (Ext.trans hb4 x45))
      have HA5 := Lib.hid (hat4.up x45)
      have hs5 := HS5.out.cells
      have hp5 := HP5.out.cells
      have HFD := Lib.hid (find06_any ts _ rt rr _ HT5.out HU.out)
      clear hat4 hz4 hn4 hb4 x45 HFP hs3 hp3 HB3 HS3 HP3 HT3
      unfold rvV rV
      dsimp only
      generalize hsm : (lookA (refsOf ts) ⟨rt, rr⟩).isSome = sm at *
      have HSM := Lib.hid hsm
      clear hsm
      go_wp2_with fail
      refine HFD.out.mono ?_
      rintro e w6 ⟨⟨z2, zv2⟩, rfl, hat6, hz6, hn6, hb6⟩
      have HZ6 := Lib.hid (show z2 = z1 from by
        cases hl : lookA (refsOf ts) ⟨rt, rr⟩ with
        | none =>
          have h1 := HZ4.out.2 hl
          have h2 := hn6 hl
          rw [(Prod.mk.inj h1).1, (Prod.mk.inj h2).1]
        | some rule =>
          have h1 := HZ4.out.1 rule hl
          have h2 := hz6 rule hl
          dsimp only at h1 h2
          rw [h1, h2])
      obtain rfl := HZ6.out
      dsimp only at hat6
      obtain ⟨ao6, c6, rfl, -, -, -⟩ := hat6.rows
      unfold rvV rV
      dsimp only
      obtain ⟨w7, hw7⟩ : ∃ x, x = w6.alloc (.cells #[.int .i64 z2.k, .string z2.a, .string z2.b, .slice ao6 z2.ps.length c6] 46) := ⟨_, rfl⟩
      have x67 : Ext w6 w7 := by rw [hw7]; exact Ext.alloc _ _
      have HRA := Lib.hid (HR5.out.below (Ext.trans hb6 x67))
      have HRB := Lib.hid (show Blk w7 w6.heap.size #[.int .i64 z2.k, .string z2.a, .string z2.b, .slice ao6 z2.ps.length c6] 46 from by rw [hw7]; exact Blk.made _ _ _)
      have HB7 := Lib.hid (HB5.out.trans (Ext.trans hb6 x67))
      have HS7 := Lib.hid (HS5.out.below (Ext.trans hb6 x67))
      have HP7 := Lib.hid (HP5.out.below (Ext.trans hb6 x67))
      have HT7 := Lib.hid (HT5.out.up (Ext.trans hb6 x67))
      have HA7 := Lib.hid (HA5.out.up (Ext.trans hb6 x67))
      have HA72 := Lib.hid (hat6.up x67)
      clear hat6 hz6 hn6 hb6 x67 HFD hs5 hp5 HB5 HS5 HP5 HT5 HA5 HR5 HZ6 HZ4
      subst hw7
      go_wp2_with fail
      obtain ⟨w7, hw7⟩ : ∃ x, x = w6.alloc (.cells #[.int .i64 z2.k, .string z2.a, .string z2.b, .slice ao6 z2.ps.length c6] 46) := ⟨_, rfl⟩
      rw [← hw7] at HRA HRB HB7 HS7 HP7 HT7 HA7 HA72 ⊢
      clear hw7
      have hra : ∀ W, Ext w7 W → W.cell? ⟨w.heap.size, 0, none⟩ = some (.slice ao tl c) := fun W h => by rw [(HS7.out.below h).cells]; rfl
      have hrp : ∀ W, Ext w7 W → ∀ i, W.cell? ⟨w.heap.size + 1, i, none⟩ = (#[Value.string rt, .string rr] : Array Value)[i]? := fun W h => (HP7.out.below h).cells
      have hr1 : ∀ W, Ext w7 W → ∀ i, W.cell? ⟨w4.heap.size, i, none⟩ = (#[Value.int .i64 z2.k, .string z2.a, .string z2.b, .slice ao4 z2.ps.length c4] : Array Value)[i]? := fun W h => (HRA.out.below h).cells
      have hr2 : ∀ W, Ext w7 W → ∀ i, W.cell? ⟨w6.heap.size, i, none⟩ = (#[Value.int .i64 z2.k, .string z2.a, .string z2.b, .slice ao6 z2.ps.length c6] : Array Value)[i]? := fun W h => (HRB.out.below h).cells
      have hE : Ext w7 w7.drew := Ext.drew w7
      have hsm : (sm == sm) = true := beq_self_eq_true _
      refine region_walk [(0, true), (1, true), (2, true), (3, true), (4, true), (5, true), (6, false), (7, true), (8, true), (9, true), (10, true), (12, true), (13, true), (11, false), (14, false), (15, false), (16, true), (17, true), (18, true), (19, true), (21, true), (22, true), (20, false), (23, false), (24, false), (25, true), (26, true)] (by kernel_rfl) (by kernel_rfl) (by kernel_rfl) rfl (fun _ _ d _ _ h => by cases d <;> exact h) ?_
      iterate 6 ((refine Walk.take _ ?_ (by simp only [List.getElem?_toArray, List.getElem?_cons_succ, List.getElem?_cons_zero]; rfl) (by rfl) (fun W hW => ?_) ?_; rotate_left; · (have hE0 := hE.trans hW; go_simp; try with_reducible rfl)); simp only [Act.put, List.setIfInBounds_toArray, List.set_cons_zero, List.set_cons_succ])
      refine Walk.make _ (by simp only [List.getElem?_toArray, List.getElem?_cons_succ, List.getElem?_cons_zero]; rfl) (by rfl) (fun K hK => ?_); go_simp
      have hsr := sameRule_any z2 z2 _ _ _ true (HA7.out.up hE) (HA72.out.up hE) (by simp)
      unfold rV at hsr
      refine hsr.mono ?_
      clear hsr
      rintro e w8 ⟨rfl, hb8⟩
      refine hK.out _ _ hb8 ?_
      have hE := hE.trans hb8
      clear hK hb8
      iterate 6 ((refine Walk.take _ ?_ (by simp only [List.getElem?_toArray, List.getElem?_cons_succ, List.getElem?_cons_zero]; rfl) (by rfl) (fun W hW => ?_) ?_; rotate_left; · (have hE0 := hE.trans hW; go_simp; try with_reducible rfl)); simp only [Act.put, List.setIfInBounds_toArray, List.set_cons_zero, List.set_cons_succ])
      refine Walk.make _ (by simp only [List.getElem?_toArray, List.getElem?_cons_succ, List.getElem?_cons_zero]; rfl) (by rfl) (fun K hK => ?_); go_simp
      refine (needsP_any ts _ ⟨rt, rr⟩ _ (HT7.out.up hE) HOK.out HU.out (by have := long_refs HLG.out; omega) HRO.out (by have := long_needsP HU.out HLG.out ⟨rt, rr⟩; omega)).mono ?_
      rintro e w9 ⟨v9, s9, rfl, hu9, hm9, ho9, hb9⟩
      have hs9 := ho9.sl.mono (T := (· < w9.heap.size)) fun b hb => hb.2
      clear ho9
      obtain ⟨a9, n9, c9, rfl, -, -, -⟩ := hs9.len
      refine hK.out _ _ hb9 ?_
      have hE := hE.trans hb9
      clear hK
      iterate 0 ((refine Walk.take _ ?_ (by simp only [List.getElem?_toArray, List.getElem?_cons_succ, List.getElem?_cons_zero]; rfl) (by rfl) (fun W hW => ?_) ?_; rotate_left; · (have hE0 := hE.trans hW; go_simp; try with_reducible rfl)); simp only [Act.put, List.setIfInBounds_toArray, List.set_cons_zero, List.set_cons_succ])
      refine Walk.make _ (by simp only [List.getElem?_toArray, List.getElem?_cons_succ, List.getElem?_cons_zero]; rfl) (by rfl) (fun K hK => ?_); go_simp
      refine (needsD_any ts _ ⟨rt, rr⟩ _ (HT7.out.up hE) HU.out (by have := (long_small HLG.out).1; omega) (fun x hx => by have := long_needs HU.out HLG.out x hx; omega)).mono ?_
      rintro e w10 ⟨v10, s10, rfl, hu10, hs10, hb10⟩
      obtain rfl : s9 = s10 := hu9.eq hu10.up fun x => by rw [hm9, hu10.mem]
      obtain ⟨a10, n10, c10, rfl, -, -, -⟩ := hs10.len
      refine hK.out _ _ hb10 ?_
      have hE := hE.trans hb10
      have hs9' := hs9.up hb10
      clear hK hs9 hu9 hm9 hu10
      iterate 0 ((refine Walk.take _ ?_ (by simp only [List.getElem?_toArray, List.getElem?_cons_succ, List.getElem?_cons_zero]; rfl) (by rfl) (fun W hW => ?_) ?_; rotate_left; · (have hE0 := hE.trans hW; go_simp; try with_reducible rfl)); simp only [Act.put, List.setIfInBounds_toArray, List.set_cons_zero, List.set_cons_succ])
      refine Walk.make _ (by simp only [List.getElem?_toArray, List.getElem?_cons_succ, List.getElem?_cons_zero]; rfl) (by rfl) (fun K hK => ?_); go_simp
      refine (sameR_any _ _ s9 _ hs9' hs10).mono ?_
      rintro e w11 ⟨rfl, hb11⟩
      refine hK.out _ _ hb11 ?_
      have hE := hE.trans hb11
      clear hK hs9' hs10
      iterate 6 ((refine Walk.take _ ?_ (by simp only [List.getElem?_toArray, List.getElem?_cons_succ, List.getElem?_cons_zero]; rfl) (by rfl) (fun W hW => ?_) ?_; rotate_left; · (have hE0 := hE.trans hW; go_simp; try with_reducible rfl)); simp only [Act.put, List.setIfInBounds_toArray, List.set_cons_zero, List.set_cons_succ])
      refine Walk.make _ (by simp only [List.getElem?_toArray, List.getElem?_cons_succ, List.getElem?_cons_zero]; rfl) (by rfl) (fun K hK => ?_); go_simp
      refine (closureP_any ts _ ⟨rt, rr⟩ _ (HT7.out.up hE) HOK.out HU.out (by have := long_refs HLG.out; omega) HRO.out (fun x hx => by have := long_needs HU.out HLG.out x hx; omega)).mono ?_
      rintro e w12 ⟨v12, s12, rfl, hn12, hm12, ho12, hb12⟩
      have hs12 := ho12.sl.mono (T := (· < w12.heap.size)) fun b hb => hb.2
      clear ho12
      obtain ⟨a12, n12, c12, rfl, -, -, -⟩ := hs12.len
      refine hK.out _ _ hb12 ?_
      have hE := hE.trans hb12
      clear hK
      iterate 0 ((refine Walk.take _ ?_ (by simp only [List.getElem?_toArray, List.getElem?_cons_succ, List.getElem?_cons_zero]; rfl) (by rfl) (fun W hW => ?_) ?_; rotate_left; · (have hE0 := hE.trans hW; go_simp; try with_reducible rfl)); simp only [Act.put, List.setIfInBounds_toArray, List.set_cons_zero, List.set_cons_succ])
      refine Walk.make _ (by simp only [List.getElem?_toArray, List.getElem?_cons_succ, List.getElem?_cons_zero]; rfl) (by rfl) (fun K hK => ?_); go_simp
      refine (closureD_any ts _ ⟨rt, rr⟩ _ (HT7.out.up hE) HU.out (by have := (long_small HLG.out).1; omega) (fun x hx => by have := long_needs HU.out HLG.out x hx; omega) (by have := long_univ HU.out HLG.out ⟨rt, rr⟩; omega)).mono ?_
      rintro e w13 ⟨v13, s13, rfl, hn13, hm13, hs13, hb13⟩
      obtain rfl : s12 = s13 := by
        cases hl : lookA (refsOf ts) ⟨rt, rr⟩ with
        | none => rw [hn12 hl, hn13 hl]
        | some rule =>
          obtain ⟨u1, m1⟩ := hm12 (by rw [hl]; rfl)
          obtain ⟨u2, m2⟩ := hm13 (by rw [hl]; rfl)
          exact u1.eq u2 fun x => by rw [m1, m2]
      obtain ⟨a13, n13, c13, rfl, -, -, -⟩ := hs13.len
      refine hK.out _ _ hb13 ?_
      have hE := hE.trans hb13
      have hs12' := hs12.up hb13
      clear hK hs12 hn12 hm12 hn13 hm13
      iterate 0 ((refine Walk.take _ ?_ (by simp only [List.getElem?_toArray, List.getElem?_cons_succ, List.getElem?_cons_zero]; rfl) (by rfl) (fun W hW => ?_) ?_; rotate_left; · (have hE0 := hE.trans hW; go_simp; try with_reducible rfl)); simp only [Act.put, List.setIfInBounds_toArray, List.set_cons_zero, List.set_cons_succ])
      refine Walk.make _ (by simp only [List.getElem?_toArray, List.getElem?_cons_succ, List.getElem?_cons_zero]; rfl) (by rfl) (fun K hK => ?_); go_simp
      refine (sameR_any _ _ s12 _ hs12' hs13).mono ?_
      rintro e w14 ⟨rfl, hb14⟩
      refine hK.out _ _ hb14 ?_
      have hE := hE.trans hb14
      clear hK hs12' hs13
      iterate 2 ((refine Walk.take _ ?_ (by simp only [List.getElem?_toArray, List.getElem?_cons_succ, List.getElem?_cons_zero]; rfl) (by rfl) (fun W hW => ?_) ?_; rotate_left; · (have hE0 := hE.trans hW; go_simp; try with_reducible rfl)); simp only [Act.put, List.setIfInBounds_toArray, List.set_cons_zero, List.set_cons_succ])
      unfold Walk
      have HE := Lib.hid hE
      clear hE hra hrp hr1 hr2
      go_wp2_with fail
      go_ret
      exact ⟨rfl, HB7.out.trans HE.out⟩
    · have hne : (chk06 ts != 0) = true := by rw [bne_iff_ne]; exact hck
      clear hck
      generalize chk06 ts = ck at *
      go_wp2_with fail
      refine HCH.out.mono ?_
      rintro e w3 ⟨rfl, hb3⟩
      have HB3 := Lib.hid (HB2.out.trans hb3)
      clear hb3
      go_wp2_with fail
      go_ret
      exact ⟨rfl, HB3.out⟩

end Go.Proofs.Ytfhonficpccegaa
namespace Go.Proofs.Ytfhonficpccegaa
open Go Go.RowKit Go.ChangeShapes Go.WideShapes Go.ChangeAt

section
variable {H : Type} {enc : TypeId × Value → H} {W : World} {base : Nat} {v : Value} {d : DataW H} {ps : List MemPlace}

set_option maxRecDepth 100000 in
theorem open_ref_cells {fuel : Nat} {cs : List Value} {y : DataW H × List MemPlace} (hy : DataW.trod enc Try.prog W 0 (fun _ => true) true fuel 43 cs = some y) : ∃ a b : ByteArray, cs = [.string a, .string b] ∧ a.size ≤ maxLen ∧ b.size ≤ maxLen := by
  obtain ⟨xs, n, _, _, hl, hlen, hf⟩ := DataW.trod_struct Try.underlying43 hy
  rw [show Try.prog.cellsOf 43 = 2 from by kernel_rfl] at hl
  obtain ⟨c0, c1, rfl⟩ : ∃ c0 c1, cs = [c0, c1] := by
    match cs, hl with
    | [c0, c1], _ => exact ⟨c0, c1, rfl⟩
  have h0 := hf 0 _ rfl
  have h1 := hf 1 _ rfl
  obtain ⟨y0, y1, rfl⟩ : ∃ y0 y1, xs = [y0, y1] := by
    match xs, hlen with
    | [y0, y1], _ => exact ⟨y0, y1, rfl⟩
  obtain ⟨a, e0, _, wa⟩ := DataW.trod_string Try.underlying9 h0
  obtain ⟨b, e1, _, wb⟩ := DataW.trod_string Try.underlying9 h1
  have k1 : Try.prog.cellsOf 9 = 1 := by kernel_rfl
  simp [k1] at e0 e1
  subst e0 e1
  exact ⟨a, b, rfl, wa, wb⟩

set_option maxRecDepth 100000 in
theorem open_refV (hok : Value.okWide Try.prog W .any base 43 v) (h : DataW.Trod enc Try.prog W 0 (fun _ => true) true 43 v d ps) : ∃ r : R2, v = r2V r ∧ r.Ok := by
  obtain ⟨ca, rfl, _⟩ := okWide_struct Try.underlying43 hok
  obtain ⟨fuel, hy⟩ := h
  obtain ⟨a, b, hc, ha, hb⟩ := open_ref_cells hy
  exact ⟨⟨a, b⟩, congrArg Value.agg (Array.toList_inj.1 hc), ha, hb⟩
end

end Go.Proofs.Ytfhonficpccegaa
