/- Lemmas for the claim, no condition. -/
import Derived.Test.YtipddhcfcehcaaaYT26
import Derived.Test.YtipddhcfcehcaaaYT25
namespace Go.Proofs.Ytipddhcfcehcaaa
open Go Go.RowKit Go.Maps

/-- The relations whose rules differ. -/
def chT3 (us : List TyS) (p : R2 × ByteArray) : Bool := match lookA (dL (refsOf us)) p.1 with | some x => decide (x ≠ p.2) | none => false
def chgL (us : List TyS) (l : List (R2 × ByteArray)) : List Ch := (l.filter (chT3 us)).map fun p => ⟨3, p.1⟩
theorem chgL_snoc (us : List TyS) (l : List (R2 × ByteArray)) (p : R2 × ByteArray) : chgL us (l ++ [p]) = chgL us l ++ if chT3 us p = true then [⟨3, p.1⟩] else [] := by
  unfold chgL
  rw [List.filter_append, List.map_append]
  by_cases h : chT3 us p = true <;> simp [h]
theorem chgL_le (us : List TyS) (l : List (R2 × ByteArray)) : (chgL us l).length ≤ l.length := by unfold chgL; rw [List.length_map]; exact List.length_filter_le _ _
/-- How two schemas differ. -/
def diffL (ts us : List TyS) : List Ch := withoutL ts us 2 ++ withoutL us ts 1 ++ chgL us (dL (refsOf ts))
/-- What is wanted of a schema's names. -/
structure Nms (ts : List TyS) : Prop where
  T : ((trL ts).map (·.1)).Nodup
  R : ((dL (refsOf ts)).map (·.1)).Nodup
  ne : ∀ x ∈ refsOf ts, x.1.r ≠ ⟨#[]⟩
theorem trL_keys (ts : List TyS) : (trL ts).map (·.1) = (tyL ts).map (·.1) := by unfold trL tyL; rw [List.map_map, List.map_map]; rfl
theorem kn_mem {us : List TyS} {n : ByteArray} : kn us n = true ↔ n ∈ us.map (·.name) := by
  unfold kn
  constructor
  · intro h
    cases hl : lookA (tyL us) n with
    | none => rw [hl] at h; cases h
    | some x =>
      obtain ⟨t, ht, e⟩ := List.mem_map.1 (look_mem hl)
      injection e with e _
      rw [← e]
      exact List.mem_map_of_mem ht
  · intro h
    obtain ⟨t, ht, rfl⟩ := List.mem_map.1 h
    cases hl : lookA (tyL us) t.name with
    | none => exact absurd rfl (look_none_iff.1 hl _ (List.mem_map.2 ⟨t, ht, rfl⟩))
    | some x => rfl
theorem noT_ref {us : List TyS} {k : Int} {ts : List TyS} {a : R2} (h : a ∈ (noT us k (trL ts)).map (·.ref)) : a.r = ⟨#[]⟩ ∧ kn us a.t = false ∧ kn ts a.t = true := by
  obtain ⟨c, hc, rfl⟩ := List.mem_map.1 h
  unfold noT at hc
  obtain ⟨p, hp, rfl⟩ := List.mem_map.1 hc
  obtain ⟨hp, hq⟩ := List.mem_filter.1 hp
  refine ⟨rfl, by simpa using hq, ?_⟩
  obtain ⟨t, ht, rfl⟩ := List.mem_map.1 hp
  exact kn_mem.2 (List.mem_map_of_mem ht)
theorem look_some_of {ts : List TyS} {p : R2 × ByteArray} (hp : p ∈ dL (refsOf ts)) : ∃ x ∈ refsOf ts, p.1 = x.1 ∧ (lookA (refsOf ts) p.1).isSome = true := by
  obtain ⟨x, hx, rfl⟩ := List.mem_map.1 hp
  obtain ⟨r, hr⟩ := look_refs (x := x.1) (List.mem_map.2 ⟨x, hx, rfl⟩)
  exact ⟨x, hx, rfl, by rw [hr]; rfl⟩
theorem noR_ref {us : List TyS} {k : Int} {ts : List TyS} (hn : Nms ts) {a : R2} (h : a ∈ (noR us k (dL (refsOf ts))).map (·.ref)) : a.r ≠ ⟨#[]⟩ ∧ lookA (refsOf us) a = none ∧ (lookA (refsOf ts) a).isSome = true := by
  obtain ⟨c, hc, rfl⟩ := List.mem_map.1 h
  unfold noR at hc
  obtain ⟨p, hp, rfl⟩ := List.mem_map.1 hc
  obtain ⟨hp, hq⟩ := List.mem_filter.1 hp
  obtain ⟨x, hx, e, hs⟩ := look_some_of hp
  rw [Bool.and_eq_true, dL_look] at hq
  refine ⟨by dsimp only; rw [e]; exact hn.ne x hx, ?_, hs⟩
  cases hl : lookA (refsOf us) p.1 with
  | none => rfl
  | some r => rw [hl] at hq; cases hq.1
theorem chg_ref {us ts : List TyS} (hn : Nms ts) {a : R2} (h : a ∈ (chgL us (dL (refsOf ts))).map (·.ref)) : a.r ≠ ⟨#[]⟩ ∧ (lookA (refsOf us) a).isSome = true ∧ (lookA (refsOf ts) a).isSome = true := by
  obtain ⟨c, hc, rfl⟩ := List.mem_map.1 h
  unfold chgL at hc
  obtain ⟨p, hp, rfl⟩ := List.mem_map.1 hc
  obtain ⟨hp, hq⟩ := List.mem_filter.1 hp
  obtain ⟨x, hx, e, hs⟩ := look_some_of hp
  unfold chT3 at hq
  rw [dL_look] at hq
  refine ⟨by dsimp only; rw [e]; exact hn.ne x hx, ?_, hs⟩
  cases hl : lookA (refsOf us) p.1 with
  | none => rw [hl] at hq; cases hq
  | some r => rfl
theorem without_nodup {ts us : List TyS} (hn : Nms ts) (k : Int) : ((withoutL ts us k).map (·.ref)).Nodup := by
  unfold withoutL
  rw [List.map_append, List.nodup_append]
  refine ⟨?_, ?_, fun a ha b hb e => ?_⟩
  · have : (noT us k (trL ts)).map (·.ref) = (((trL ts).filter fun p => !kn us p.1).map (·.1)).map fun n => (⟨n, ⟨#[]⟩⟩ : R2) := by unfold noT; rw [List.map_map, List.map_map]; rfl
    rw [this]
    refine List.Pairwise.map _ (fun a b h e => h (by injection e)) (hn.T.sublist (List.Sublist.map _ List.filter_sublist))
  · have : (noR us k (dL (refsOf ts))).map (·.ref) = ((dL (refsOf ts)).filter fun p => (lookA (dL (refsOf us)) p.1).isNone && kn us p.1.t).map (·.1) := by unfold noR; rw [List.map_map]; rfl
    rw [this]
    exact hn.R.sublist (List.Sublist.map _ List.filter_sublist)
  · subst e
    exact (noR_ref hn hb).1 (noT_ref ha).1
theorem without_ref {ts us : List TyS} (hn : Nms ts) {k : Int} {a : R2} (h : a ∈ (withoutL ts us k).map (·.ref)) : (a.r = ⟨#[]⟩ ∧ kn us a.t = false ∧ kn ts a.t = true) ∨ (a.r ≠ ⟨#[]⟩ ∧ lookA (refsOf us) a = none ∧ (lookA (refsOf ts) a).isSome = true) := by
  unfold withoutL at h
  rw [List.map_append, List.mem_append] at h
  exact h.imp noT_ref (noR_ref hn)
theorem diff_nodup {ts us : List TyS} (hn : Nms ts) (hm : Nms us) : ((diffL ts us).map (·.ref)).Nodup := by
  unfold diffL
  rw [List.map_append, List.map_append, List.nodup_append, List.nodup_append]
  refine ⟨⟨without_nodup hn 2, without_nodup hm 1, fun a ha b hb e => ?_⟩, ?_, fun a ha b hb e => ?_⟩
  · subst e
    rcases without_ref hn ha with ⟨h1, h2, h3⟩ | ⟨h1, h2, h3⟩ <;> rcases without_ref hm hb with ⟨k1, k2, k3⟩ | ⟨k1, k2, k3⟩
    · rw [h2] at k3; cases k3
    · exact k1 h1
    · exact h1 k1
    · rw [h2] at k3; cases k3
  · have : (chgL us (dL (refsOf ts))).map (·.ref) = ((dL (refsOf ts)).filter (chT3 us)).map (·.1) := by unfold chgL; rw [List.map_map]; rfl
    rw [this]
    exact hn.R.sublist (List.Sublist.map _ List.filter_sublist)
  · subst e
    obtain ⟨c1, c2, c3⟩ := chg_ref hn hb
    rw [List.mem_append] at ha
    rcases ha with ha | ha
    · rcases without_ref hn ha with ⟨h1, h2, h3⟩ | ⟨h1, h2, h3⟩
      · exact c1 h1
      · rw [h2] at c2; cases c2
    · rcases without_ref hm ha with ⟨h1, h2, h3⟩ | ⟨h1, h2, h3⟩
      · exact c1 h1
      · rw [h2] at c3; cases c3
theorem without_len {ts us : List TyS} {k : Int} : (withoutL ts us k).length ≤ ts.length + (refsOf ts).length := by
  unfold withoutL
  rw [List.length_append]
  have h1 := noT_le us k (trL ts)
  have h2 := noR_le us k (dL (refsOf ts))
  have h3 : (trL ts).length = ts.length := by unfold trL; rw [List.length_map]
  have h4 : (dL (refsOf ts)).length = (refsOf ts).length := by unfold dL; rw [List.length_map]
  omega
/-- A schema that may be has such names. -/
theorem Nms.of {w : World} {B b1 b2 : Nat} {ts : List TyS} (h : Sd w B b1 b2 ts) (hc : chk06 ts = 0) : Nms ts := by
  refine ⟨by rw [trL_keys]; exact h.T.nodup, h.R.nodup, fun x hx e => ?_⟩
  obtain ⟨t, ht, r, hr, rfl⟩ := refs_mem.1 hx
  unfold chk06 at hc
  split at hc
  · rename_i hp
    have h1 := List.all_eq_true.1 hp t ht
    unfold tyOk at h1
    rw [Bool.and_eq_true] at h1
    have h2 := List.all_eq_true.1 h1.2 r hr
    unfold relOk at h2
    simp only [Bool.and_eq_true] at h2
    have h3 := (own_chars h2.1.2).2.1
    dsimp only at e
    rw [e] at h3
    exact h3 rfl
  · cases hc

end Go.Proofs.Ytipddhcfcehcaaa
namespace Go.Proofs.Ytipddhcfcehcaaa
open Go Go.RowKit Go.Maps

/-- A schema that is not too great. -/
structure SOk (ts : List TyS) : Prop where
  ok : ∀ t ∈ ts, t.Ok
  sB : schB ts ≤ 549755813888
  sz : ∀ t ∈ ts, ∀ r ∈ t.rels, r.2.sz ≤ 1000000
  ln : (namesOf ts).length ≤ 1000000000
  lr : (refsOf ts).length ≤ 2000000
  tl : ts.length ≤ 2000000
  wt : ∀ t ∈ ts, ∀ r ∈ t.rels, r.2.wt ≤ 500000000
theorem dopen_no (ts : List TyS) (tv : Value) (w : World) (h : TysAt (· < w.heap.size) w ts tv) (k : SOk ts) (hc : chk06 ts ≠ 0) : Calls Try.prog 36 #[.agg #[tv]] w fun e w' => e = .returned (.tuple #[.agg #[.map none, .map none], .int .i64 (chk06 ts)]) ∧ Ext w w' :=
  dopen_bad ts tv w h k.ok k.sB k.sz (by have := k.ln; omega) (by have := k.lr; omega) hc
theorem dopen_yes (ts : List TyS) (tv : Value) (w : World) (h : TysAt (· < w.heap.size) w ts tv) (k : SOk ts) (hc : chk06 ts = 0) : Calls Try.prog 36 #[.agg #[tv]] w fun e w' => ∃ b1 b2, e = .returned (.tuple #[.agg #[.map (some b1), .map (some b2)], .int .i64 0]) ∧ Sd w' w.heap.size b1 b2 ts ∧ Ext w w' :=
  dopen_ok ts tv w h k.ok k.sB k.sz (by have := k.ln; omega) (by have := k.lr; omega) k.wt hc

set_option maxRecDepth 100000 in
set_option maxHeartbeats 1000000 in
theorem diff_bad1 (ts us : List TyS) (tv uv : Value) (w : World) (ht : TysAt (· < w.heap.size) w ts tv) (hu : TysAt (· < w.heap.size) w us uv) (k1 : SOk ts) (hc : chk06 ts ≠ 0) :
    Calls Try.prog 17 #[.agg #[tv], .agg #[uv]] w fun e w' => e = .returned (.tuple #[.slice none 0 0, .int .i64 (chk06 ts)]) ∧ Ext w w' := by
  obtain ⟨aot, ct, rfl, -, -, -⟩ := ht.rows
  obtain ⟨aou, cu, rfl, -, -, -⟩ := hu.rows
  obtain ⟨wa, hwa⟩ : ∃ x, x = w.alloc (.cells #[.slice aot ts.length ct] 24) := ⟨_, rfl⟩
  obtain ⟨wb, hwb⟩ : ∃ x, x = wa.alloc (.cells #[.slice aou us.length cu] 24) := ⟨_, rfl⟩
  have ea : wa.heap.size = w.heap.size + 1 := by rw [hwa]; simp
  have xa : Ext w wa := by rw [hwa]; exact Ext.alloc _ _
  have xb : Ext wa wb := by rw [hwb]; exact Ext.alloc _ _
  have HSA := Lib.hid (show Blk wb w.heap.size #[.slice aot ts.length ct] 24 from Blk.below (by rw [hwa]; exact Blk.made _ _ _) xb)
  have HSB := Lib.hid (show Blk wb (w.heap.size + 1) #[.slice aou us.length cu] 24 from by rw [hwb, ← ea]; exact Blk.made _ _ _)
  have HX := Lib.hid (xa.trans xb)
  have HT := Lib.hid (ht.up HX.out)
  have HU := Lib.hid (hu.up HX.out)
  have sa := HSA.out.cells
  clear ht hu ea xa xb
  have HO := Lib.hid (dopen_no ts _ wb HT.out k1 hc)
  have hne : (chk06 ts != 0) = true := by rw [bne_iff_ne]; exact hc
  clear k1 hc HT HU
  subst hwb hwa
  generalize chk06 ts = ck at *
  go_enter Try.func17, Try.ntmps17
  go_wp2_with fail
  refine HO.out.mono ?_
  rintro e w1 ⟨rfl, hb1⟩
  have HX1 := Lib.hid (show Ext w _ from HX.out.trans (Ext.trans hb1 (Ext.alloc w1 (.cells #[.map none, .map none] 86))))
  clear hb1 HO sa
  go_wp2_with fail
  go_ret2
  exact ⟨rfl, HX1.out⟩

set_option maxRecDepth 100000 in
set_option maxHeartbeats 1000000 in
theorem diff_bad2 (ts us : List TyS) (tv uv : Value) (w : World) (ht : TysAt (· < w.heap.size) w ts tv) (hu : TysAt (· < w.heap.size) w us uv) (k1 : SOk ts) (k2 : SOk us) (h0 : chk06 ts = 0) (hc : chk06 us ≠ 0) :
    Calls Try.prog 17 #[.agg #[tv], .agg #[uv]] w fun e w' => e = .returned (.tuple #[.slice none 0 0, .int .i64 (chk06 us)]) ∧ Ext w w' := by
  obtain ⟨aot, ct, rfl, -, -, -⟩ := ht.rows
  obtain ⟨aou, cu, rfl, -, -, -⟩ := hu.rows
  obtain ⟨wa, hwa⟩ : ∃ x, x = w.alloc (.cells #[.slice aot ts.length ct] 24) := ⟨_, rfl⟩
  obtain ⟨wb, hwb⟩ : ∃ x, x = wa.alloc (.cells #[.slice aou us.length cu] 24) := ⟨_, rfl⟩
  have ea : wa.heap.size = w.heap.size + 1 := by rw [hwa]; simp
  have xa : Ext w wa := by rw [hwa]; exact Ext.alloc _ _
  have xb : Ext wa wb := by rw [hwb]; exact Ext.alloc _ _
  have HSA := Lib.hid (show Blk wb w.heap.size #[.slice aot ts.length ct] 24 from Blk.below (by rw [hwa]; exact Blk.made _ _ _) xb)
  have HSB := Lib.hid (show Blk wb (w.heap.size + 1) #[.slice aou us.length cu] 24 from by rw [hwb, ← ea]; exact Blk.made _ _ _)
  have HX := Lib.hid (xa.trans xb)
  have HT := Lib.hid (ht.up HX.out)
  have HU := Lib.hid (hu.up HX.out)
  have sa := HSA.out.cells
  clear ht hu ea xa xb
  have HO := Lib.hid (dopen_yes ts _ wb HT.out k1 h0)
  have HK2 := Lib.hid k2
  have HC := Lib.hid hc
  have hne : (chk06 us != 0) = true := by rw [bne_iff_ne]; exact hc
  obtain ⟨ck, hck⟩ : ∃ x, x = chk06 us := ⟨_, rfl⟩
  rw [← hck] at hne ⊢
  have HCK := Lib.hid hck
  clear k1 k2 h0 hc HT hck
  subst hwb hwa
  go_enter Try.func17, Try.ntmps17
  go_wp2_with fail
  refine HO.out.mono ?_
  rintro e w1 ⟨b1, b2, rfl, -, hb1⟩
  have x12 := Ext.alloc w1 (.cells #[.map (some b1), .map (some b2)] 86)
  have HX1 := Lib.hid (show Ext w _ from HX.out.trans (Ext.trans hb1 x12))
  have s2 := (HSB.out.below (Ext.trans hb1 x12)).cells
  have HO2 := Lib.hid (dopen_no us _ _ (HU.out.up (Ext.trans hb1 x12)) HK2.out HC.out)
  rw [← HCK.out] at HO2
  clear hb1 x12 HO sa
  go_wp2_with fail
  refine HO2.out.mono ?_
  rintro e w3 ⟨rfl, hb3⟩
  have HX3 := Lib.hid (show Ext w _ from HX1.out.trans (Ext.trans hb3 (Ext.alloc w3 (.cells #[.map none, .map none] 86))))
  clear hb3 HO2 s2
  go_wp2_with fail
  go_ret2
  exact ⟨rfl, HX3.out⟩

set_option maxRecDepth 100000 in
set_option maxHeartbeats 2000000 in
theorem diff_ok (ts us : List TyS) (tv uv : Value) (w : World) (ht : TysAt (· < w.heap.size) w ts tv) (hu : TysAt (· < w.heap.size) w us uv) (k1 : SOk ts) (k2 : SOk us) (h0 : chk06 ts = 0) (h1 : chk06 us = 0) :
    Calls Try.prog 17 #[.agg #[tv], .agg #[uv]] w fun e w' => ∃ (v : Value) (cs : List Ch), e = .returned (.tuple #[v, .int .i64 0]) ∧ UpC cs ∧ cs.Perm (diffL ts us) ∧ Own w' w.heap.size 63 3 v (chcs cs) ∧ Ext w w' := by
  obtain ⟨aot, ct, rfl, -, -, -⟩ := ht.rows
  obtain ⟨aou, cu, rfl, -, -, -⟩ := hu.rows
  obtain ⟨wa, hwa⟩ : ∃ x, x = w.alloc (.cells #[.slice aot ts.length ct] 24) := ⟨_, rfl⟩
  obtain ⟨wb, hwb⟩ : ∃ x, x = wa.alloc (.cells #[.slice aou us.length cu] 24) := ⟨_, rfl⟩
  have ea : wa.heap.size = w.heap.size + 1 := by rw [hwa]; simp
  have xa : Ext w wa := by rw [hwa]; exact Ext.alloc _ _
  have xb : Ext wa wb := by rw [hwb]; exact Ext.alloc _ _
  have HSA := Lib.hid (show Blk wb w.heap.size #[.slice aot ts.length ct] 24 from Blk.below (by rw [hwa]; exact Blk.made _ _ _) xb)
  have HSB := Lib.hid (show Blk wb (w.heap.size + 1) #[.slice aou us.length cu] 24 from by rw [hwb, ← ea]; exact Blk.made _ _ _)
  have HX := Lib.hid (xa.trans xb)
  have HT := Lib.hid (ht.up HX.out)
  have HU := Lib.hid (hu.up HX.out)
  have sa := HSA.out.cells
  clear ht hu ea xa xb
  have HO := Lib.hid (dopen_yes ts _ wb HT.out k1 h0)
  have HK1 := Lib.hid k1
  have HK2 := Lib.hid k2
  have HC := Lib.hid (And.intro h0 h1)
  clear k1 k2 h0 h1 HT
  subst hwb hwa
  go_enter Try.func17, Try.ntmps17
  go_wp2_with fail
  refine HO.out.mono ?_
  rintro e w1 ⟨b1, b2, rfl, hsd1, hb1⟩
  have x12 := Ext.alloc w1 (.cells #[.map (some b1), .map (some b2)] 86)
  have HX1 := Lib.hid (show Ext w _ from HX.out.trans (Ext.trans hb1 x12))
  have HSX := Lib.hid (Blk.made w1 #[.map (some b1), .map (some b2)] 86)
  have HD1 := Lib.hid (hsd1.up x12)
  have s2 := (HSB.out.below (Ext.trans hb1 x12)).cells
  have HO2 := Lib.hid (dopen_yes us _ _ (HU.out.up (Ext.trans hb1 x12)) HK2.out HC.out.2)
  clear hb1 x12 HO sa hsd1
  go_wp2_with fail
  refine HO2.out.mono ?_
  rintro e w3 ⟨c1, c2, rfl, hsd3, hb3⟩
  obtain ⟨w4, hw4⟩ : ∃ x, x = w3.alloc (.cells #[.map (some c1), .map (some c2)] 86) := ⟨_, rfl⟩
  have x34 : Ext w3 w4 := by rw [hw4]; exact Ext.alloc _ _
  have HX4 := Lib.hid (show Ext w w4 from HX1.out.trans (Ext.trans hb3 x34))
  have HSX4 := Lib.hid (HSX.out.below (Ext.trans hb3 x34))
  have HSY4 := Lib.hid (show Blk w4 w3.heap.size #[.map (some c1), .map (some c2)] 86 from by rw [hw4]; exact Blk.made _ _ _)
  have HD14 := Lib.hid (HD1.out.up (Ext.trans hb3 x34))
  have HD24 := Lib.hid (hsd3.up x34)
  have HN1 := Lib.hid (Nms.of HD14.out HC.out.1)
  have HN2 := Lib.hid (Nms.of HD24.out HC.out.2)
  clear hb3 x34 HO2 s2 HX1 HSX HD1 hsd3
  subst hw4
  go_wp2_with fail
  obtain ⟨w4, hw4⟩ : ∃ x, x = w3.alloc (.cells #[.map (some c1), .map (some c2)] 86) := ⟨_, rfl⟩
  rw [← hw4] at HX4 HSX4 HSY4 HD14 HD24 ⊢
  clear hw4
  generalize w3.heap.size = by_ at *
  generalize w1.heap.size = bx at *
  obtain ⟨wd, hwd⟩ : ∃ x, x = w4.drew := ⟨_, rfl⟩
  have hE : Ext w4 wd := by rw [hwd]; exact Ext.drew w4
  have HXD := Lib.hid (show Ext w wd from HX4.out.trans hE)
  have HSXD := Lib.hid (HSX4.out.below hE)
  have HSYD := Lib.hid (HSY4.out.below hE)
  have HD1D := Lib.hid (show Sd wd 0 b1 b2 ts from ⟨(HD14.out.up hE).T, (HD14.out.up hE).R, Nat.zero_le _, Nat.zero_le _, HD14.out.lo.2.2⟩)
  have HD2D := Lib.hid (show Sd wd 0 c1 c2 us from ⟨(HD24.out.up hE).T, (HD24.out.up hE).R, Nat.zero_le _, Nat.zero_le _, HD24.out.lo.2.2⟩)
  refine region_walkN (Ext wd) (by rw [← hwd]; exact Ext.refl _) (by kernel_rfl) (by kernel_rfl) (fun _ _ d _ _ h => by cases d <;> exact h) ?_
  rw [← hwd]
  have g0 : ∀ W, Ext wd W → ∀ i, W.cell? ⟨bx, i, none⟩ = (#[Value.map (some b1), .map (some b2)] : Array Value)[i]? := fun W h => (HSXD.out.below h).cells
  have g1 : ∀ W, Ext wd W → ∀ i, W.cell? ⟨by_, i, none⟩ = (#[Value.map (some c1), .map (some c2)] : Array Value)[i]? := fun W h => (HSYD.out.below h).cells
  clear hwd hE
  ((refine WalkN.take 0 _ ?_ (by simp only [List.getElem?_toArray, List.getElem?_cons_zero]; rfl) (by kernel_rfl) (by kernel_rfl) (by rfl) (fun W hW => ?_) ?_; rotate_left; · (go_simp; try with_reducible rfl)); simp only [Act.put, List.setIfInBounds_toArray, List.set_cons_zero, List.set_cons_succ]); ((refine WalkN.take 1 _ ?_ (by simp only [List.getElem?_toArray, List.getElem?_cons_succ, List.getElem?_cons_zero]; rfl) (by kernel_rfl) (by kernel_rfl) (by rfl) (fun W hW => ?_) ?_; rotate_left; · (go_simp; try with_reducible rfl)); simp only [Act.put, List.setIfInBounds_toArray, List.set_cons_zero, List.set_cons_succ]); ((refine WalkN.take 3 _ ?_ (by simp only [List.getElem?_toArray, List.getElem?_cons_succ, List.getElem?_cons_zero]; rfl) (by kernel_rfl) (by kernel_rfl) (by rfl) (fun W hW => ?_) ?_; rotate_left; · (go_simp; try with_reducible rfl)); simp only [Act.put, List.setIfInBounds_toArray, List.set_cons_zero, List.set_cons_succ]); ((refine WalkN.take 4 _ ?_ (by simp only [List.getElem?_toArray, List.getElem?_cons_succ, List.getElem?_cons_zero]; rfl) (by kernel_rfl) (by kernel_rfl) (by rfl) (fun W hW => ?_) ?_; rotate_left; · (go_simp; try with_reducible rfl)); simp only [Act.put, List.setIfInBounds_toArray, List.set_cons_zero, List.set_cons_succ])
  clear g0 g1
  refine WalkN.one 2 (by kernel_rfl) ?_
  refine ⟨_, (by simp only [List.getElem?_toArray, List.getElem?_cons_succ, List.getElem?_cons_zero]; rfl), by rfl, fun K hK => ?_⟩
  go_simp
  refine (without_any ts us 2 b1 b2 c1 c2 wd HD1D.out HD2D.out HK1.out.ok ⟨by have := HK1.out.tl; omega, by have := HK1.out.lr; omega⟩).mono ?_
  rintro e w5 ⟨v5, cs5, rfl, hp5, ho5, hb5⟩
  refine hK.out _ _ hb5 ?_
  clear hK
  have HP5 := Lib.hid hp5
  have HO5 := Lib.hid ho5
  have HB5 := Lib.hid hb5
  clear hp5 ho5 hb5
  refine WalkN.one 5 (by kernel_rfl) ?_
  refine ⟨_, (by simp only [List.getElem?_toArray, List.getElem?_cons_succ, List.getElem?_cons_zero]; rfl), by rfl, fun K hK => ?_⟩
  go_simp
  refine (without_any us ts 1 c1 c2 b1 b2 w5 (HD2D.out.up HB5.out) (HD1D.out.up HB5.out) HK2.out.ok ⟨by have := HK2.out.tl; omega, by have := HK2.out.lr; omega⟩).mono ?_
  rintro e w6 ⟨v6, cs6, rfl, hp6, ho6, hb6⟩
  have HB6 := Lib.hid (show Ext wd w6 from HB5.out.trans hb6)
  refine hK.out _ _ HB6.out ?_
  clear hK
  have HP6 := Lib.hid hp6
  have HO6 := Lib.hid ho6
  have HO56 := Lib.hid (HO5.out.below hb6)
  have HL5 := Lib.hid (show cs5.length ≤ 20000000 from by rw [HP5.out.length_eq]; have := without_len (ts := ts) (us := us) (k := 2); have := HK1.out.tl; have := HK1.out.lr; omega)
  have HL6 := Lib.hid (show cs6.length ≤ 20000000 from by rw [HP6.out.length_eq]; have := without_len (ts := us) (us := ts) (k := 1); have := HK2.out.tl; have := HK2.out.lr; omega)
  clear hp6 ho6 hb6 HO5
  refine WalkN.one 6 (by kernel_rfl) ?_
  refine ⟨_, (by simp only [List.getElem?_toArray, List.getElem?_cons_succ, List.getElem?_cons_zero]; rfl), by rfl, fun K hK => ?_⟩
  refine wp_own chT (.tmp 32) (.tmp 35) rfl rfl HO56.out rfl HO6.out.sl (chcs_one _) (by have := HL5.out; have := HL6.out; rw [chcs_length, chcs_length]; omega) (by have := HL5.out; have := HL6.out; rw [chcs_length, chcs_length]; omega) HB6.out.size (fun v7 w7 hown7 hb7 hgr7 => ?_)
  have HB7 := Lib.hid (show Ext wd w7 from Below.trans HB6.out hb7)
  refine hK.out _ _ HB7.out ?_
  clear hK
  have HO7 := Lib.hid (show Own w7 wd.heap.size 63 3 v7 (chcs (cs5 ++ cs6)) from by rw [chcs_append]; exact hown7)
  have HP7 := Lib.hid (show (cs5 ++ cs6).Perm (withoutL ts us 2 ++ withoutL us ts 1) from HP5.out.append HP6.out)
  have HL7 := Lib.hid (show (cs5 ++ cs6).length ≤ 40000000 from by have := HL5.out; have := HL6.out; rw [List.length_append]; omega)
  clear hown7 hb7 hgr7 HO56 HO6 HP5 HP6 HL5 HL6 HB5 HB6
  simp only [Act.put, List.setIfInBounds_toArray, List.set_cons_zero, List.set_cons_succ]
  ((refine WalkN.take 7 _ ?_ (by simp only [List.getElem?_toArray, List.getElem?_cons_succ, List.getElem?_cons_zero]; rfl) (by kernel_rfl) (by kernel_rfl) (by rfl) (fun W hW => ?_) ?_; rotate_left; · (go_simp; try with_reducible rfl)); simp only [Act.put, List.setIfInBounds_toArray, List.set_cons_zero, List.set_cons_succ])
  refine WalkN.done (by kernel_rfl) ?_
  generalize cs5 ++ cs6 = cs7 at *
  have hMq := HD1D.out.R.below HB7.out
  have xq := (HSXD.out.below HB7.out).cells
  clear HX4 HSX4 HSY4 HD14 HD24
  go_wp2_with (at_range; go_must (refine wpList_mp_range _ rfl _ 84 rfl Try.underlying84 rfl hMq ?_); intro wQ hRq hbQ hszQ)
  try go_frame
  obtain ⟨nQ, hnQ⟩ : ∃ nQ, nQ = w7.heap.size := ⟨_, rfl⟩
  have HRQ0 := Lib.hid hRq
  rw [← hnQ] at HRQ0 hszQ ⊢
  have HZQ := Lib.hid hszQ
  have HNQ := Lib.hid (show wd.heap.size ≤ nQ from by rw [hnQ]; exact HB7.out.size)
  have HOQ := Lib.hid (HO7.out.below hbQ)
  have HOB := Lib.hid (row_ne HO7.out (Nat.le_of_eq hnQ.symm))
  have HBB := Lib.hid (show Ext wd wQ from Below.trans HB7.out (hbQ.mono HB7.out.size))
  have HMB := Lib.hid (show b2 < wd.heap.size ∧ c2 < wd.heap.size ∧ bx < wd.heap.size ∧ by_ < wd.heap.size from ⟨HD1D.out.R.lt, HD2D.out.R.lt, HSXD.out.lt, HSYD.out.lt⟩)
  clear hRq hbQ hszQ hMq xq hnQ HO7 HB7
  rename World => wS
  go_loopw [9] (fun ov wr => ∃ (cs : List Ch) (rem done : List (R2 × ByteArray)), Rng Try.prog 61 r2V Value.string wr b2 nQ (dL (refsOf ts)) rem ∧ (done ++ rem).Perm (dL (refsOf ts)) ∧ cs.Perm ((withoutL ts us 2 ++ withoutL us ts 1) ++ chgL us done) ∧ Own wr wd.heap.size 63 3 ov (chcs cs) ∧ ov.ownBlock ≠ some nQ ∧ Ext wd wr ∧ nQ < wr.heap.size) (fun _ wr => wr.rangeLeft b2 nQ)
  case atStart => exact ⟨cs7, dL (refsOf ts), [], HRQ0.out, List.Perm.refl _, by rw [show chgL us [] = [] from rfl, List.append_nil]; exact HP7.out, HOQ.out, HOB.out, HBB.out, by have := HZQ.out; omega⟩
  case round =>
    obtain ⟨cs, rem, done, hRg, hpm, hcs, how, hob, hbl, hnl⟩ := hrel
    have HPM2 := Lib.hid hpm
    have HCS2 := Lib.hid hcs
    have HOW2 := Lib.hid how
    have HOB2 := Lib.hid hob
    have HBL2 := Lib.hid hbl
    have HNL2 := Lib.hid hnl
    have HRG := Lib.hid hRg
    have HCL := Lib.hid (show cs.length ≤ 50000000 from by
      rw [hcs.length_eq, List.length_append]
      have h5 := chgL_le us done
      have h6 := hpm.length_eq
      have h7 : (dL (refsOf ts)).length = (refsOf ts).length := by unfold dL; rw [List.length_map]
      have h8 := HP7.out.length_eq
      have h9 := HL7.out
      have h4 := HK1.out.lr
      rw [List.length_append] at h6
      omega)
    clear HRQ0 HOQ HOB HBB hpm hcs how hob hbl hnl
    go_wp2_with (at_next; go_must (refine wpList_mp_next _ rfl _ rfl rfl HRG.out ?_ ?_))
    · intro hrem
      subst hrem
      have HFP := Lib.hid (show cs.Perm (diffL ts us) from HCS2.out.trans (List.Perm.append_left _ (((by have := HPM2.out; rwa [List.append_nil] at this : done.Perm (dL (refsOf ts))).filter _).map _)))
      have HSO := Lib.hid (sortC_any HOW2.out (by have := HCL.out; omega) ((HFP.out.map _).nodup_iff.2 (diff_nodup HN1.out HN2.out)))
      clear hRg HRG
      go_wp2_with fail
      refine HSO.out.mono ?_
      rintro e w8 ⟨rfl, l', hp, hup, ho8, hk8⟩
      have HP8 := Lib.hid (hp.trans HFP.out)
      have HU8 := Lib.hid hup
      have HO8 := Lib.hid (ho8.mono HXD.out.size)
      have HX8 := Lib.hid (show Ext w w8 from Below.trans HXD.out (Below.mono (Below.trans HBL2.out (hk8.below (B := wd.heap.size) fun b hb => ⟨Nat.lt_of_lt_of_le hb HBL2.out.size, fun e => by have := (HOW2.out.block b e).1; omega⟩)) HXD.out.size))
      clear hp hup ho8 hk8 HSO
      go_wp2_with fail
      go_ret2
      exact ⟨_, l', rfl, HU8.out, HP8.out, HO8.out, HX8.out⟩
    · rintro pre ⟨kt, kr⟩ tx post w7 hrem hRg2 hk2 hs2 hen
      have HPN := Lib.hid (perm_next HPM2.out hrem)
      have hmem : ((⟨kt, kr⟩, tx) : R2 × ByteArray) ∈ dL (refsOf ts) := (HPM2.out.mem_iff).1 (by rw [hrem]; simp)
      have HKO := Lib.hid (show R2.Ok ⟨kt, kr⟩ from by
        obtain ⟨x, hx, e⟩ := List.mem_map.1 hmem
        injection e with e _
        rw [← e]
        exact (refs_okk HK1.out.ok hx).1)
      have hsn := chgL_snoc us done (⟨kt, kr⟩, tx)
      unfold chT3 at hsn
      dsimp only at hsn
      have hb7 : Ext wd w7 := Below.trans HBL2.out (hk2.below fun b hb => by have := HNQ.out; show b ≠ nQ; omega)
      obtain ⟨w8, hw8⟩ : ∃ x, x = w7.alloc (.cells #[.string kt, .string kr] 61) := ⟨_, rfl⟩
      have x78 : Ext w7 w8 := by rw [hw8]; exact Ext.alloc _ _
      have HB8 := Lib.hid (show Ext wd w8 from hb7.trans x78)
      have HK8 := Lib.hid (show Blk w8 w7.heap.size #[.string kt, .string kr] 61 from by rw [hw8]; exact Blk.made _ _ _)
      have HV8 := Lib.hid (HD2D.out.R.below HB8.out)
      have y8 := (HSYD.out.below HB8.out).cells
      have k8 := HK8.out.cells
      have hlr := HV8.out.look refK r2V_inj Try.underlying84 (Try.zeroValue9 _) true (ref_key ⟨kt, kr⟩ HKO.out)
      have HOW8 := Lib.hid ((HOW2.out.keepOwn fun g hg => hk2.block g (fun e => HOB2.out (by rw [hg, e]))).below x78)
      have HRL := Lib.hid (show wr.rangeLeft b2 nQ = rem.length from HRG.out.left_eq)
      have HRM := Lib.hid hrem
      have HN8 := Lib.hid (show nQ < w8.heap.size from by have := HNL2.out; have := x78.size; omega)
      have HRG8 := Lib.hid (hRg2.below x78)
      unfold r2V at hen hlr
      dsimp only at hen hlr
      clear hRg2 hk2 hs2 hb7 hmem x78 hRg
      cases hlo : lookA (dL (refsOf us)) ⟨kt, kr⟩ with
      | none =>
        rw [hlo] at hlr hsn
        have HSN := Lib.hid hsn
        unfold lookV at hlr
        dsimp only at hlr
        clear hsn hlo
        subst hw8
        go_wp2_with fail
        go_roundw
        case rel => exact ⟨cs, pre ++ post, done ++ [(⟨kt, kr⟩, tx)], HRG8.out, HPN.out, by rw [HSN.out]; simpa using HCS2.out, HOW8.out, HOB2.out, HB8.out, HN8.out⟩
        case measure =>
          rw [HRG8.out.left_eq, HRL.out, HRM.out]
          simp only [List.length_append, List.length_cons]
          omega
      | some sx =>
        rw [hlo] at hlr hsn
        unfold lookV at hlr
        dsimp only at hlr hsn
        by_cases hsx : sx = tx
        · subst hsx
          have HSN := Lib.hid hsn
          clear hsn hlo
          subst hw8
          go_wp2_with fail
          go_roundw
          case rel => exact ⟨cs, pre ++ post, done ++ [(⟨kt, kr⟩, sx)], HRG8.out, HPN.out, by rw [HSN.out]; simpa using HCS2.out, HOW8.out, HOB2.out, HB8.out, HN8.out⟩
          case measure =>
            rw [HRG8.out.left_eq, HRL.out, HRM.out]
            simp only [List.length_append, List.length_cons]
            omega
        · have hs1 := ba_beq' hsx
          have hs2 : ¬ sx.toList = tx.toList := fun h => hsx (TL_inj (by rw [ByteArray.toList_eq, ByteArray.toList_eq] at h; exact h))
          have hs3 : (sx.toList == tx.toList) = false := by rw [beq_eq_false_iff_ne]; exact hs2
          have HSN := Lib.hid (show chgL us (done ++ [(⟨kt, kr⟩, tx)]) = chgL us done ++ [⟨3, ⟨kt, kr⟩⟩] from by rw [hsn, if_pos (by simp [hsx])])
          have X9 := Lib.hid (Ext.alloc w8 (.cells #[.int .i64 3, .string kt, .string kr] 63))
          clear hsn hlo hsx
          subst hw8
          go_wp2_with (at_builtin; go_must (refine wpList_ownw chT rfl (.tmp 58) (.tmp 61) rfl rfl (HOW8.out.below X9.out) rfl (m := 1) (news := [.int .i64 3, .string kt, .string kr]) rfl (by intro j u hu; rw [Addr.add_lit, cell_of_row _ (w7.heap.size + 1) (0 + j) #[.int .i64 3, .string kt, .string kr] 63 (0, 0) (by have h0 := heap_alloc_new (w7.alloc (.cells #[.string kt, .string kr] 61)) (.cells #[.int .i64 3, .string kt, .string kr] 63); simpa using h0)]; simpa using hu) (by simp [Value.oneCell']) (by have := HCL.out; rw [chcs_length]; simp; omega) (by have := HCL.out; rw [chcs_length]; simp; omega) (by have := HB8.out.size; have := X9.out.size; omega) ?_; intro v5 w5 hown5 hb5 hgr5; have HO5 := Lib.hid (show Own w5 wd.heap.size 63 3 v5 (chcs (cs ++ [⟨3, ⟨kt, kr⟩⟩])) from by rw [chcs_append]; exact hown5); have HNB := Lib.hid (show ∀ b, b < wd.heap.size → w5.heap[b]? = (w7.alloc (.cells #[.string kt, .string kr] 61)).heap[b]? from fun b h1 => (hgr5.block b (Nat.lt_of_lt_of_le (Nat.lt_of_lt_of_le h1 HB8.out.size) X9.out.size) (fun e => by have := (HOW8.out.block b e.symm).1; omega)).trans (X9.out.block b (Nat.lt_of_lt_of_le h1 HB8.out.size))); have HR5 := Lib.hid (HRG8.out.same (HNB.out b2 HMB.out.1) ((hgr5.block nQ (Nat.lt_of_lt_of_le HN8.out X9.out.size) (fun e => HOB2.out e.symm)).trans (X9.out.block nQ HN8.out))); have HB5 := Lib.hid (show Ext wd w5 from Below.trans HB8.out ⟨hgr5.os.trans X9.out.os, hgr5.tape.trans X9.out.tape, hgr5.output.trans X9.out.output, Nat.le_trans X9.out.size hgr5.size, fun b hb => HNB.out b hb⟩); have HN5 := Lib.hid (show nQ < w5.heap.size from Nat.lt_of_lt_of_le HN8.out (Nat.le_trans X9.out.size hgr5.size)); have HOB5 := Lib.hid (show v5.ownBlock ≠ some nQ from fun e => by
            rcases hb5 nQ e with e | e
            · exact HOB2.out e
            · have := HN8.out; have := X9.out.size; omega); clear hown5 hb5 hgr5))
          go_roundw
          case rel => exact ⟨cs ++ [⟨3, ⟨kt, kr⟩⟩], pre ++ post, done ++ [(⟨kt, kr⟩, tx)], HR5.out, HPN.out, by rw [HSN.out, ← List.append_assoc]; exact HCS2.out.append (List.Perm.refl _), HO5.out, HOB5.out, HB5.out, HN5.out⟩
          case measure =>
            rw [HR5.out.left_eq, HRL.out, HRM.out]
            simp only [List.length_append, List.length_cons]
            omega

end Go.Proofs.Ytipddhcfcehcaaa
