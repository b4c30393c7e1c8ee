/- The document's Needs and Closure. The document's SameRule. No condition: lemmas. -/
import Derived.Test.YtfhonficpccegaaZ38
import Derived.Test.YtfhonficpccegaaZ37
namespace Go.Proofs.Ytfhonficpccegaa
open Go Go.RowKit Go.Maps

set_option maxRecDepth 100000 in
set_option maxHeartbeats 600000 in
theorem needsD_any (ts : List TyS) (tv : Value) (r : R2) (w : World) (h : TysAt (· < w.heap.size) w ts tv) (hu : uniqOk ts = true) (htl : ts.length ≤ 1000000) (hrs : ∀ x ∈ refsOf ts, x.2.sz ≤ 1000000 ∧ (x.2.pneeds (refsOf ts) x.1.t).length ≤ 1000000) :
    Calls Try.prog 22 #[.agg #[tv], r2V r] w fun e w' => ∃ (v : Value) (o : List R2), e = .returned v ∧ UpOf o (needsP ts r) ∧ Sl (· < w'.heap.size) w' 2 v (r2cs o) ∧ Below w.heap.size w w' := by
  obtain ⟨rt, rr⟩ := r
  obtain ⟨aot, ct, rfl, htc, htcm, -⟩ := h.rows
  have HTY := Lib.hid h
  have HU := Lib.hid hu
  have HTL := Lib.hid htl
  have HRS := Lib.hid hrs
  obtain ⟨wa, hwa⟩ : ∃ x, x = w.alloc (.cells #[.slice aot ts.length ct] 24) := ⟨_, rfl⟩
  obtain ⟨wb, hwb⟩ : ∃ x, x = wa.alloc (.cells #[.string rt, .string rr] 43) := ⟨_, rfl⟩
  have e1 : wa.heap.size = w.heap.size + 1 := by rw [hwa]; simp
  have x01 : Ext w wa := by rw [hwa]; exact Ext.alloc _ _
  have x12 : Ext wa wb := by rw [hwb]; exact Ext.alloc _ _
  have HSA := Lib.hid (show Blk wb w.heap.size #[.slice aot ts.length ct] 24 from Blk.below (by rw [hwa]; exact Blk.made _ _ _) x12)
  have HRA := Lib.hid (show Blk wb (w.heap.size + 1) #[.string rt, .string rr] 43 from by rw [hwb, ← e1]; exact Blk.made _ _ _)
  have HX := Lib.hid (show Below w.heap.size w wb from x01.trans x12)
  have HFI := Lib.hid (find06_any ts _ rt rr wb (HTY.out.up HX.out) HU.out)
  have hsa := HSA.out.cells
  have hra := HRA.out.cells
  clear h hu htl hrs e1 x01 x12 htc htcm
  unfold r2V
  dsimp only
  cases hlk : lookA (refsOf ts) ⟨rt, rr⟩ with
  | none =>
    have HLK := Lib.hid hlk
    rw [hlk] at HFI
    clear hlk
    subst hwb hwa
    go_enter Try.func22, Try.ntmps22
    go_wp2_with fail
    refine HFI.out.mono ?_
    rintro e w5 ⟨⟨zr, zv⟩, rfl, -, -, hz, hb5⟩
    obtain ⟨rfl, rfl⟩ := Prod.mk.inj (hz trivial)
    have HB5 := Lib.hid (HX.out.trans (hb5.mono HX.out.size))
    have HB6 := Lib.hid (HB5.out.trans ((Ext.alloc w5 (.cells #[.int .i64 0, .string ByteArray.empty, .string ByteArray.empty, .slice none 0 0] 46)).mono HB5.out.size))
    clear hz hb5 HFI hsa hra
    unfold rvV rV
    dsimp only [RT.k, RT.a, RT.b, RT.ps, List.length_nil]
    go_wp2_with fail
    go_ret
    exact ⟨_, [], rfl, by unfold needsP; rw [HLK.out]; exact UpOf.nil, Sl.nil _ _ _, HB6.out⟩
  | some rule =>
    have HLK := Lib.hid hlk
    have HMEM := Lib.hid (look_mem hlk)
    rw [hlk] at HFI
    clear hlk
    subst hwb hwa
    go_enter Try.func22, Try.ntmps22
    go_wp2_with fail
    refine HFI.out.mono ?_
    rintro e w5 ⟨⟨zr, zv⟩, rfl, hat5, hz, -, hb5⟩
    obtain rfl : zr = rule := hz rule rfl
    clear hz
    dsimp only at hat5
    obtain ⟨ao5, c5, rfl, -, -, -⟩ := hat5.rows
    have x56 := Ext.alloc w5 (.cells #[.int .i64 zr.k, .string zr.a, .string zr.b, .slice ao5 zr.ps.length c5] 46)
    have HR6 := Lib.hid (Blk.made w5 #[.int .i64 zr.k, .string zr.a, .string zr.b, .slice ao5 zr.ps.length c5] 46)
    have HX6 := Lib.hid (show Below w.heap.size w _ from HX.out.trans ((Ext.trans hb5 x56).mono HX.out.size))
    have HSA6 := Lib.hid (HSA.out.below (Ext.trans hb5 x56))
    have HRA6 := Lib.hid (HRA.out.below (Ext.trans hb5 x56))
    have HAT6 := Lib.hid (hat5.up x56)
    have s6 := HSA6.out.cells
    have r6 := HRA6.out.cells
    unfold rvV rV
    dsimp only
    have HNE := Lib.hid (show needsP ts ⟨rt, rr⟩ = zr.pneeds (refsOf ts) rt from by unfold needsP; rw [HLK.out])
    have HND := Lib.hid (needs06_any ts rt zr _ _ _ (HTY.out.up HX6.out) HAT6.out HTL.out (HRS.out _ HMEM.out).1 (HRS.out _ HMEM.out).2)
    unfold rV at HND
    clear hat5 hb5 x56 HFI hsa hra HSA HRA HX
    go_wp2_with fail
    refine HND.out.mono ?_
    rintro e w7 ⟨v7, o7, rfl, hup7, hsl7, hb7⟩
    have HUP := Lib.hid hup7
    have HSL := Lib.hid hsl7
    have HB7 := Lib.hid (HX6.out.trans (hb7.mono HX6.out.size))
    clear hup7 hsl7 hb7 HND s6 r6
    go_wp2_with fail
    go_ret
    exact ⟨_, o7, rfl, by rw [HNE.out]; exact HUP.out, HSL.out, HB7.out⟩

/-- Where the document's Closure stands within a round that began with o. -/
structure CD (ts : List TyS) (r : R2) (o pr o2 : List R2) : Prop where
  up : UpR o2
  sub : ∀ x ∈ o, x ∈ o2
  re : ∀ x ∈ o2, ReachP ts r x
  done : ∀ x ∈ pr, ∀ y ∈ needsP ts x, y ∈ o2
theorem CD.start {ts : List TyS} {r : R2} {o : List R2} (hu : UpR o) (hr : ∀ x ∈ o, ReachP ts r x) : CD ts r o [] o := ⟨hu, fun _ h => h, hr, fun x hx => (by cases hx)⟩
theorem CD.put {ts : List TyS} {r y : R2} {o pr o2 o3 : List R2} (h : CD ts r o pr o2) (hi : Ins o2 y o3) (hy : ReachP ts r y) : CD ts r o pr o3 :=
  ⟨hi.up, fun x hx => (hi.mem x).2 (.inr (h.sub x hx)), fun x hx => by
    rcases (hi.mem x).1 hx with rfl | hx
    · exact hy
    · exact h.re x hx, fun x hx z hz => (hi.mem z).2 (.inr (h.done x hx z hz))⟩
theorem CD.next {ts : List TyS} {r : R2} {o o2 : List R2} {i : Nat} (h : CD ts r o (o.take i) o2) (hi : i < o.length) (hn : ∀ y ∈ needsP ts o[i], y ∈ o2) : CD ts r o (o.take (i + 1)) o2 :=
  ⟨h.up, h.sub, h.re, fun x hx y hy => by
    rw [List.take_succ_eq_append_getElem hi, List.mem_append, List.mem_singleton] at hx
    rcases hx with hx | rfl
    · exact h.done x hx y hy
    · exact hn y hy⟩
theorem CD.len {ts : List TyS} {r : R2} {o pr o2 : List R2} (h : CD ts r o pr o2) : o2.length ≤ (univP ts r).length := nodup_le h.up.nodup fun x hx => reach_univ (h.re x hx)
theorem CD.more {ts : List TyS} {r : R2} {o pr o2 : List R2} (h : CD ts r o pr o2) (hu : UpR o) : o.length ≤ o2.length := nodup_le hu.nodup h.sub
theorem CD.fin {ts : List TyS} {r : R2} {o o2 : List R2} (h : CD ts r o o o2) (hu : UpR o) (hr : r ∈ o) (hl : o2.length = o.length) (x : R2) : x ∈ o2 ↔ ReachP ts r x := by
  have hb : ∀ y ∈ o2, y ∈ o := fun y hy => by
    by_cases hyo : y ∈ o
    · exact hyo
    · have := nodup_le (l := y :: o) (u := o2) (List.nodup_cons.2 ⟨hyo, hu.nodup⟩) fun z hz => by
        rcases List.mem_cons.1 hz with rfl | hz
        · exact hy
        · exact h.sub z hz
      simp at this
      omega
  refine ⟨h.re x, fun hx => ?_⟩
  induction hx with
  | self => exact h.sub r hr
  | step _ h2 ih => exact h.done _ (hb _ ih) _ h2

set_option maxRecDepth 100000 in
set_option maxHeartbeats 600000 in
theorem closureD_any (ts : List TyS) (tv : Value) (r : R2) (w : World) (h : TysAt (· < w.heap.size) w ts tv) (hu : uniqOk ts = true) (htl : ts.length ≤ 1000000) (hrs : ∀ x ∈ refsOf ts, x.2.sz ≤ 1000000 ∧ (x.2.pneeds (refsOf ts) x.1.t).length ≤ 1000000) (hun : (univP ts r).length ≤ 100000000) :
    Calls Try.prog 24 #[.agg #[tv], r2V r] w fun e w' => ∃ (v : Value) (o : List R2), e = .returned v ∧ (lookA (refsOf ts) r = none → o = []) ∧ ((lookA (refsOf ts) r).isSome = true → UpR o ∧ ∀ x, x ∈ o ↔ ReachP ts r x) ∧ Sl (· < w'.heap.size) w' 2 v (r2cs o) ∧ Below w.heap.size w w' := by
  have HUN := Lib.hid hun
  clear hun
  obtain ⟨rt, rr⟩ := r
  obtain ⟨aot, ct, rfl, htc, htcm, -⟩ := h.rows
  have HTY := Lib.hid h
  have HU := Lib.hid hu
  have HTL := Lib.hid htl
  have HRS := Lib.hid hrs
  obtain ⟨wa, hwa⟩ : ∃ x, x = w.alloc (.cells #[.slice aot ts.length ct] 24) := ⟨_, rfl⟩
  obtain ⟨wb, hwb⟩ : ∃ x, x = wa.alloc (.cells #[.string rt, .string rr] 43) := ⟨_, rfl⟩
  have e1 : wa.heap.size = w.heap.size + 1 := by rw [hwa]; simp
  have x01 : Ext w wa := by rw [hwa]; exact Ext.alloc _ _
  have x12 : Ext wa wb := by rw [hwb]; exact Ext.alloc _ _
  have HSA := Lib.hid (show Blk wb w.heap.size #[.slice aot ts.length ct] 24 from Blk.below (by rw [hwa]; exact Blk.made _ _ _) x12)
  have HRA := Lib.hid (show Blk wb (w.heap.size + 1) #[.string rt, .string rr] 43 from by rw [hwb, ← e1]; exact Blk.made _ _ _)
  have HX := Lib.hid (show Below w.heap.size w wb from x01.trans x12)
  have HFI := Lib.hid (find06_any ts _ rt rr wb (HTY.out.up HX.out) HU.out)
  have hsa := HSA.out.cells
  have hra := HRA.out.cells
  clear h hu htl hrs e1 x01 x12 htc htcm
  unfold r2V
  dsimp only
  cases hlk : lookA (refsOf ts) ⟨rt, rr⟩ with
  | none =>
    have HLK := Lib.hid hlk
    rw [hlk] at HFI
    clear hlk
    subst hwb hwa
    go_enter Try.func24, Try.ntmps24
    go_wp2_with fail
    refine HFI.out.mono ?_
    rintro e w5 ⟨⟨zr, zv⟩, rfl, -, -, hz, hb5⟩
    obtain ⟨rfl, rfl⟩ := Prod.mk.inj (hz trivial)
    have HB5 := Lib.hid (HX.out.trans (hb5.mono HX.out.size))
    have HB6 := Lib.hid (HB5.out.trans ((Ext.alloc w5 (.cells #[.int .i64 0, .string ByteArray.empty, .string ByteArray.empty, .slice none 0 0] 46)).mono HB5.out.size))
    clear hz hb5 HFI hsa hra
    unfold rvV rV
    dsimp only [RT.k, RT.a, RT.b, RT.ps, List.length_nil]
    go_wp2_with fail
    go_ret
    exact ⟨_, [], rfl, fun _ => rfl, (fun h => by cases h), Sl.nil _ _ _, HB6.out⟩
  | some rule =>
    have HLK := Lib.hid hlk
    have HMEM := Lib.hid (look_mem hlk)
    rw [hlk] at HFI
    clear hlk
    subst hwb hwa
    go_enter Try.func24, Try.ntmps24
    go_wp2_with fail
    refine HFI.out.mono ?_
    rintro e w5 ⟨⟨zr, zv⟩, rfl, hat5, hz, -, hb5⟩
    obtain rfl : zr = rule := hz rule rfl
    clear hz
    dsimp only at hat5
    obtain ⟨ao5, c5, rfl, -, -, -⟩ := hat5.rows
    have x56 := Ext.alloc w5 (.cells #[.int .i64 zr.k, .string zr.a, .string zr.b, .slice ao5 zr.ps.length c5] 46)
    have HR6 := Lib.hid (Blk.made w5 #[.int .i64 zr.k, .string zr.a, .string zr.b, .slice ao5 zr.ps.length c5] 46)
    have HX6 := Lib.hid (show Below w.heap.size w _ from HX.out.trans ((Ext.trans hb5 x56).mono HX.out.size))
    have HSA6 := Lib.hid (HSA.out.below (Ext.trans hb5 x56))
    have HRA6 := Lib.hid (HRA.out.below (Ext.trans hb5 x56))
    have HAT6 := Lib.hid (hat5.up x56)
    have s6 := HSA6.out.cells
    have r6 := HRA6.out.cells
    unfold rvV rV
    dsimp only
    obtain ⟨w6, hw6⟩ : ∃ x, x = w5.alloc (.cells #[.int .i64 zr.k, .string zr.a, .string zr.b, .slice ao5 zr.ps.length c5] 46) := ⟨_, rfl⟩
    rw [← hw6] at HX6 HSA6
    obtain ⟨w7, hw7⟩ : ∃ x, x = w6.alloc (.cells #[.string rt, .string rr] 43) := ⟨_, rfl⟩
    have x67 : Ext w6 w7 := by rw [hw7]; exact Ext.alloc _ _
    have HSA7 := Lib.hid (HSA6.out.below x67)
    have HX7 := Lib.hid (show Below w.heap.size w w7 from HX6.out.trans (x67.mono HX6.out.size))
    have HO7 := Lib.hid (show Sl (· < w7.heap.size) w7 2 (.slice (some ⟨w6.heap.size, 0, none⟩) 1 1) (r2cs [⟨rt, rr⟩]) from by rw [hw7]; exact (Own.lit w6 (Nat.zero_le _) 43 2 1 #[.string rt, .string rr] rfl (by decide) (by decide)).sl.mono fun b hb => hb.2)
    have e6 : w6.heap.size = w5.heap.size + 1 := by rw [hw6]; simp
    rw [e6] at HO7
    clear hat5 hb5 x56 HFI hsa hra HSA HRA HX HR6 HAT6 HX6 HSA6 HRA6 x67 e6
    subst hw7 hw6
    go_wp2_with fail
    obtain ⟨w7, hw7⟩ : ∃ x, x = (w5.alloc (.cells #[.int .i64 zr.k, .string zr.a, .string zr.b, .slice ao5 zr.ps.length c5] 46)).alloc (.cells #[.string rt, .string rr] 43) := ⟨_, rfl⟩
    rw [← hw7] at HSA7 HX7 HO7 ⊢
    generalize Value.slice (some ⟨w5.heap.size + 1, 0, none⟩) 1 1 = v70 at *
    clear hw7 s6 r6
    go_loopw [7] (fun ov wr => ∃ o : List R2, UpR o ∧ (⟨rt, rr⟩ : R2) ∈ o ∧ (∀ x ∈ o, ReachP ts ⟨rt, rr⟩ x) ∧ Sl (· < wr.heap.size) wr 2 ov (r2cs o) ∧ Ext w7 wr) (fun ov _ => (univP ts ⟨rt, rr⟩).length - sliceLen ov)
    case atStart => exact ⟨[⟨rt, rr⟩], List.pairwise_singleton _ _, List.mem_singleton.2 rfl, fun x hx => by rw [List.mem_singleton.1 hx]; exact .self, HO7.out, Ext.refl _⟩
    case round =>
      obtain ⟨o, huo, hro, hre, hsl, hext⟩ := hrel
      have HUO := Lib.hid huo
      have HRO := Lib.hid hro
      have HRE := Lib.hid hre
      have HSL := Lib.hid hsl
      have HEX := Lib.hid hext
      have HCD := Lib.hid (CD.start huo hre)
      have HOL := Lib.hid (show o.length ≤ 100000000 from by have := HCD.out.len; have := HUN.out; omega)
      obtain ⟨aoo, co, rfl, -, -, hoc⟩ := refs_rows hsl
      have HOC := Lib.hid hoc
      have HMS := Lib.hid (show sliceLen (.slice aoo o.length co) = o.length from rfl)
      clear huo hro hre hsl hext hoc HO7
      go_wp2_with fail
      rename World => wo
      go_loopw [7, 30] (fun ov iv wr => ∃ (i : Nat) (o2 : List R2), i ≤ o.length ∧ iv = .int .i64 i ∧ CD ts ⟨rt, rr⟩ o (o.take i) o2 ∧ Sl (· < wr.heap.size) wr 2 ov (r2cs o2) ∧ Ext wo wr) (fun _ iv _ => o.length - (intOf iv).toNat)
      case atStart => exact ⟨0, o, by omega, rfl, HCD.out, HSL.out, Ext.refl _⟩
      case round =>
        obtain ⟨i, o2, hi, rfl, hcd, hsl2, hext2⟩ := hrel
        have HCD2 := Lib.hid hcd
        have HSL2 := Lib.hid hsl2
        have HE2 := Lib.hid hext2
        have hol := HOL.out
        by_cases hlt : i < o.length
        · have HLT := Lib.hid hlt
          have HNX := fun (o3 : List R2) (h : CD ts ⟨rt, rr⟩ o (o.take i) o3) (hn : ∀ y ∈ needsP ts o[i], y ∈ o3) => Lib.hid (h.next hlt hn)
          have HREI := Lib.hid (HRE.out o[i] (List.getElem_mem hlt))
          obtain ⟨b2, off2, rfl, hb2, c0, c1⟩ := HOC.out i hlt
          have d0 := hext2.cell (a := ⟨b2, off2 + i * 2, none⟩) c0
          have d1 := hext2.cell (a := ⟨b2, off2 + i * 2 + 1, none⟩) c1
          generalize o[i] = x at *
          obtain ⟨xt, xr⟩ := x
          dsimp only at d0 d1
          have x1 := Ext.alloc wr (.cells #[.string xt, .string xr] 43)
          have HXB := Lib.hid (Blk.made wr #[.string xt, .string xr] 43)
          have HE3 := Lib.hid (show Ext w7 _ from HEX.out.trans (hext2.trans x1))
          have HE31 := Lib.hid (hext2.trans x1)
          have HBW3 := Lib.hid (show Below w.heap.size w _ from HX7.out.trans (HE3.out.mono HX7.out.size))
          have HSL3 := Lib.hid (hsl2.up x1)
          have HND := Lib.hid (needsD_any ts _ ⟨xt, xr⟩ _ (HTY.out.up HBW3.out) HU.out HTL.out HRS.out)
          have xb1 := HXB.out.cells
          have s1 := (HSA7.out.below HE3.out).cells
          unfold r2V at HND
          dsimp only at HND
          clear c0 c1 hcd hsl2 hext2 x1
          go_wp2_with fail
          refine HND.out.mono ?_
          rintro e w8 ⟨v8, o8, rfl, hup8, hsl8, hb8⟩
          have HUP8 := Lib.hid hup8
          have HE8 := Lib.hid (HE31.out.trans hb8)
          have HSL8 := Lib.hid (HSL3.out.up hb8)
          have HRE8 := Lib.hid (show ∀ y ∈ o8, ReachP ts ⟨rt, rr⟩ y from fun y hy => HREI.out.step ((hup8.mem y).1 hy))
          have HL8 := Lib.hid (show o8.length ≤ 100000000 from by
            have h1 := nodup_le hup8.up.nodup fun x hx => reach_univ (HRE8.out x hx)
            have := HUN.out
            omega)
          obtain ⟨ao8, c8, rfl, -, -, h8c⟩ := refs_rows hsl8
          have H8C := Lib.hid h8c
          have hl8 := HL8.out
          clear HND hup8 hsl8 hb8 h8c xb1 s1 d0 d1
          go_wp2_with fail
          go_loopw [7, 38] (fun ov iv wr => ∃ (j : Nat) (o3 : List R2), j ≤ o8.length ∧ iv = .int .i64 j ∧ CD ts ⟨rt, rr⟩ o (o.take i) o3 ∧ (∀ y ∈ o8.take j, y ∈ o3) ∧ Sl (· < wr.heap.size) wr 2 ov (r2cs o3) ∧ Ext w8 wr) (fun _ iv _ => o8.length - (intOf iv).toNat)
          case atStart => exact ⟨0, o2, by omega, rfl, HCD2.out, fun y hy => (by cases hy), HSL8.out, Ext.refl _⟩
          case round =>
            obtain ⟨j, o3, hj, rfl, hcd3, hall, hsl3, hext3⟩ := hrel
            have HCD3 := Lib.hid hcd3
            have HALL := Lib.hid hall
            have HSL33 := Lib.hid hsl3
            have HE33 := Lib.hid hext3
            by_cases hjt : j < o8.length
            · have HTJ := Lib.hid (show ∀ o4 : List R2, Ins o3 o8[j] o4 → ∀ y ∈ o8.take (j + 1), y ∈ o4 from fun o4 h4 y hy => by
                rw [List.take_succ_eq_append_getElem hjt, List.mem_append, List.mem_singleton] at hy
                rcases hy with hy | rfl
                · exact (h4.mem y).2 (.inr (HALL.out y hy))
                · exact (h4.mem _).2 (.inl rfl))
              have HRY := Lib.hid (HRE8.out o8[j] (List.getElem_mem hjt))
              have HLJ := Lib.hid (show o3.length ≤ 1000000000 from by have := HCD3.out.len; have := HUN.out; omega)
              obtain ⟨b3, off3, rfl, hb3, c0, c1⟩ := H8C.out j hjt
              have d0 := hext3.cell (a := ⟨b3, off3 + j * 2, none⟩) c0
              have d1 := hext3.cell (a := ⟨b3, off3 + j * 2 + 1, none⟩) c1
              generalize o8[j] = y at *
              obtain ⟨yt, yr⟩ := y
              dsimp only at d0 d1
              have x1 := Ext.alloc wr (.cells #[.string yt, .string yr] 43)
              have HYB := Lib.hid (Blk.made wr #[.string yt, .string yr] 43)
              have HE34 := Lib.hid (hext3.trans x1)
              have HPUT := Lib.hid (put06_up _ o3 ⟨yt, yr⟩ _ (hsl3.up x1) hcd3.up HLJ.out)
              have yb1 := HYB.out.cells
              unfold r2V at HPUT
              dsimp only at HPUT
              clear c0 c1 hcd3 hall hsl3 hext3 x1
              go_wp2_with fail
              refine HPUT.out.mono ?_
              rintro e w9 ⟨v9, o9, rfl, hins, hsl9, hb9⟩
              have HCD9 := Lib.hid (HCD3.out.put hins HRY.out)
              have HALL9 := Lib.hid (HTJ.out o9 hins)
              have HSL9 := Lib.hid hsl9
              have HE9 := Lib.hid (HE34.out.trans hb9)
              clear hins hsl9 hb9 HPUT yb1 d0 d1
              go_wp2_with fail
              go_roundw
              case rel => exact ⟨j + 1, o9, by omega, by go_num, HCD9.out, HALL9.out, HSL9.out, HE9.out⟩
              case measure => simp [intOf]; omega
            · obtain rfl : j = o8.length := by omega
              have HN3 := HNX o3 HCD3.out (fun y hy => HALL.out y (by rw [List.take_length]; exact (HUP8.out.mem y).2 hy))
              clear hcd3 hall hsl3 hext3
              go_wp2_with fail
              go_roundw
              case rel =>
                refine ⟨_, _, _, _, _, _, _, _, _, _, _, _, _, _, _, _, _, _, _, _, ?_, rfl⟩
                exact ⟨i + 1, o3, by have := HLT.out; omega, by go_num, HN3.out, HSL33.out, HE8.out.trans HE33.out⟩
              case measure => have := HLT.out; simp [intOf]; omega
        · obtain rfl : i = o.length := by omega
          rw [List.take_length] at HCD2
          obtain ⟨aoe, coe, rfl, -, -, -⟩ := refs_rows hsl2
          have HMO := Lib.hid (HCD2.out.more HUO.out)
          have HLE := Lib.hid HCD2.out.len
          have HME := Lib.hid (show sliceLen (.slice aoe o2.length coe) = o2.length from rfl)
          have HBE := Lib.hid (show Below w.heap.size w wr from HX7.out.trans ((HEX.out.trans hext2).mono HX7.out.size))
          clear hcd hsl2 hext2
          by_cases hq : o2.length = o.length
          · have HFN := Lib.hid (HCD2.out.fin HUO.out HRO.out hq)
            have hq1 : ((o2.length : Int) == (o.length : Int)) = true := by rw [hq]; exact beq_self_eq_true _
            clear hq
            clear hlt hi hol
            go_wp2_with fail
            go_ret
            exact ⟨_, o2, rfl, (fun h => by cases h), (fun _ => ⟨HCD2.out.up, HFN.out⟩), HSL2.out, HBE.out⟩
          · have hq1 : ((o2.length : Int) == (o.length : Int)) = false := by rw [beq_eq_false_iff_ne]; omega
            have HQ := Lib.hid hq
            clear hq
            go_wp2_with fail
            go_roundw
            case rel => exact ⟨o2, HCD2.out.up, HCD2.out.sub _ HRO.out, HCD2.out.re, HSL2.out, HEX.out.trans HE2.out⟩
            case measure =>
              rw [HMS.out, HME.out]
              have h1 := HQ.out
              have h2 := HMO.out
              have h3 := HLE.out
              omega

end Go.Proofs.Ytfhonficpccegaa
namespace Go.Proofs.Ytfhonficpccegaa
open Go Go.RowKit Go.Maps

theorem ba_toList_inj {a b : ByteArray} (h : a.toList = b.toList) : a = b := by
  rw [ByteArray.toList_eq, ByteArray.toList_eq] at h
  exact ByteArray.ext (by rw [← Array.toList_inj]; exact h)
theorem parts_eq {l m : List RT} (hl : l.length = m.length) (h : ∀ i (h1 : i < l.length) (h2 : i < m.length), l[i] = m[i]) : l = m := List.ext_getElem hl h

set_option maxRecDepth 100000 in
set_option maxHeartbeats 600000 in
theorem sameRule_any (r : RT) : ∀ (q : RT) (pv qv : Value) (w : World) (t : Bool), RTAt (· < w.heap.size) w r pv → RTAt (· < w.heap.size) w q qv → (t = true ↔ r = q) →
    Calls Try.prog 20 #[rV r pv, rV q qv] w fun e w' => e = .returned (.bool t) ∧ Below w.heap.size w w' := by
  induction r using RT.ind with
  | h r ih =>
  intro q pv qv w t hr hq ht
  have HT := Lib.hid ht
  obtain ⟨ao, c, rfl, hlc, hcm, hcell⟩ := hr.rows
  obtain ⟨ao2, cc, rfl, hlc2, hcm2, hcell2⟩ := hq.rows
  have HC := Lib.hid hcell
  have HC2 := Lib.hid hcell2
  have HI := Lib.hid ih
  clear ih hcell hcell2 hr hq ht
  obtain ⟨k, a, b, ps⟩ := r
  obtain ⟨k2, a2, b2, qs⟩ := q
  unfold rV
  dsimp only [RT.ps] at HC HC2 HI hlc hlc2
  dsimp only [RT.k, RT.a, RT.b, RT.ps]
  have hX := Ext.trans (Ext.alloc w (.cells #[.int .i64 k, .string a, .string b, .slice ao ps.length c] 46)) (Ext.alloc _ (.cells #[.int .i64 k2, .string a2, .string b2, .slice ao2 qs.length cc] 46))
  have HX := Lib.hid hX
  clear hX
  by_cases hk : k = k2
  case neg =>
    have hk1 : (k == k2) = false := by rw [beq_eq_false_iff_ne]; exact hk
    have hk2 : (k != k2) = true := by rw [bne_iff_ne]; exact hk
    have HN := Lib.hid (show ¬ RT.mk k a b ps = RT.mk k2 a2 b2 qs from fun h => hk (by injection h))
    have HTF := Lib.hid (show t = false from by cases t with | false => rfl | true => exact absurd (HT.out.1 rfl) HN.out)
    clear hk
    go_enter Try.func20, Try.ntmps20
    go_wp2_with fail
    go_ret
    exact ⟨by rw [HTF.out]; rfl, HX.out⟩
  subst hk
  by_cases ha : a = a2
  case neg =>
    have ha1 := ba_beq' ha
    have ha2 : ¬ a.toList = a2.toList := fun h => ha (ba_toList_inj h)
    have HN := Lib.hid (show ¬ RT.mk k a b ps = RT.mk k a2 b2 qs from fun h => ha (by injection h))
    have HTF := Lib.hid (show t = false from by cases t with | false => rfl | true => exact absurd (HT.out.1 rfl) HN.out)
    clear ha
    go_enter Try.func20, Try.ntmps20
    go_wp2_with fail
    go_ret
    exact ⟨by rw [HTF.out]; rfl, HX.out⟩
  subst ha
  by_cases hb : b = b2
  case neg =>
    have hb1 := ba_beq' hb
    have hb2 : ¬ b.toList = b2.toList := fun h => hb (ba_toList_inj h)
    have HN := Lib.hid (show ¬ RT.mk k a b ps = RT.mk k a b2 qs from fun h => hb (by injection h))
    have HTF := Lib.hid (show t = false from by cases t with | false => rfl | true => exact absurd (HT.out.1 rfl) HN.out)
    clear hb
    go_enter Try.func20, Try.ntmps20
    go_wp2_with fail
    go_ret
    exact ⟨by rw [HTF.out]; rfl, HX.out⟩
  subst hb
  by_cases hn : ps.length = qs.length
  case neg =>
    have HN := Lib.hid (show ¬ RT.mk k a b ps = RT.mk k a b qs from fun h => hn (by injection h with _ _ _ h; rw [h]))
    have HTF := Lib.hid (show t = false from by cases t with | false => rfl | true => exact absurd (HT.out.1 rfl) HN.out)
    clear HC HC2 HI
    generalize ps.length = n1 at *
    generalize qs.length = n2 at *
    have hn1 : ((n1 : Int) == (n2 : Int)) = false := by rw [beq_eq_false_iff_ne]; omega
    have hn2 : ((n1 : Int) != (n2 : Int)) = true := by rw [bne_iff_ne]; omega
    clear hn
    go_enter Try.func20, Try.ntmps20
    go_wp2_with fail
    go_ret
    exact ⟨by rw [HTF.out]; rfl, HX.out⟩
  have HN := Lib.hid hn
  obtain ⟨wa, hwa⟩ : ∃ x, x = w.alloc (.cells #[.int .i64 k, .string a, .string b, .slice ao ps.length c] 46) := ⟨_, rfl⟩
  obtain ⟨wb, hwb⟩ : ∃ x, x = wa.alloc (.cells #[.int .i64 k, .string a, .string b, .slice ao2 ps.length cc] 46) := ⟨_, rfl⟩
  have e1 : wa.heap.size = w.heap.size + 1 := by rw [hwa]; simp
  have x12 : Ext wa wb := by rw [hwb]; exact Ext.alloc _ _
  have HA := Lib.hid (show Blk wb w.heap.size #[.int .i64 k, .string a, .string b, .slice ao ps.length c] 46 from Blk.below (by rw [hwa]; exact Blk.made _ _ _) x12)
  have HB := Lib.hid (show Blk wb (w.heap.size + 1) #[.int .i64 k, .string a, .string b, .slice ao2 ps.length cc] 46 from by rw [hwb, ← e1]; exact Blk.made _ _ _)
  rw [← hn] at HX hlc2 ⊢
  have HX := Lib.hid (show Below w.heap.size w wb from by rw [hwb, hwa]; exact HX.out)
  have ha := HA.out.cells
  have hb := HB.out.cells
  subst hwb hwa
  clear e1 x12 hn
  go_enter Try.func20, Try.ntmps20
  go_wp2_with fail
  obtain ⟨wb, hwb⟩ : ∃ x, x = (w.alloc (.cells #[.int .i64 k, .string a, .string b, .slice ao ps.length c] 46)).alloc (.cells #[.int .i64 k, .string a, .string b, .slice ao2 ps.length cc] 46) := ⟨_, rfl⟩
  rw [← hwb] at HA HB HX ⊢
  clear hwb ha hb
  go_loopw [5, 37] (fun _ iv wr => ∃ i : Nat, i ≤ ps.length ∧ iv = .int .i64 i ∧ (∀ j (h1 : j < ps.length) (h2 : j < qs.length), j < i → ps[j] = qs[j]) ∧ Ext wb wr) (fun _ iv _ => ps.length - (intOf iv).toNat)
  case atStart => exact ⟨0, by omega, rfl, fun j _ _ h => absurd h (by omega), Ext.refl _⟩
  case round =>
    obtain ⟨i, hi, rfl, hall, hext⟩ := hrel
    have HALL := Lib.hid hall
    have HE := Lib.hid hext
    have hbel := Lib.hid (show Below w.heap.size w wr from HX.out.trans (hext.mono HX.out.size))
    clear hall
    by_cases hlt : i < ps.length
    · have hlt2 : i < qs.length := by have := HN.out; omega
      obtain ⟨bb, off, pv, rfl, hb, c0, c1, c2, c3, hpt⟩ := HC.out i hlt
      obtain ⟨bb2, off2, qv, rfl, hb2, f0, f1, f2, f3, hqt⟩ := HC2.out i hlt2
      have HI2 := Lib.hid (HI.out ps[i] (List.getElem_mem hlt) qs[i])
      have HST := Lib.hid (show ps[i] = qs[i] → ∀ j (h1 : j < ps.length) (h2 : j < qs.length), j < i + 1 → ps[j] = qs[j] from fun he j h1 h2 hj => by
        by_cases hji : j = i
        · subst hji; exact he
        · exact HALL.out j h1 h2 (by omega))
      have HNE := Lib.hid (show ¬ ps[i] = qs[i] → ¬ RT.mk k a b ps = RT.mk k a b qs from fun hne h => hne (by injection h with _ _ _ h; subst h; rfl))
      obtain ⟨aop, cp, rfl, -, -, -⟩ := hpt.rows
      obtain ⟨aoq, cq, rfl, -, -, -⟩ := hqt.rows
      generalize ps[i] = p at *
      generalize qs[i] = q at *
      have HPT := Lib.hid hpt
      have HQT := Lib.hid hqt
      clear hpt hqt hlt2
      go_wp2_with fail
      have hx := hbel.out
      have hra : ∀ W, Ext wr W → W.cell? ⟨w.heap.size, 3, none⟩ = some (.slice (some ⟨bb, off, none⟩) ps.length c) := fun W h => by rw [(HA.out.below (HE.out.trans h)).cells]; rfl
      have hrb : ∀ W, Ext wr W → W.cell? ⟨w.heap.size + 1, 3, none⟩ = some (.slice (some ⟨bb2, off2, none⟩) ps.length cc) := fun W h => by rw [(HB.out.below (HE.out.trans h)).cells]; rfl
      have g0 : ∀ W, Ext wr W → W.cell? ⟨bb, off + i * 4, none⟩ = some (.int .i64 p.k) := fun W h => ((Below.cell (hx.trans (h.mono hx.size)) (p := ⟨bb, off + i * 4, none⟩) hb)).trans c0
      have g1 : ∀ W, Ext wr W → W.cell? ⟨bb, off + i * 4 + 1, none⟩ = some (.string p.a) := fun W h => ((Below.cell (hx.trans (h.mono hx.size)) (p := ⟨bb, off + i * 4 + 1, none⟩) hb)).trans c1
      have g2 : ∀ W, Ext wr W → W.cell? ⟨bb, off + i * 4 + 2, none⟩ = some (.string p.b) := fun W h => ((Below.cell (hx.trans (h.mono hx.size)) (p := ⟨bb, off + i * 4 + 2, none⟩) hb)).trans c2
      have g3 : ∀ W, Ext wr W → W.cell? ⟨bb, off + i * 4 + 3, none⟩ = some (.slice aop p.ps.length cp) := fun W h => ((Below.cell (hx.trans (h.mono hx.size)) (p := ⟨bb, off + i * 4 + 3, none⟩) hb)).trans c3
      have k0 : ∀ W, Ext wr W → W.cell? ⟨bb2, off2 + i * 4, none⟩ = some (.int .i64 q.k) := fun W h => ((Below.cell (hx.trans (h.mono hx.size)) (p := ⟨bb2, off2 + i * 4, none⟩) hb2)).trans f0
      have k1 : ∀ W, Ext wr W → W.cell? ⟨bb2, off2 + i * 4 + 1, none⟩ = some (.string q.a) := fun W h => ((Below.cell (hx.trans (h.mono hx.size)) (p := ⟨bb2, off2 + i * 4 + 1, none⟩) hb2)).trans f1
      have k2 : ∀ W, Ext wr W → W.cell? ⟨bb2, off2 + i * 4 + 2, none⟩ = some (.string q.b) := fun W h => ((Below.cell (hx.trans (h.mono hx.size)) (p := ⟨bb2, off2 + i * 4 + 2, none⟩) hb2)).trans f2
      have k3 : ∀ W, Ext wr W → W.cell? ⟨bb2, off2 + i * 4 + 3, none⟩ = some (.slice aoq q.ps.length cq) := fun W h => ((Below.cell (hx.trans (h.mono hx.size)) (p := ⟨bb2, off2 + i * 4 + 3, none⟩) hb2)).trans f3
      have hE : Ext wr wr.drew := Ext.drew wr
      have HX2 := Lib.hid (show Below w.heap.size w wr.drew from hx.trans (hE.mono hx.size))
      have HE2 := Lib.hid (show Ext wb wr.drew from HE.out.trans hE)
      clear c0 c1 c2 c3 f0 f1 f2 f3 hb hb2 hx hext hbel HE
      refine region_walk [(0, true), (1, true), (2, true), (3, true), (4, true), (5, true), (6, true), (7, true), (8, true), (9, true), (10, false), (11, true)] (by kernel_rfl) (by kernel_rfl) (by kernel_rfl) rfl (fun _ _ d _ _ h => by cases d <;> exact h) ?_
      iterate 10 ((refine Walk.take _ ?_ (by simp only [List.getElem?_toArray, List.getElem?_cons_succ, List.getElem?_cons_zero]; rfl) (by rfl) (fun W hW => ?_) ?_; rotate_left; · (have hE0 := hE.trans hW; go_simp; try with_reducible rfl)); simp only [Act.put, List.setIfInBounds_toArray, List.set_cons_zero, List.set_cons_succ])
      refine Walk.make _ (by simp only [List.getElem?_toArray, List.getElem?_cons_succ, List.getElem?_cons_zero]; rfl) (by rfl) (fun K hK => ?_); go_simp
      obtain ⟨tf, htf⟩ : ∃ tf : Bool, tf = true ↔ p = q := by
        by_cases h : p = q
        · exact ⟨true, by simp [h]⟩
        · exact ⟨false, by simp [h]⟩
      have HTF2 := Lib.hid htf
      clear htf
      refine (HI2.out _ _ _ tf (HPT.out.up HX2.out) (HQT.out.up HX2.out) HTF2.out).mono ?_
      rintro e w4 ⟨rfl, hb4⟩
      refine hK.out _ _ hb4 ?_
      have hE := hE.trans hb4
      clear hK
      iterate 1 ((refine Walk.take _ ?_ (by simp only [List.getElem?_toArray, List.getElem?_cons_succ, List.getElem?_cons_zero]; rfl) (by rfl) (fun W hW => ?_) ?_; rotate_left; · (have hE0 := hE.trans hW; go_simp; try with_reducible rfl)); simp only [Act.put, List.setIfInBounds_toArray, List.set_cons_zero, List.set_cons_succ])
      unfold Walk
      have HE4 := Lib.hid (show Ext wb w4 from HE2.out.trans hb4)
      have HX4 := Lib.hid (show Below w.heap.size w w4 from HX2.out.trans (hb4.mono HX2.out.size))
      clear hE hra hrb g0 g1 g2 g3 k0 k1 k2 k3 hb4
      cases tf with
      | true =>
        have HS := Lib.hid (HST.out (HTF2.out.1 rfl))
        go_wp2_with fail
        go_roundw
        case rel => exact ⟨i + 1, by omega, by go_num, HS.out, HE4.out⟩
        case measure => simp [intOf]; omega
      | false =>
        have HF := Lib.hid (HNE.out fun h => by have := HTF2.out.2 h; cases this)
        have HTF := Lib.hid (show t = false from by cases t with | false => rfl | true => exact absurd (HT.out.1 rfl) HF.out)
        go_wp2_with fail
        go_ret
        exact ⟨by rw [HTF.out]; rfl, HX4.out⟩
    · obtain rfl : i = ps.length := by omega
      have HEQ := Lib.hid (show ps = qs from parts_eq HN.out fun j h1 h2 => HALL.out j h1 h2 h1)
      clear hext
      go_wp2_with fail
      go_ret
      exact ⟨by rw [HT.out.2 (by rw [HEQ.out])]; rfl, hbel.out⟩

end Go.Proofs.Ytfhonficpccegaa
