/- Lemmas for the claim, no condition. -/
import Derived.Test.YtipddhcfcehcaaaYT27
import Derived.Test.YtipddhcfcehcaaaYT21
import Derived.Test.YtipddhcfcehcaaaYT22
import Derived.Test.YtipddhcfcehcaaaYT3
import Derived.Test.YtipddhcfcehcaaaYT0
import Derived.Test.YtipddhcfcehcaaaYT1
import Derived.Test.YtipddhcfcehcaaaYT24
import Derived.Test.YtipddhcfcehcaaaYT25
import Derived.Test.YtipddhcfcehcaaaYT6
import Derived.Test.YtipddhcfcehcaaaYT16
namespace Go.Proofs.Ytipddhcfcehcaaa
open Go Go.RowKit Go.Maps

theorem ch_eql (a b : Ch) (W : World) : (binOp BinOp.eql 63 (chV a) (chV b)).run Try.prog W = .ok (.bool (decide (a = b))) W := by
  obtain ⟨a0, a1, a2⟩ := a
  obtain ⟨b0, b1, b2⟩ := b
  unfold chV
  dsimp only
  go_simp
  simp only [ba_toList]
  by_cases h0 : a0 = b0 <;> by_cases h1 : a1 = b1 <;> by_cases h2 : a2 = b2 <;> simp [h0, h1, h2]
theorem ch_neq (a b : Ch) (W : World) : (binOp BinOp.neq 63 (chV a) (chV b)).run Try.prog W = .ok (.bool (decide (a ≠ b))) W := by
  obtain ⟨a0, a1, a2⟩ := a
  obtain ⟨b0, b1, b2⟩ := b
  unfold chV
  dsimp only
  go_simp
  simp only [ba_toList]
  by_cases h0 : a0 = b0 <;> by_cases h1 : a1 = b1 <;> by_cases h2 : a2 = b2 <;> simp [h0, h1, h2]
/-- A schema of a small bulk is not too great. -/
theorem SOk.bk {ts : List TyS} (h : schBk ts ≤ 1048576) (hok : ∀ t ∈ ts, t.Ok) : SOk ts := by
  have h1 := names_bk ts
  have h2 := schB_bk ts
  have h3 : ∀ l : List TyS, l.length ≤ sumN tyBk l := fun l => by
    induction l with
    | nil => simp
    | cons a l ih => rw [List.length_cons, sumN, tyBk_eq]; omega
  refine ⟨hok, by omega, sz_sch h, by omega, by omega, by have := h3 ts; unfold schBk at h; omega, fun t ht r hr => ?_⟩
  have k1 := sumN_mem tyBk ht
  have k2 := sumN_mem relBk hr
  have k3 := wt_bk r.2
  unfold schBk at h
  have k4 := tyBk_eq t
  have k5 := relBk_eq r
  omega
def txA : ByteArray := ⟨#[116, 121, 112, 101, 32, 100, 111, 99, 10, 97, 32, 61, 32, 116, 104, 105, 115]⟩
def txB : ByteArray := ⟨#[116, 121, 112, 101, 32, 100, 111, 99, 10, 98, 32, 61, 32, 116, 104, 105, 115]⟩
def itA : List PIt := [.ty docB, .rel ⟨#[97]⟩ ⟨#[116, 104, 105, 115]⟩ []]
def itB : List PIt := [.ty docB, .rel ⟨#[98]⟩ ⟨#[116, 104, 105, 115]⟩ []]
def lnA : List ByteArray := [⟨#[116, 121, 112, 101, 32, 100, 111, 99]⟩, ⟨#[97, 32, 61, 32, 116, 104, 105, 115]⟩]
def lnB : List ByteArray := [⟨#[116, 121, 112, 101, 32, 100, 111, 99]⟩, ⟨#[98, 32, 61, 32, 116, 104, 105, 115]⟩]
def tsA : List TyS := [⟨docB, [(⟨#[97]⟩, .mk 1 ⟨#[]⟩ ⟨#[]⟩ [])]⟩]
def tsB : List TyS := [⟨docB, [(⟨#[98]⟩, .mk 1 ⟨#[]⟩ ⟨#[]⟩ [])]⟩]
theorem linesA : linesD txA = lnA := by kernel_rfl
theorem linesB : linesD txB = lnB := by kernel_rfl
theorem stepA : itA.foldl stepD [] = tsA := by kernel_rfl
theorem stepB : itB.foldl stepD [] = tsB := by kernel_rfl
theorem lnsA : (lnA.zip itA).all (fun p => lnOkB p.1 p.2) = true := by kernel_rfl
theorem lnsB : (lnB.zip itB).all (fun p => lnOkB p.1 p.2) = true := by kernel_rfl
theorem fitsA : itA.all PIt.fitB = true := by kernel_rfl
theorem fitsB : itB.all PIt.fitB = true := by kernel_rfl
theorem chkA : chk06 tsA = 0 := by kernel_rfl
theorem chkB : chk06 tsB = 0 := by kernel_rfl
theorem okA : ∀ t ∈ tsA, t.Ok := by
  intro t ht
  obtain rfl := List.mem_singleton.1 ht
  refine ⟨by decide, fun r hr => ?_⟩
  obtain rfl := List.mem_singleton.1 hr
  exact ⟨by decide, by simp [RT.Ok, okL]; decide⟩
theorem okB : ∀ t ∈ tsB, t.Ok := by
  intro t ht
  obtain rfl := List.mem_singleton.1 ht
  refine ⟨by decide, fun r hr => ?_⟩
  obtain rfl := List.mem_singleton.1 hr
  exact ⟨by decide, by simp [RT.Ok, okL]; decide⟩
def cA : Ch := ⟨2, ⟨docB, ⟨#[97]⟩⟩⟩
def cB : Ch := ⟨1, ⟨docB, ⟨#[98]⟩⟩⟩
theorem diffAB : diffL tsA tsB = [cA, cB] := by kernel_rfl
theorem upAB : UpC [cA, cB] := by
  refine List.pairwise_cons.2 ⟨fun b hb => ?_, List.pairwise_singleton _ _⟩
  obtain rfl := List.mem_singleton.1 hb
  kernel_rfl

set_option maxRecDepth 100000 in
set_option maxHeartbeats 1000000 in
theorem fixed07_any (w : World) : Calls Try.prog 7 #[] w fun e w' => e = .returned (.bool true) ∧ Ext w w' := by
  have HPA := Lib.hid (parse_any txA itA w (by decide) (by rw [linesA]; rfl) (by rw [linesA]; exact lnsOk_of lnsA) (fits_of fitsA) (fun _ => ⟨docB, rfl⟩) (by decide))
  rw [stepA] at HPA
  unfold txA at HPA
  go_enter Try.func7, Try.ntmps7
  go_wp2_with fail
  refine HPA.out.mono ?_
  rintro e w1 ⟨tv, rfl, hty, hb1⟩
  obtain ⟨aot, ct, rfl, -, -, -⟩ := hty.rows
  have x12 := Ext.alloc w1 (.cells #[.slice aot tsA.length ct] 24)
  have HT2 := Lib.hid ((hty.mono (S' := (· < w1.heap.size)) fun b hb => hb.2).up x12)
  have HS2 := Lib.hid (Blk.made w1 #[.slice aot tsA.length ct] 24)
  have HX2 := Lib.hid (show Ext w _ from Ext.trans hb1 x12)
  have HPB := Lib.hid (parse_any txB itB (w1.alloc (.cells #[.slice aot tsA.length ct] 24)) (by decide) (by rw [linesB]; rfl) (by rw [linesB]; exact lnsOk_of lnsB) (fits_of fitsB) (fun _ => ⟨docB, rfl⟩) (by decide))
  rw [stepB] at HPB
  unfold txB at HPB
  clear hty hb1 HPA x12
  go_wp2_with fail
  refine HPB.out.mono ?_
  rintro e w3 ⟨uv, rfl, hty, hb3⟩
  obtain ⟨aou, cu, rfl, -, -, -⟩ := hty.rows
  have x34 := Ext.alloc w3 (.cells #[.slice aou tsB.length cu] 24)
  have HU4 := Lib.hid ((hty.mono (S' := (· < w3.heap.size)) fun b hb => hb.2).up x34)
  have HV4 := Lib.hid (Blk.made w3 #[.slice aou tsB.length cu] 24)
  have HT4 := Lib.hid (HT2.out.up (Ext.trans hb3 x34))
  have HS4 := Lib.hid (HS2.out.below (Ext.trans hb3 x34))
  have HX4 := Lib.hid (show Ext w _ from HX2.out.trans (Ext.trans hb3 x34))
  have HDF := Lib.hid (diff_ok tsA tsB _ _ _ HT4.out HU4.out (SOk.bk (by decide) okA) (SOk.bk (by decide) okB) chkA chkB)
  have s4 := HS4.out.cells
  have v4 := HV4.out.cells
  clear hty hb3 HPB x34 HT2 HS2 HX2
  go_wp2_with fail
  refine HDF.out.mono ?_
  rintro e w5 ⟨v5, cs, rfl, hup, hp, ho, hb5⟩
  obtain rfl : cs = [cA, cB] := hup.eq upAB fun x => by rw [hp.mem_iff, diffAB]
  have HX5 := Lib.hid (HX4.out.trans hb5)
  obtain ⟨ao5, n5, c5, rfl, h5, -, -⟩ := ho.sl.len
  obtain rfl : n5 = 2 := by
    have : (chcs [cA, cB]).length = 6 := rfl
    omega
  obtain ⟨ao', n', c', hv, -, -, -, -, hcl⟩ := ho.sl
  cases hv
  obtain ⟨b, off, rfl, -, hcl⟩ := hcl (by simp [chcs, chC])
  have d0 := hcl 0 _ rfl
  rw [Nat.add_zero] at d0
  have d1 := hcl 1 _ rfl
  have d2 := hcl 2 _ rfl
  have d3 := hcl 3 _ rfl
  have d4 := hcl 4 _ rfl
  have d5 := hcl 5 _ rfl
  have e1 := fun W => ch_eql cA cA W
  have e2 := fun W => ch_eql cB cB W
  unfold cA cB docB chV at *
  dsimp only at d0 d1 d2 d3 d4 d5 e1 e2
  clear s4 v4 HDF hup hp ho hb5 hcl h5
  go_wp2_with fail
  go_ret
  exact ⟨rfl, HX5.out⟩

end Go.Proofs.Ytipddhcfcehcaaa
namespace Go.Proofs.Ytipddhcfcehcaaa
open Go Go.RowKit Go.Maps

set_option maxRecDepth 100000 in
set_option maxHeartbeats 1000000 in
theorem few07_any (ts us : List TyS) (tv uv : Value) (w : World) (ht : TysAt (· < w.heap.size) w ts tv) (hu : TysAt (· < w.heap.size) w us uv) (hok : ∀ t ∈ ts, t.Ok) (hok2 : ∀ t ∈ us, t.Ok) : Calls Try.prog 8 #[.agg #[tv], .agg #[uv]] w fun e w' => e = .returned (.bool (fewT ts 200 && fewT us 200)) ∧ Ext w w' := by
  obtain ⟨aot, ct, rfl, -, -, -⟩ := ht.rows
  obtain ⟨aou, cu, rfl, -, -, -⟩ := hu.rows
  obtain ⟨wa, hwa⟩ : ∃ x, x = w.alloc (.cells #[.slice aot ts.length ct] 24) := ⟨_, rfl⟩
  obtain ⟨wb, hwb⟩ : ∃ x, x = wa.alloc (.cells #[.slice aou us.length cu] 24) := ⟨_, rfl⟩
  have ea : wa.heap.size = w.heap.size + 1 := by rw [hwa]; simp
  have xa : Ext w wa := by rw [hwa]; exact Ext.alloc _ _
  have xb : Ext wa wb := by rw [hwb]; exact Ext.alloc _ _
  have HSA := Lib.hid (show Blk wb w.heap.size #[.slice aot ts.length ct] 24 from Blk.below (by rw [hwa]; exact Blk.made _ _ _) xb)
  have HSB := Lib.hid (show Blk wb (w.heap.size + 1) #[.slice aou us.length cu] 24 from by rw [hwb, ← ea]; exact Blk.made _ _ _)
  have HX := Lib.hid (xa.trans xb)
  have HF1 := Lib.hid (few05_any ts _ wb (ht.up HX.out) hok)
  have HU := Lib.hid (hu.up HX.out)
  have HO2 := Lib.hid hok2
  have sa := HSA.out.cells
  clear ht hu hok hok2 xa xb ea
  subst hwb hwa
  go_enter Try.func8, Try.ntmps8
  go_wp2_with fail
  refine HF1.out.mono ?_
  rintro e w1 ⟨rfl, hb1⟩
  have HX1 := Lib.hid (show Ext w w1 from HX.out.trans hb1)
  have HF2 := Lib.hid (few05_any us _ w1 (HU.out.up hb1) HO2.out)
  have sb := (HSB.out.below hb1).cells
  clear hb1 HF1 sa
  cases hf : fewT ts 200 with
  | false =>
    have HFF := Lib.hid hf
    go_wp2_with fail
    go_ret
    exact ⟨by rw [HFF.out]; rfl, HX1.out⟩
  | true =>
    have HFF := Lib.hid hf
    go_wp2_with fail
    refine HF2.out.mono ?_
    rintro e w2 ⟨rfl, hb2⟩
    have HX2 := Lib.hid (show Ext w w2 from HX1.out.trans hb2)
    clear hb2 HF2 sb
    go_wp2_with fail
    go_ret
    exact ⟨by rw [HFF.out, Bool.true_and]; rfl, HX2.out⟩

set_option maxRecDepth 100000 in
set_option maxHeartbeats 1000000 in
theorem check07_any (ts us : List TyS) (tv uv : Value) (w : World) (ht : TysAt (· < w.heap.size) w ts tv) (hu : TysAt (· < w.heap.size) w us uv) (hok : ∀ t ∈ ts, t.Ok) (hok2 : ∀ t ∈ us, t.Ok) (hz : schW ts ≤ 80000000) (hz2 : schW us ≤ 80000000) : Calls Try.prog 9 #[.agg #[tv], .agg #[uv]] w fun e w' => e = .returned (.int .i64 (if chk06 ts = 0 then chk06 us else chk06 ts)) ∧ Ext w w' := by
  obtain ⟨aot, ct, rfl, -, -, -⟩ := ht.rows
  obtain ⟨aou, cu, rfl, -, -, -⟩ := hu.rows
  obtain ⟨wa, hwa⟩ : ∃ x, x = w.alloc (.cells #[.slice aot ts.length ct] 24) := ⟨_, rfl⟩
  obtain ⟨wb, hwb⟩ : ∃ x, x = wa.alloc (.cells #[.slice aou us.length cu] 24) := ⟨_, rfl⟩
  have ea : wa.heap.size = w.heap.size + 1 := by rw [hwa]; simp
  have xa : Ext w wa := by rw [hwa]; exact Ext.alloc _ _
  have xb : Ext wa wb := by rw [hwb]; exact Ext.alloc _ _
  have HSA := Lib.hid (show Blk wb w.heap.size #[.slice aot ts.length ct] 24 from Blk.below (by rw [hwa]; exact Blk.made _ _ _) xb)
  have HSB := Lib.hid (show Blk wb (w.heap.size + 1) #[.slice aou us.length cu] 24 from by rw [hwb, ← ea]; exact Blk.made _ _ _)
  have HX := Lib.hid (xa.trans xb)
  have HF1 := Lib.hid (check06_any ts _ wb (ht.up HX.out) hok hz)
  have HU := Lib.hid (hu.up HX.out)
  have HO2 := Lib.hid (And.intro hok2 hz2)
  have sa := HSA.out.cells
  clear ht hu hok hok2 hz hz2 xa xb ea
  subst hwb hwa
  by_cases h0 : chk06 ts = 0
  · rw [h0] at HF1
    rw [if_pos h0]
    clear h0
    go_enter Try.func9, Try.ntmps9
    go_wp2_with fail
    refine HF1.out.mono ?_
    rintro e w1 ⟨rfl, hb1⟩
    have HX1 := Lib.hid (show Ext w w1 from HX.out.trans hb1)
    have HF2 := Lib.hid (check06_any us _ w1 (HU.out.up hb1) HO2.out.1 HO2.out.2)
    have sb := (HSB.out.below hb1).cells
    clear hb1 HF1 sa
    go_wp2_with fail
    refine HF2.out.mono ?_
    rintro e w2 ⟨rfl, hb2⟩
    have HX2 := Lib.hid (show Ext w w2 from HX1.out.trans hb2)
    clear hb2 HF2 sb
    go_wp2_with fail
    go_ret
    exact ⟨rfl, HX2.out⟩
  · rw [if_neg h0]
    have hne : (chk06 ts != 0) = true := by rw [bne_iff_ne]; exact h0
    clear h0
    generalize chk06 ts = ck at *
    go_enter Try.func9, Try.ntmps9
    go_wp2_with fail
    refine HF1.out.mono ?_
    rintro e w1 ⟨rfl, hb1⟩
    have HX1 := Lib.hid (show Ext w w1 from HX.out.trans hb1)
    clear hb1 HF1 sa
    go_wp2_with fail
    go_ret
    exact ⟨rfl, HX1.out⟩

end Go.Proofs.Ytipddhcfcehcaaa
namespace Go.Proofs.Ytipddhcfcehcaaa
open Go Go.RowKit Go.Maps

/-- What an index tells. -/
def IdxP {α : Type} (p : α → Bool) (l : List α) (k : Int) : Prop := (∃ (i : Nat) (hi : i < l.length), k = (i : Int) ∧ p l[i] = true) ∨ (k = -1 ∧ ∀ x ∈ l, p x = false)
theorem IdxP.map {α β : Type} {f : α → β} {p : β → Bool} {l : List α} {m : List β} {k : Int} (h : IdxP (fun x => p (f x)) l k) (hm : l.map f = m) : IdxP p m k := by
  subst hm
  rcases h with ⟨i, hi, rfl, hp⟩ | ⟨rfl, h⟩
  · exact .inl ⟨i, by rw [List.length_map]; exact hi, rfl, by rw [List.getElem_map]; exact hp⟩
  · refine .inr ⟨rfl, fun x hx => ?_⟩
    obtain ⟨a, ha, rfl⟩ := List.mem_map.1 hx
    exact h a ha
theorem ba_dec (a b : ByteArray) : (a.toList == b.toList) = decide (a = b) := by
  rw [Bool.eq_iff_iff, beq_iff_eq, decide_eq_true_eq, ba_toList]
def relV (x : (ByteArray × RT) × Value) : Value := .agg #[.string x.1.1, .int .i64 x.1.2.k, .string x.1.2.a, .string x.1.2.b, x.2]
def tyV (x : TyS × Value) : Value := .agg #[.string x.1.name, x.2]

set_option maxRecDepth 100000 in
set_option maxHeartbeats 1000000 in
theorem indexTy_any (w : World) (l : List (TyS × Value)) (lv : Value) (g : Nat) (cap : Array Value) (eg : ∀ args W, (callFunc g args).run Try.prog W = .ok (.enter g args) W) (p : TyS × Value → Bool) (hat : Sl (· < w.heap.size) w 2 lv (l.flatMap tyC)) (hf : ∀ i (hi : i < l.length) W, Ext w W → Calls Try.prog g (#[tyV l[i]] ++ cap) W fun e W' => e = .returned (.bool (p l[i])) ∧ Ext W W') :
    Calls Try.prog 43 #[lv, .func (.func g) #[] cap] w fun e w' => ∃ k : Int, e = .returned (.int .i64 k) ∧ IdxP p l k ∧ Ext w w' := by
  obtain ⟨ao, c, rfl, hlc, hcm, hcell⟩ := Sl.rows tyC_length (by decide) hat
  have HC := Lib.hid hcell
  have HF := Lib.hid hf
  clear hat hcell hf
  go_enter Try.func43, Try.ntmps43
  go_wp2_with fail
  go_loopw [5, 8] (fun _ ii wr => ∃ i : Nat, i ≤ l.length ∧ ii = .int .i64 i ∧ (∀ j (hj : j < l.length), j < i → p l[j] = false) ∧ Ext w wr) (fun _ ii _ => l.length - (intOf ii).toNat)
  case atStart => exact ⟨0, by omega, rfl, fun _ _ h => absurd h (by omega), Ext.refl _⟩
  case round =>
    obtain ⟨i, hi, rfl, hall, hbel⟩ := hrel
    have HALL := Lib.hid hall
    have HB := Lib.hid hbel
    clear hall
    by_cases hlt : i < l.length
    · have HUP := Lib.hid (fun h => upto_succ (p := fun j hj => p l[j] = false) HALL.out hlt h)
      have HAN := Lib.hid (fun (h : p l[i] = true) => (show IdxP p l (i : Int) from .inl ⟨i, hlt, rfl, h⟩))
      obtain ⟨b, off, rfl, hb, hc⟩ := HC.out (by omega)
      have d0 := hbel.cell (a := ⟨b, off + i * 2, none⟩) (hc i hlt 0 _ rfl)
      have d1 := hbel.cell (a := ⟨b, off + i * 2 + 1, none⟩) (hc i hlt 1 _ rfl)
      have HR := Lib.hid (HF.out i hlt wr hbel)
      generalize l[i] = t at *
      clear hc hbel
      obtain ⟨⟨tn, tr⟩, tv⟩ := t
      dsimp only [RT.k, RT.a, RT.b] at d0 d1
      unfold tyV at HR
      dsimp only [RT.k, RT.a, RT.b] at HR
      generalize p _ = pt at *
      cases pt with
      | true =>
        have HT := Lib.hid (HAN.out rfl)
        clear HUP HAN
        go_wp2_with fail
        refine HR.out.mono ?_
        rintro e w5 ⟨rfl, hb5⟩
        have HBE := Lib.hid (HB.out.trans hb5)
        clear HR hb5 d0 d1
        go_wp2_with fail
        go_ret
        exact ⟨_, rfl, HT.out, HBE.out⟩
      | false =>
        have HN := Lib.hid (HUP.out rfl)
        clear HUP HAN
        go_wp2_with fail
        refine HR.out.mono ?_
        rintro e w5 ⟨rfl, hb5⟩
        have HBE := Lib.hid (HB.out.trans hb5)
        clear HR hb5 d0 d1
        go_wp2_with fail
        go_roundw
        case rel => exact ⟨i + 1, by omega, by go_num, HN.out, HBE.out⟩
        case measure => simp [intOf]; omega
    · obtain rfl : i = l.length := by omega
      have HN := Lib.hid (show IdxP p l (-1) from .inr ⟨rfl, fun x hx => by
        obtain ⟨j, hj, rfl⟩ := List.getElem_of_mem hx
        exact HALL.out j hj hj⟩)
      clear hbel
      go_wp2_with fail
      go_ret
      exact ⟨_, rfl, HN.out, HB.out⟩

set_option maxRecDepth 100000 in
set_option maxHeartbeats 1000000 in
theorem indexRel_any (w : World) (l : List ((ByteArray × RT) × Value)) (lv : Value) (g : Nat) (cap : Array Value) (eg : ∀ args W, (callFunc g args).run Try.prog W = .ok (.enter g args) W) (p : (ByteArray × RT) × Value → Bool) (hat : Sl (· < w.heap.size) w 5 lv (l.flatMap relC)) (hf : ∀ i (hi : i < l.length) W, Ext w W → Calls Try.prog g (#[relV l[i]] ++ cap) W fun e W' => e = .returned (.bool (p l[i])) ∧ Ext W W') :
    Calls Try.prog 69 #[lv, .func (.func g) #[] cap] w fun e w' => ∃ k : Int, e = .returned (.int .i64 k) ∧ IdxP p l k ∧ Ext w w' := by
  obtain ⟨ao, c, rfl, hlc, hcm, hcell⟩ := Sl.rows relC_length (by decide) hat
  have HC := Lib.hid hcell
  have HF := Lib.hid hf
  clear hat hcell hf
  go_enter Try.func69, Try.ntmps69
  go_wp2_with fail
  go_loopw [5, 8] (fun _ ii wr => ∃ i : Nat, i ≤ l.length ∧ ii = .int .i64 i ∧ (∀ j (hj : j < l.length), j < i → p l[j] = false) ∧ Ext w wr) (fun _ ii _ => l.length - (intOf ii).toNat)
  case atStart => exact ⟨0, by omega, rfl, fun _ _ h => absurd h (by omega), Ext.refl _⟩
  case round =>
    obtain ⟨i, hi, rfl, hall, hbel⟩ := hrel
    have HALL := Lib.hid hall
    have HB := Lib.hid hbel
    clear hall
    by_cases hlt : i < l.length
    · have HUP := Lib.hid (fun h => upto_succ (p := fun j hj => p l[j] = false) HALL.out hlt h)
      have HAN := Lib.hid (fun (h : p l[i] = true) => (show IdxP p l (i : Int) from .inl ⟨i, hlt, rfl, h⟩))
      obtain ⟨b, off, rfl, hb, hc⟩ := HC.out (by omega)
      have d0 := hbel.cell (a := ⟨b, off + i * 5, none⟩) (hc i hlt 0 _ rfl)
      have d1 := hbel.cell (a := ⟨b, off + i * 5 + 1, none⟩) (hc i hlt 1 _ rfl)
      have d2 := hbel.cell (a := ⟨b, off + i * 5 + 2, none⟩) (hc i hlt 2 _ rfl)
      have d3 := hbel.cell (a := ⟨b, off + i * 5 + 3, none⟩) (hc i hlt 3 _ rfl)
      have d4 := hbel.cell (a := ⟨b, off + i * 5 + 4, none⟩) (hc i hlt 4 _ rfl)
      have HR := Lib.hid (HF.out i hlt wr hbel)
      generalize l[i] = t at *
      clear hc hbel
      obtain ⟨⟨rn, ⟨rk, ra, rb, rps⟩⟩, rv⟩ := t
      dsimp only [RT.k, RT.a, RT.b] at d0 d1 d2 d3 d4
      unfold relV at HR
      dsimp only [RT.k, RT.a, RT.b] at HR
      generalize p _ = pt at *
      cases pt with
      | true =>
        have HT := Lib.hid (HAN.out rfl)
        clear HUP HAN
        go_wp2_with fail
        refine HR.out.mono ?_
        rintro e w5 ⟨rfl, hb5⟩
        have HBE := Lib.hid (HB.out.trans hb5)
        clear HR hb5 d0 d1 d2 d3 d4
        go_wp2_with fail
        go_ret
        exact ⟨_, rfl, HT.out, HBE.out⟩
      | false =>
        have HN := Lib.hid (HUP.out rfl)
        clear HUP HAN
        go_wp2_with fail
        refine HR.out.mono ?_
        rintro e w5 ⟨rfl, hb5⟩
        have HBE := Lib.hid (HB.out.trans hb5)
        clear HR hb5 d0 d1 d2 d3 d4
        go_wp2_with fail
        go_roundw
        case rel => exact ⟨i + 1, by omega, by go_num, HN.out, HBE.out⟩
        case measure => simp [intOf]; omega
    · obtain rfl : i = l.length := by omega
      have HN := Lib.hid (show IdxP p l (-1) from .inr ⟨rfl, fun x hx => by
        obtain ⟨j, hj, rfl⟩ := List.getElem_of_mem hx
        exact HALL.out j hj hj⟩)
      clear hbel
      go_wp2_with fail
      go_ret
      exact ⟨_, rfl, HN.out, HB.out⟩

set_option maxRecDepth 100000 in
set_option maxHeartbeats 1000000 in
theorem relIdx1 (x : (ByteArray × RT) × Value) (n : ByteArray) (bs : Nat) (w : World) (hB : Blk w bs #[.string n] 9) : Calls Try.prog 70 #[relV x, .pointer (some ⟨bs, 0, none⟩)] w fun e w' => e = .returned (.bool (decide (x.1.1 = n))) ∧ Ext w w' := by
  obtain ⟨⟨rn, ⟨rk, ra, rb, rps⟩⟩, rv⟩ := x
  unfold relV
  dsimp only [RT.k, RT.a, RT.b]
  have x1 := Ext.alloc w (.cells #[.string rn, .int .i64 rk, .string ra, .string rb, rv] 82)
  have sb := (hB.below x1).cells
  have HX := Lib.hid x1
  clear x1 hB
  go_enter Try.func70, Try.ntmps70
  go_wp2_with fail
  go_ret
  exact ⟨by rw [← ba_dec]; rfl, HX.out⟩

set_option maxRecDepth 100000 in
set_option maxHeartbeats 1000000 in
theorem relIdx_any (l : List (ByteArray × RT)) (rv : Value) (nm : ByteArray) (n : ByteArray) (w : World) (h : RelsAt (· < w.heap.size) w l rv) : Calls Try.prog 68 #[.agg #[.string nm, rv], .string n] w fun e w' => ∃ k : Int, e = .returned (.int .i64 k) ∧ IdxP (fun x : (ByteArray × RT) => decide (x.1 = n)) l k ∧ Ext w w' := by
  obtain ⟨q, hq1, hq2, hq3⟩ := h
  obtain ⟨wa, hwa⟩ : ∃ x, x = w.alloc (.cells #[.string nm, rv] 49) := ⟨_, rfl⟩
  obtain ⟨wb, hwb⟩ : ∃ x, x = wa.alloc (.cells #[.string n] 9) := ⟨_, rfl⟩
  have ea : wa.heap.size = w.heap.size + 1 := by rw [hwa]; simp
  have xa : Ext w wa := by rw [hwa]; exact Ext.alloc _ _
  have xb : Ext wa wb := by rw [hwb]; exact Ext.alloc _ _
  have HA := Lib.hid (show Blk wb w.heap.size #[.string nm, rv] 49 from Blk.below (by rw [hwa]; exact Blk.made _ _ _) xb)
  have HB := Lib.hid (show Blk wb (w.heap.size + 1) #[.string n] 9 from by rw [hwb, ← ea]; exact Blk.made _ _ _)
  have HX := Lib.hid (xa.trans xb)
  have HI := Lib.hid (indexRel_any wb q rv 70 #[.pointer (some ⟨w.heap.size + 1, 0, none⟩)] (enters_of Try.func70 (by kernel_rfl) rfl) (fun x => decide (x.1.1 = n)) ((hq3.same (Same.below HX.out)).mono fun b hb => Nat.lt_of_lt_of_le hb HX.out.size) (fun i hi W hW => relIdx1 q[i] n _ W (HB.out.below hW)))
  have HQ := Lib.hid hq1
  have a1 := HA.out.cells
  have hmf : ∀ (fn : Fn) (first cap : Array Value) (w : World), (Instr.makeFunc fn first cap).run Try.prog w = .ok (.func fn first cap) w := fun _ _ _ _ => rfl
  obtain ⟨aor, nr, cr, rfl, -, -, -⟩ := hq3.len
  clear xa xb ea hq1 hq2 hq3 HA HB
  subst hwb hwa
  go_enter Try.func68, Try.ntmps68
  go_wp2_with fail
  refine HI.out.mono ?_
  rintro e w3 ⟨k, rfl, hk, hb3⟩
  have HK := Lib.hid (IdxP.map (f := fun x : (ByteArray × RT) × Value => x.1) (p := fun x : (ByteArray × RT) => decide (x.1 = n)) hk HQ.out)
  have HX3 := Lib.hid (show Ext w w3 from HX.out.trans hb3)
  clear hk hb3 HI a1
  go_wp2_with fail
  go_ret
  exact ⟨_, rfl, HK.out, HX3.out⟩

set_option maxRecDepth 100000 in
set_option maxHeartbeats 1000000 in
theorem tyIdx1 (x : TyS × Value) (n : ByteArray) (bs : Nat) (w : World) (hB : Blk w bs #[.string n] 9) : Calls Try.prog 44 #[tyV x, .pointer (some ⟨bs, 0, none⟩)] w fun e w' => e = .returned (.bool (decide (x.1.name = n))) ∧ Ext w w' := by
  obtain ⟨⟨tn, tr⟩, tv⟩ := x
  unfold tyV
  dsimp only [RT.k, RT.a, RT.b]
  have x1 := Ext.alloc w (.cells #[.string tn, tv] 49)
  have sb := (hB.below x1).cells
  have HX := Lib.hid x1
  clear x1 hB
  go_enter Try.func44, Try.ntmps44
  go_wp2_with fail
  go_ret
  exact ⟨by rw [← ba_dec]; rfl, HX.out⟩

set_option maxRecDepth 100000 in
set_option maxHeartbeats 1000000 in
theorem tyIdx_any (l : List TyS) (rv : Value) (n : ByteArray) (w : World) (h : TysAt (· < w.heap.size) w l rv) : Calls Try.prog 42 #[.agg #[rv], .string n] w fun e w' => ∃ k : Int, e = .returned (.int .i64 k) ∧ IdxP (fun x : TyS => decide (x.name = n)) l k ∧ Ext w w' := by
  obtain ⟨q, hq1, hq2, hq3⟩ := h
  obtain ⟨wa, hwa⟩ : ∃ x, x = w.alloc (.cells #[rv] 24) := ⟨_, rfl⟩
  obtain ⟨wb, hwb⟩ : ∃ x, x = wa.alloc (.cells #[.string n] 9) := ⟨_, rfl⟩
  have ea : wa.heap.size = w.heap.size + 1 := by rw [hwa]; simp
  have xa : Ext w wa := by rw [hwa]; exact Ext.alloc _ _
  have xb : Ext wa wb := by rw [hwb]; exact Ext.alloc _ _
  have HA := Lib.hid (show Blk wb w.heap.size #[rv] 24 from Blk.below (by rw [hwa]; exact Blk.made _ _ _) xb)
  have HB := Lib.hid (show Blk wb (w.heap.size + 1) #[.string n] 9 from by rw [hwb, ← ea]; exact Blk.made _ _ _)
  have HX := Lib.hid (xa.trans xb)
  have HI := Lib.hid (indexTy_any wb q rv 44 #[.pointer (some ⟨w.heap.size + 1, 0, none⟩)] (enters_of Try.func44 (by kernel_rfl) rfl) (fun x => decide (x.1.name = n)) ((hq3.same (Same.below HX.out)).mono fun b hb => Nat.lt_of_lt_of_le hb HX.out.size) (fun i hi W hW => tyIdx1 q[i] n _ W (HB.out.below hW)))
  have HQ := Lib.hid hq1
  have a1 := HA.out.cells
  have hmf : ∀ (fn : Fn) (first cap : Array Value) (w : World), (Instr.makeFunc fn first cap).run Try.prog w = .ok (.func fn first cap) w := fun _ _ _ _ => rfl
  obtain ⟨aor, nr, cr, rfl, -, -, -⟩ := hq3.len
  clear xa xb ea hq1 hq2 hq3 HA HB
  subst hwb hwa
  go_enter Try.func42, Try.ntmps42
  go_wp2_with fail
  refine HI.out.mono ?_
  rintro e w3 ⟨k, rfl, hk, hb3⟩
  have HK := Lib.hid (IdxP.map (f := fun x : TyS × Value => x.1) (p := fun x : TyS => decide (x.name = n)) hk HQ.out)
  have HX3 := Lib.hid (show Ext w w3 from HX.out.trans hb3)
  clear hk hb3 HI a1
  go_wp2_with fail
  go_ret
  exact ⟨_, rfl, HK.out, HX3.out⟩

end Go.Proofs.Ytipddhcfcehcaaa
