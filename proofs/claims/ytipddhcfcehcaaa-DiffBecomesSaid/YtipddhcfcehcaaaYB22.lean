/- Lemmas for the claim, no condition. -/
import Derived.Test.YtipddhcfcehcaaaYB21
import Derived.Test.YtipddhcfcehcaaaYB16
import Derived.Test.YtipddhcfcehcaaaYB17
import Derived.Test.YtipddhcfcehcaaaYB15
import Derived.Test.YtipddhcfcehcaaaYB18
import Derived.Test.YtipddhcfcehcaaaYB4
import Derived.Test.YtipddhcfcehcaaaYB10
import Derived.Test.YtipddhcfcehcaaaYB20
namespace Go.Proofs.Ytipddhcfcehcaaa
open Go Go.RowKit Go.Maps

theorem ch_eql (a b : Ch) (W : World) : (binOp BinOp.eql 63 (chV a) (chV b)).run Try.prog W = .ok (.bool (decide (a = b))) W := by
  obtain ⟨a0, a1, a2⟩ := a
  obtain ⟨b0, b1, b2⟩ := b
  unfold chV
  dsimp only
  go_simp
  simp only [ba_toList]
  by_cases h0 : a0 = b0 <;> by_cases h1 : a1 = b1 <;> by_cases h2 : a2 = b2 <;> simp [h0, h1, h2]
theorem ch_neq (a b : Ch) (W : World) : (binOp BinOp.neq 63 (chV a) (chV b)).run Try.prog W = .ok (.bool (decide (a ≠ b))) W := by
  obtain ⟨a0, a1, a2⟩ := a
  obtain ⟨b0, b1, b2⟩ := b
  unfold chV
  dsimp only
  go_simp
  simp only [ba_toList]
  by_cases h0 : a0 = b0 <;> by_cases h1 : a1 = b1 <;> by_cases h2 : a2 = b2 <;> simp [h0, h1, h2]
/-- A schema of a small bulk is not too great. -/
theorem SOk.bk {ts : List TyS} (h : schBk ts ≤ 1048576) (hok : ∀ t ∈ ts, t.Ok) : SOk ts := by
  have h1 := names_bk ts
  have h2 := schB_bk ts
  have h3 : ∀ l : List TyS, l.length ≤ sumN tyBk l := fun l => by
    induction l with
    | nil => simp
    | cons a l ih => rw [List.length_cons, sumN, tyBk_eq]; omega
  refine ⟨hok, by omega, sz_sch h, by omega, by omega, by have := h3 ts; unfold schBk at h; omega, fun t ht r hr => ?_⟩
  have k1 := sumN_mem tyBk ht
  have k2 := sumN_mem relBk hr
  have k3 := wt_bk r.2
  unfold schBk at h
  have k4 := tyBk_eq t
  have k5 := relBk_eq r
  omega
def txA : ByteArray := ⟨#[116, 121, 112, 101, 32, 100, 111, 99, 10, 97, 32, 61, 32, 116, 104, 105, 115]⟩
def txB : ByteArray := ⟨#[116, 121, 112, 101, 32, 100, 111, 99, 10, 98, 32, 61, 32, 116, 104, 105, 115]⟩
def itA : List PIt := [.ty docB, .rel ⟨#[97]⟩ ⟨#[116, 104, 105, 115]⟩ []]
def itB : List PIt := [.ty docB, .rel ⟨#[98]⟩ ⟨#[116, 104, 105, 115]⟩ []]
def lnA : List ByteArray := [⟨#[116, 121, 112, 101, 32, 100, 111, 99]⟩, ⟨#[97, 32, 61, 32, 116, 104, 105, 115]⟩]
def lnB : List ByteArray := [⟨#[116, 121, 112, 101, 32, 100, 111, 99]⟩, ⟨#[98, 32, 61, 32, 116, 104, 105, 115]⟩]
def tsA : List TyS := [⟨docB, [(⟨#[97]⟩, .mk 1 ⟨#[]⟩ ⟨#[]⟩ [])]⟩]
def tsB : List TyS := [⟨docB, [(⟨#[98]⟩, .mk 1 ⟨#[]⟩ ⟨#[]⟩ [])]⟩]
theorem linesA : linesD txA = lnA := by kernel_rfl
theorem linesB : linesD txB = lnB := by kernel_rfl
theorem stepA : itA.foldl stepD [] = tsA := by kernel_rfl
theorem stepB : itB.foldl stepD [] = tsB := by kernel_rfl
theorem lnsA : (lnA.zip itA).all (fun p => lnOkB p.1 p.2) = true := by kernel_rfl
theorem lnsB : (lnB.zip itB).all (fun p => lnOkB p.1 p.2) = true := by kernel_rfl
theorem fitsA : itA.all PIt.fitB = true := by kernel_rfl
theorem fitsB : itB.all PIt.fitB = true := by kernel_rfl
theorem chkA : chk06 tsA = 0 := by kernel_rfl
theorem chkB : chk06 tsB = 0 := by kernel_rfl
theorem okA : ∀ t ∈ tsA, t.Ok := by
  intro t ht
  obtain rfl := List.mem_singleton.1 ht
  refine ⟨by decide, fun r hr => ?_⟩
  obtain rfl := List.mem_singleton.1 hr
  exact ⟨by decide, by simp [RT.Ok, okL]; decide⟩
theorem okB : ∀ t ∈ tsB, t.Ok := by
  intro t ht
  obtain rfl := List.mem_singleton.1 ht
  refine ⟨by decide, fun r hr => ?_⟩
  obtain rfl := List.mem_singleton.1 hr
  exact ⟨by decide, by simp [RT.Ok, okL]; decide⟩
def cA : Ch := ⟨2, ⟨docB, ⟨#[97]⟩⟩⟩
def cB : Ch := ⟨1, ⟨docB, ⟨#[98]⟩⟩⟩
theorem diffAB : diffL tsA tsB = [cA, cB] := by kernel_rfl
theorem upAB : UpC [cA, cB] := by
  refine List.pairwise_cons.2 ⟨fun b hb => ?_, List.pairwise_singleton _ _⟩
  obtain rfl := List.mem_singleton.1 hb
  kernel_rfl

set_option maxRecDepth 100000 in
set_option maxHeartbeats 1000000 in
theorem fixed07_any (w : World) : Calls Try.prog 7 #[] w fun e w' => e = .returned (.bool true) ∧ Ext w w' := by
  have HPA := Lib.hid (parse_any txA itA w (by decide) (by rw [linesA]; rfl) (by rw [linesA]; exact lnsOk_of lnsA) (fits_of fitsA) (fun _ => ⟨docB, rfl⟩) (by decide))
  rw [stepA] at HPA
  unfold txA at HPA
  go_enter Try.func7, Try.ntmps7
  go_wp2_with fail
  refine HPA.out.mono ?_
  rintro e w1 ⟨tv, rfl, hty, hb1⟩
  obtain ⟨aot, ct, rfl, -, -, -⟩ := hty.rows
  have x12 := Ext.alloc w1 (.cells #[.slice aot tsA.length ct] 24)
  have HT2 := Lib.hid ((hty.mono (S' := (· < w1.heap.size)) fun b hb => hb.2).up x12)
  have HS2 := Lib.hid (Blk.made w1 #[.slice aot tsA.length ct] 24)
  have HX2 := Lib.hid (show Ext w _ from Ext.trans hb1 x12)
  have HPB := Lib.hid (parse_any txB itB (w1.alloc (.cells #[.slice aot tsA.length ct] 24)) (by decide) (by rw [linesB]; rfl) (by rw [linesB]; exact lnsOk_of lnsB) (fits_of fitsB) (fun _ => ⟨docB, rfl⟩) (by decide))
  rw [stepB] at HPB
  unfold txB at HPB
  clear hty hb1 HPA x12
  go_wp2_with fail
  refine HPB.out.mono ?_
  rintro e w3 ⟨uv, rfl, hty, hb3⟩
  obtain ⟨aou, cu, rfl, -, -, -⟩ := hty.rows
  have x34 := Ext.alloc w3 (.cells #[.slice aou tsB.length cu] 24)
  have HU4 := Lib.hid ((hty.mono (S' := (· < w3.heap.size)) fun b hb => hb.2).up x34)
  have HV4 := Lib.hid (Blk.made w3 #[.slice aou tsB.length cu] 24)
  have HT4 := Lib.hid (HT2.out.up (Ext.trans hb3 x34))
  have HS4 := Lib.hid (HS2.out.below (Ext.trans hb3 x34))
  have HX4 := Lib.hid (show Ext w _ from HX2.out.trans (Ext.trans hb3 x34))
  have HDF := Lib.hid (diff_ok tsA tsB _ _ _ HT4.out HU4.out (SOk.bk (by decide) okA) (SOk.bk (by decide) okB) chkA chkB)
  have s4 := HS4.out.cells
  have v4 := HV4.out.cells
  clear hty hb3 HPB x34 HT2 HS2 HX2
  go_wp2_with fail
  refine HDF.out.mono ?_
  rintro e w5 ⟨v5, cs, rfl, hup, hp, ho, hb5⟩
  obtain rfl : cs = [cA, cB] := hup.eq upAB fun x => by rw [hp.mem_iff, diffAB]
  have HX5 := Lib.hid (HX4.out.trans hb5)
  obtain ⟨ao5, n5, c5, rfl, h5, -, -⟩ := ho.sl.len
  obtain rfl : n5 = 2 := by
    have : (chcs [cA, cB]).length = 6 := rfl
    omega
  obtain ⟨ao', n', c', hv, -, -, -, -, hcl⟩ := ho.sl
  cases hv
  obtain ⟨b, off, rfl, -, hcl⟩ := hcl (by simp [chcs, chC])
  have d0 := hcl 0 _ rfl
  rw [Nat.add_zero] at d0
  have d1 := hcl 1 _ rfl
  have d2 := hcl 2 _ rfl
  have d3 := hcl 3 _ rfl
  have d4 := hcl 4 _ rfl
  have d5 := hcl 5 _ rfl
  have e1 := fun W => ch_eql cA cA W
  have e2 := fun W => ch_eql cB cB W
  unfold cA cB docB chV at *
  dsimp only at d0 d1 d2 d3 d4 d5 e1 e2
  clear s4 v4 HDF hup hp ho hb5 hcl h5
  go_wp2_with fail
  go_ret
  exact ⟨rfl, HX5.out⟩

end Go.Proofs.Ytipddhcfcehcaaa
namespace Go.Proofs.Ytipddhcfcehcaaa
open Go Go.RowKit Go.Maps

/-- What an index tells. -/
def IdxP {α : Type} (p : α → Bool) (l : List α) (k : Int) : Prop := (∃ (i : Nat) (hi : i < l.length), k = (i : Int) ∧ p l[i] = true) ∨ (k = -1 ∧ ∀ x ∈ l, p x = false)
theorem IdxP.map {α β : Type} {f : α → β} {p : β → Bool} {l : List α} {m : List β} {k : Int} (h : IdxP (fun x => p (f x)) l k) (hm : l.map f = m) : IdxP p m k := by
  subst hm
  rcases h with ⟨i, hi, rfl, hp⟩ | ⟨rfl, h⟩
  · exact .inl ⟨i, by rw [List.length_map]; exact hi, rfl, by rw [List.getElem_map]; exact hp⟩
  · refine .inr ⟨rfl, fun x hx => ?_⟩
    obtain ⟨a, ha, rfl⟩ := List.mem_map.1 hx
    exact h a ha
theorem ba_dec (a b : ByteArray) : (a.toList == b.toList) = decide (a = b) := by
  rw [Bool.eq_iff_iff, beq_iff_eq, decide_eq_true_eq, ba_toList]
def relV (x : (ByteArray × RT) × Value) : Value := .agg #[.string x.1.1, .int .i64 x.1.2.k, .string x.1.2.a, .string x.1.2.b, x.2]
def tyV (x : TyS × Value) : Value := .agg #[.string x.1.name, x.2]

set_option maxRecDepth 100000 in
set_option maxHeartbeats 1000000 in
theorem indexTy_any (w : World) (l : List (TyS × Value)) (lv : Value) (g : Nat) (cap : Array Value) (eg : ∀ args W, (callFunc g args).run Try.prog W = .ok (.enter g args) W) (p : TyS × Value → Bool) (hat : Sl (· < w.heap.size) w 2 lv (l.flatMap tyC)) (hf : ∀ i (hi : i < l.length) W, Ext w W → Calls Try.prog g (#[tyV l[i]] ++ cap) W fun e W' => e = .returned (.bool (p l[i])) ∧ Ext W W') :
    Calls Try.prog 43 #[lv, .func (.func g) #[] cap] w fun e w' => ∃ k : Int, e = .returned (.int .i64 k) ∧ IdxP p l k ∧ Ext w w' := by
  obtain ⟨ao, c, rfl, hlc, hcm, hcell⟩ := Sl.rows tyC_length (by decide) hat
  have HC := Lib.hid hcell
  have HF := Lib.hid hf
  clear hat hcell hf
  go_enter Try.func43, Try.ntmps43
  go_wp2_with fail
  go_loopw [5, 8] (fun _ ii wr => ∃ i : Nat, i ≤ l.length ∧ ii = .int .i64 i ∧ (∀ j (hj : j < l.length), j < i → p l[j] = false) ∧ Ext w wr) (fun _ ii _ => l.length - (intOf ii).toNat)
  case atStart => exact ⟨0, by omega, rfl, fun _ _ h => absurd h (by omega), Ext.refl _⟩
  case round =>
    obtain ⟨i, hi, rfl, hall, hbel⟩ := hrel
    have HALL := Lib.hid hall
    have HB := Lib.hid hbel
    clear hall
    by_cases hlt : i < l.length
    · have HUP := Lib.hid (fun h => upto_succ (p := fun j hj => p l[j] = false) HALL.out hlt h)
      have HAN := Lib.hid (fun (h : p l[i] = true) => (show IdxP p l (i : Int) from .inl ⟨i, hlt, rfl, h⟩))
      obtain ⟨b, off, rfl, hb, hc⟩ := HC.out (by omega)
      have d0 := hbel.cell (a := ⟨b, off + i * 2, none⟩) (hc i hlt 0 _ rfl)
      have d1 := hbel.cell (a := ⟨b, off + i * 2 + 1, none⟩) (hc i hlt 1 _ rfl)
      have HR := Lib.hid (HF.out i hlt wr hbel)
      generalize l[i] = t at *
      clear hc hbel
      obtain ⟨⟨tn, tr⟩, tv⟩ := t
      dsimp only [RT.k, RT.a, RT.b] at d0 d1
      unfold tyV at HR
      dsimp only [RT.k, RT.a, RT.b] at HR
      generalize p _ = pt at *
      cases pt with
      | true =>
        have HT := Lib.hid (HAN.out rfl)
        clear HUP HAN
        go_wp2_with fail
        refine HR.out.mono ?_
        rintro e w5 ⟨rfl, hb5⟩
        have HBE := Lib.hid (HB.out.trans hb5)
        clear HR hb5 d0 d1
        go_wp2_with fail
        go_ret
        exact ⟨_, rfl, HT.out, HBE.out⟩
      | false =>
        have HN := Lib.hid (HUP.out rfl)
        clear HUP HAN
        go_wp2_with fail
        refine HR.out.mono ?_
        rintro e w5 ⟨rfl, hb5⟩
        have HBE := Lib.hid (HB.out.trans hb5)
        clear HR hb5 d0 d1
        go_wp2_with fail
        go_roundw
        case rel => exact ⟨i + 1, by omega, by go_num, HN.out, HBE.out⟩
        case measure => simp [intOf]; omega
    · obtain rfl : i = l.length := by omega
      have HN := Lib.hid (show IdxP p l (-1) from .inr ⟨rfl, fun x hx => by
        obtain ⟨j, hj, rfl⟩ := List.getElem_of_mem hx
        exact HALL.out j hj hj⟩)
      clear hbel
      go_wp2_with fail
      go_ret
      exact ⟨_, rfl, HN.out, HB.out⟩

set_option maxRecDepth 100000 in
set_option maxHeartbeats 1000000 in
theorem indexRel_any (w : World) (l : List ((ByteArray × RT) × Value)) (lv : Value) (g : Nat) (cap : Array Value) (eg : ∀ args W, (callFunc g args).run Try.prog W = .ok (.enter g args) W) (p : (ByteArray × RT) × Value → Bool) (hat : Sl (· < w.heap.size) w 5 lv (l.flatMap relC)) (hf : ∀ i (hi : i < l.length) W, Ext w W → Calls Try.prog g (#[relV l[i]] ++ cap) W fun e W' => e = .returned (.bool (p l[i])) ∧ Ext W W') :
    Calls Try.prog 69 #[lv, .func (.func g) #[] cap] w fun e w' => ∃ k : Int, e = .returned (.int .i64 k) ∧ IdxP p l k ∧ Ext w w' := by
  obtain ⟨ao, c, rfl, hlc, hcm, hcell⟩ := Sl.rows relC_length (by decide) hat
  have HC := Lib.hid hcell
  have HF := Lib.hid hf
  clear hat hcell hf
  go_enter Try.func69, Try.ntmps69
  go_wp2_with fail
  go_loopw [5, 8] (fun _ ii wr => ∃ i : Nat, i ≤ l.length ∧ ii = .int .i64 i ∧ (∀ j (hj : j < l.length), j < i → p l[j] = false) ∧ Ext w wr) (fun _ ii _ => l.length - (intOf ii).toNat)
  case atStart => exact ⟨0, by omega, rfl, fun _ _ h => absurd h (by omega), Ext.refl _⟩
  case round =>
    obtain ⟨i, hi, rfl, hall, hbel⟩ := hrel
    have HALL := Lib.hid hall
    have HB := Lib.hid hbel
    clear hall
    by_cases hlt : i < l.length
    · have HUP := Lib.hid (fun h => upto_succ (p := fun j hj => p l[j] = false) HALL.out hlt h)
      have HAN := Lib.hid (fun (h : p l[i] = true) => (show IdxP p l (i : Int) from .inl ⟨i, hlt, rfl, h⟩))
      obtain ⟨b, off, rfl, hb, hc⟩ := HC.out (by omega)
      have d0 := hbel.cell (a := ⟨b, off + i * 5, none⟩) (hc i hlt 0 _ rfl)
      have d1 := hbel.cell (a := ⟨b, off + i * 5 + 1, none⟩) (hc i hlt 1 _ rfl)
      have d2 := hbel.cell (a := ⟨b, off + i * 5 + 2, none⟩) (hc i hlt 2 _ rfl)
      have d3 := hbel.cell (a := ⟨b, off + i * 5 + 3, none⟩) (hc i hlt 3 _ rfl)
      have d4 := hbel.cell (a := ⟨b, off + i * 5 + 4, none⟩) (hc i hlt 4 _ rfl)
      have HR := Lib.hid (HF.out i hlt wr hbel)
      generalize l[i] = t at *
      clear hc hbel
      obtain ⟨⟨rn, ⟨rk, ra, rb, rps⟩⟩, rv⟩ := t
      dsimp only [RT.k, RT.a, RT.b] at d0 d1 d2 d3 d4
      unfold relV at HR
      dsimp only [RT.k, RT.a, RT.b] at HR
      generalize p _ = pt at *
      cases pt with
      | true =>
        have HT := Lib.hid (HAN.out rfl)
        clear HUP HAN
        go_wp2_with fail
        refine HR.out.mono ?_
        rintro e w5 ⟨rfl, hb5⟩
        have HBE := Lib.hid (HB.out.trans hb5)
        clear HR hb5 d0 d1 d2 d3 d4
        go_wp2_with fail
        go_ret
        exact ⟨_, rfl, HT.out, HBE.out⟩
      | false =>
        have HN := Lib.hid (HUP.out rfl)
        clear HUP HAN
        go_wp2_with fail
        refine HR.out.mono ?_
        rintro e w5 ⟨rfl, hb5⟩
        have HBE := Lib.hid (HB.out.trans hb5)
        clear HR hb5 d0 d1 d2 d3 d4
        go_wp2_with fail
        go_roundw
        case rel => exact ⟨i + 1, by omega, by go_num, HN.out, HBE.out⟩
        case measure => simp [intOf]; omega
    · obtain rfl : i = l.length := by omega
      have HN := Lib.hid (show IdxP p l (-1) from .inr ⟨rfl, fun x hx => by
        obtain ⟨j, hj, rfl⟩ := List.getElem_of_mem hx
        exact HALL.out j hj hj⟩)
      clear hbel
      go_wp2_with fail
      go_ret
      exact ⟨_, rfl, HN.out, HB.out⟩

set_option maxRecDepth 100000 in
set_option maxHeartbeats 1000000 in
theorem relIdx1 (x : (ByteArray × RT) × Value) (n : ByteArray) (bs : Nat) (w : World) (hB : Blk w bs #[.string n] 9) : Calls Try.prog 70 #[relV x, .pointer (some ⟨bs, 0, none⟩)] w fun e w' => e = .returned (.bool (decide (x.1.1 = n))) ∧ Ext w w' := by
  obtain ⟨⟨rn, ⟨rk, ra, rb, rps⟩⟩, rv⟩ := x
  unfold relV
  dsimp only [RT.k, RT.a, RT.b]
  have x1 := Ext.alloc w (.cells #[.string rn, .int .i64 rk, .string ra, .string rb, rv] 82)
  have sb := (hB.below x1).cells
  have HX := Lib.hid x1
  clear x1 hB
  go_enter Try.func70, Try.ntmps70
  go_wp2_with fail
  go_ret
  exact ⟨by rw [← ba_dec]; rfl, HX.out⟩

set_option maxRecDepth 100000 in
set_option maxHeartbeats 1000000 in
theorem relIdx_any (l : List (ByteArray × RT)) (rv : Value) (nm : ByteArray) (n : ByteArray) (w : World) (h : RelsAt (· < w.heap.size) w l rv) : Calls Try.prog 68 #[.agg #[.string nm, rv], .string n] w fun e w' => ∃ k : Int, e = .returned (.int .i64 k) ∧ IdxP (fun x : (ByteArray × RT) => decide (x.1 = n)) l k ∧ Ext w w' := by
  obtain ⟨q, hq1, hq2, hq3⟩ := h
  obtain ⟨wa, hwa⟩ : ∃ x, x = w.alloc (.cells #[.string nm, rv] 49) := ⟨_, rfl⟩
  obtain ⟨wb, hwb⟩ : ∃ x, x = wa.alloc (.cells #[.string n] 9) := ⟨_, rfl⟩
  have ea : wa.heap.size = w.heap.size + 1 := by rw [hwa]; simp
  have xa : Ext w wa := by rw [hwa]; exact Ext.alloc _ _
  have xb : Ext wa wb := by rw [hwb]; exact Ext.alloc _ _
  have HA := Lib.hid (show Blk wb w.heap.size #[.string nm, rv] 49 from Blk.below (by rw [hwa]; exact Blk.made _ _ _) xb)
  have HB := Lib.hid (show Blk wb (w.heap.size + 1) #[.string n] 9 from by rw [hwb, ← ea]; exact Blk.made _ _ _)
  have HX := Lib.hid (xa.trans xb)
  have HI := Lib.hid (indexRel_any wb q rv 70 #[.pointer (some ⟨w.heap.size + 1, 0, none⟩)] (enters_of Try.func70 (by kernel_rfl) rfl) (fun x => decide (x.1.1 = n)) ((hq3.same (Same.below HX.out)).mono fun b hb => Nat.lt_of_lt_of_le hb HX.out.size) (fun i hi W hW => relIdx1 q[i] n _ W (HB.out.below hW)))
  have HQ := Lib.hid hq1
  have a1 := HA.out.cells
  have hmf : ∀ (fn : Fn) (first cap : Array Value) (w : World), (Instr.makeFunc fn first cap).run Try.prog w = .ok (.func fn first cap) w := fun _ _ _ _ => rfl
  obtain ⟨aor, nr, cr, rfl, -, -, -⟩ := hq3.len
  clear xa xb ea hq1 hq2 hq3 HA HB
  subst hwb hwa
  go_enter Try.func68, Try.ntmps68
  go_wp2_with fail
  refine HI.out.mono ?_
  rintro e w3 ⟨k, rfl, hk, hb3⟩
  have HK := Lib.hid (IdxP.map (f := fun x : (ByteArray × RT) × Value => x.1) (p := fun x : (ByteArray × RT) => decide (x.1 = n)) hk HQ.out)
  have HX3 := Lib.hid (show Ext w w3 from HX.out.trans hb3)
  clear hk hb3 HI a1
  go_wp2_with fail
  go_ret
  exact ⟨_, rfl, HK.out, HX3.out⟩

set_option maxRecDepth 100000 in
set_option maxHeartbeats 1000000 in
theorem tyIdx1 (x : TyS × Value) (n : ByteArray) (bs : Nat) (w : World) (hB : Blk w bs #[.string n] 9) : Calls Try.prog 44 #[tyV x, .pointer (some ⟨bs, 0, none⟩)] w fun e w' => e = .returned (.bool (decide (x.1.name = n))) ∧ Ext w w' := by
  obtain ⟨⟨tn, tr⟩, tv⟩ := x
  unfold tyV
  dsimp only [RT.k, RT.a, RT.b]
  have x1 := Ext.alloc w (.cells #[.string tn, tv] 49)
  have sb := (hB.below x1).cells
  have HX := Lib.hid x1
  clear x1 hB
  go_enter Try.func44, Try.ntmps44
  go_wp2_with fail
  go_ret
  exact ⟨by rw [← ba_dec]; rfl, HX.out⟩

set_option maxRecDepth 100000 in
set_option maxHeartbeats 1000000 in
theorem tyIdx_any (l : List TyS) (rv : Value) (n : ByteArray) (w : World) (h : TysAt (· < w.heap.size) w l rv) : Calls Try.prog 42 #[.agg #[rv], .string n] w fun e w' => ∃ k : Int, e = .returned (.int .i64 k) ∧ IdxP (fun x : TyS => decide (x.name = n)) l k ∧ Ext w w' := by
  obtain ⟨q, hq1, hq2, hq3⟩ := h
  obtain ⟨wa, hwa⟩ : ∃ x, x = w.alloc (.cells #[rv] 24) := ⟨_, rfl⟩
  obtain ⟨wb, hwb⟩ : ∃ x, x = wa.alloc (.cells #[.string n] 9) := ⟨_, rfl⟩
  have ea : wa.heap.size = w.heap.size + 1 := by rw [hwa]; simp
  have xa : Ext w wa := by rw [hwa]; exact Ext.alloc _ _
  have xb : Ext wa wb := by rw [hwb]; exact Ext.alloc _ _
  have HA := Lib.hid (show Blk wb w.heap.size #[rv] 24 from Blk.below (by rw [hwa]; exact Blk.made _ _ _) xb)
  have HB := Lib.hid (show Blk wb (w.heap.size + 1) #[.string n] 9 from by rw [hwb, ← ea]; exact Blk.made _ _ _)
  have HX := Lib.hid (xa.trans xb)
  have HI := Lib.hid (indexTy_any wb q rv 44 #[.pointer (some ⟨w.heap.size + 1, 0, none⟩)] (enters_of Try.func44 (by kernel_rfl) rfl) (fun x => decide (x.1.name = n)) ((hq3.same (Same.below HX.out)).mono fun b hb => Nat.lt_of_lt_of_le hb HX.out.size) (fun i hi W hW => tyIdx1 q[i] n _ W (HB.out.below hW)))
  have HQ := Lib.hid hq1
  have a1 := HA.out.cells
  have hmf : ∀ (fn : Fn) (first cap : Array Value) (w : World), (Instr.makeFunc fn first cap).run Try.prog w = .ok (.func fn first cap) w := fun _ _ _ _ => rfl
  obtain ⟨aor, nr, cr, rfl, -, -, -⟩ := hq3.len
  clear xa xb ea hq1 hq2 hq3 HA HB
  subst hwb hwa
  go_enter Try.func42, Try.ntmps42
  go_wp2_with fail
  refine HI.out.mono ?_
  rintro e w3 ⟨k, rfl, hk, hb3⟩
  have HK := Lib.hid (IdxP.map (f := fun x : TyS × Value => x.1) (p := fun x : TyS => decide (x.name = n)) hk HQ.out)
  have HX3 := Lib.hid (show Ext w w3 from HX.out.trans hb3)
  clear hk hb3 HI a1
  go_wp2_with fail
  go_ret
  exact ⟨_, rfl, HK.out, HX3.out⟩

end Go.Proofs.Ytipddhcfcehcaaa
namespace Go.Proofs.Ytipddhcfcehcaaa
open Go Go.RowKit Go.Maps

/-- A rule's parts as they come, in new memory. -/
structure CpI (lo : Nat) (w : World) (q : List (RT × Value)) (pv : Value) : Prop where
  row : Own w lo 72 4 pv (q.flatMap rC)
  parts : ∀ x ∈ q, RTAt (fun b => (lo ≤ b ∧ b < w.heap.size) ∧ pv.ownBlock ≠ some b) w x.1 x.2
theorem CpI.keep {lo : Nat} {w w' : World} {q : List (RT × Value)} {pv : Value} (h : CpI lo w q pv) (hk : Ext w w') : CpI lo w' q pv :=
  ⟨h.row.below hk, fun x hx => ((h.parts x hx).same fun b hb => hk.block b hb.1.2).mono fun b hb => ⟨⟨hb.1.1, Nat.lt_of_lt_of_le hb.1.2 hk.size⟩, hb.2⟩⟩
theorem CpI.add {lo n0 : Nat} {w w7 : World} {q : List (RT × Value)} {pv v7 v5 : Value} {r : RT} (h : CpI lo w q pv) (hk : ∀ b, b < w.heap.size → pv.ownBlock ≠ some b → w7.heap[b]? = w.heap[b]?) (hz : w.heap.size ≤ w7.heap.size)
    (ho : Own w7 lo 72 4 v7 (q.flatMap rC ++ rC (r, v5))) (hb : ∀ g, v7.ownBlock = some g → pv.ownBlock = some g ∨ w.heap.size ≤ g) (hr : RTAt (fun b => n0 ≤ b ∧ b < w.heap.size) w r v5) (hn0 : lo ≤ n0) (hpv : ∀ g, pv.ownBlock = some g → g < n0) :
    CpI lo w7 (q ++ [(r, v5)]) v7 := by
  have hm : ∀ b, ((lo ≤ b ∧ b < w.heap.size) ∧ pv.ownBlock ≠ some b) → ((lo ≤ b ∧ b < w7.heap.size) ∧ v7.ownBlock ≠ some b) := fun b hb' => ⟨⟨hb'.1.1, Nat.lt_of_lt_of_le hb'.1.2 hz⟩, fun e => by
    rcases hb b e with e | e
    · exact hb'.2 e
    · have := hb'.1.2; omega⟩
  refine ⟨by rw [List.flatMap_append]; simpa using ho, fun x hx => ?_⟩
  rcases List.mem_append.1 hx with hx | hx
  · exact ((h.parts x hx).same fun b hb' => hk b hb'.1.2 hb'.2).mono hm
  · obtain rfl := List.mem_singleton.1 hx
    have h2 : ∀ b, (n0 ≤ b ∧ b < w.heap.size) → ((lo ≤ b ∧ b < w.heap.size) ∧ pv.ownBlock ≠ some b) := fun b hb' => ⟨⟨Nat.le_trans hn0 hb'.1, hb'.2⟩, fun e => by have := hpv b e; omega⟩
    exact ((hr.mono h2).same fun b hb' => hk b hb'.1.2 hb'.2).mono hm
theorem szL_lenC : ∀ l : List RT, l.length ≤ szL l
  | [] => Nat.zero_le _
  | a :: l => by
    have h1 := szL_lenC l
    have h2 := a.sz_eq
    rw [szL, List.length_cons]
    omega

set_option maxRecDepth 100000 in
set_option maxHeartbeats 1000000 in
theorem copied_any (r : RT) : ∀ (pv : Value) (w : World), RTAt (· < w.heap.size) w r pv → r.sz ≤ 1000000 → Calls Try.prog 71 #[rV r pv] w fun e w' => ∃ pv', e = .returned (rV r pv') ∧ RTAt (fun b => w.heap.size ≤ b ∧ b < w'.heap.size) w' r pv' ∧ Ext w w' := by
  induction r using RT.ind with
  | h r ih =>
    intro pv w h hsz
    obtain ⟨k, a, b, ps⟩ := r
    have hsz' : szL ps ≤ 999999 := by have := (RT.mk k a b ps).sz_eq; dsimp only [RT.ps] at this; omega
    obtain ⟨ao, c, rfl, hc1, hc2, hrow⟩ := h.rows
    dsimp only [RT.ps] at hc1 hrow ih
    have HRW := Lib.hid hrow
    have HIH := Lib.hid (fun i (hi : i < ps.length) => ih ps[i] (List.getElem_mem hi))
    have HSZ := Lib.hid (fun i (hi : i < ps.length) => szL_mem (List.getElem_mem hi))
    have HPL := Lib.hid (show ps.length ≤ 999999 from Nat.le_trans (szL_lenC ps) hsz')
    have HS9 := Lib.hid hsz'
    unfold rV
    dsimp only [RT.k, RT.a, RT.b, RT.ps]
    obtain ⟨wa, hwa⟩ : ∃ x, x = w.alloc (.cells #[.int .i64 k, .string a, .string b, .slice ao ps.length c] 72) := ⟨_, rfl⟩
    obtain ⟨wb, hwb⟩ : ∃ x, x = wa.alloc (.cells #[.int .i64 0, .string ⟨#[]⟩, .string ⟨#[]⟩, .slice none 0 0] 72) := ⟨_, rfl⟩
    have ea : wa.heap.size = w.heap.size + 1 := by rw [hwa]; simp
    have eb : wb.heap.size = w.heap.size + 2 := by rw [hwb]; simp [ea]
    have xa : Ext w wa := by rw [hwa]; exact Ext.alloc _ _
    have xb : Ext wa wb := by rw [hwb]; exact Ext.alloc _ _
    have HA := Lib.hid (show Blk wb w.heap.size #[.int .i64 k, .string a, .string b, .slice ao ps.length c] 72 from Blk.below (by rw [hwa]; exact Blk.made _ _ _) xb)
    have HB := Lib.hid (show Blk wb (w.heap.size + 1) #[.int .i64 0, .string ⟨#[]⟩, .string ⟨#[]⟩, .slice none 0 0] 72 from by rw [hwb, ← ea]; exact Blk.made _ _ _)
    have HX := Lib.hid (xa.trans xb)
    have HEB := Lib.hid eb
    clear hrow ih hsz hsz' h xa xb ea eb
    subst hwb hwa
    go_enter Try.func71, Try.ntmps71
    go_wp2_with fail
    obtain ⟨wb, hwb⟩ : ∃ x, x = (w.alloc (.cells #[.int .i64 k, .string a, .string b, .slice ao ps.length c] 72)).alloc (.cells #[.int .i64 0, .string ⟨#[]⟩, .string ⟨#[]⟩, .slice none 0 0] 72) := ⟨_, rfl⟩
    rw [← hwb] at HA HB HX HEB ⊢
    clear hwb
    go_loopw [3, 9] (fun ov iv wr => ∃ (i : Nat) (q : List (RT × Value)), i ≤ ps.length ∧ iv = .int .i64 i ∧ q.map (·.1) = ps.take i ∧ CpI (w.heap.size + 2) wr q ov ∧ Ext wb wr) (fun _ iv _ => ps.length - (intOf iv).toNat)
    case atStart => exact ⟨0, [], by omega, rfl, rfl, ⟨Own.nil _ _ _ _, by simp⟩, Ext.refl _⟩
    case round =>
      obtain ⟨i, q, hi, rfl, hq, hcp, hext⟩ := hrel
      have HQ := Lib.hid hq
      have HCP := Lib.hid hcp
      have HE := Lib.hid hext
      have HXW := Lib.hid (show Ext w wr from HX.out.trans hext)
      obtain ⟨aov, kv, cv, rfl, -, -, -⟩ := hcp.row.sl.len
      have HPO := Lib.hid (show ∀ g, Value.ownBlock (.slice aov kv cv) = some g → w.heap.size + 2 ≤ g ∧ g < wr.heap.size from hcp.row.block)
      have HZ := Lib.hid (show w.heap.size + 2 ≤ wr.heap.size from by have := HEB.out; have := hext.size; omega)
      clear hq hcp
      by_cases hlt : i < ps.length
      · obtain ⟨bb, off, rv, rfl, hbb, d0, d1, d2, d3, hat⟩ := HRW.out i hlt
        have d0 := HXW.out.cell (a := ⟨bb, off + i * 4, none⟩) d0
        have d1 := HXW.out.cell (a := ⟨bb, off + i * 4 + 1, none⟩) d1
        have d2 := HXW.out.cell (a := ⟨bb, off + i * 4 + 2, none⟩) d2
        have d3 := HXW.out.cell (a := ⟨bb, off + i * 4 + 3, none⟩) d3
        have HTK := Lib.hid (show ps.take (i + 1) = ps.take i ++ [ps[i]] from List.take_succ_eq_append_getElem hlt)
        have HLQ := Lib.hid (show q.length ≤ 999999 from by have := congrArg List.length HQ.out; rw [List.length_map, List.length_take] at this; have := HPL.out; omega)
        have HC0 := HIH.out i hlt
        have HS0 := Lib.hid (HSZ.out i hlt)
        generalize ps[i] = p at *
        obtain ⟨aor, cr, rfl, -, -, -⟩ := hat.rows
        obtain ⟨wp, hwp⟩ : ∃ x, x = wr.alloc (.cells #[.int .i64 p.k, .string p.a, .string p.b, .slice aor p.ps.length cr] 72) := ⟨_, rfl⟩
        have xp : Ext wr wp := by rw [hwp]; exact Ext.alloc _ _
        have pb := (show Blk wp wr.heap.size #[.int .i64 p.k, .string p.a, .string p.b, .slice aor p.ps.length cr] 72 from by rw [hwp]; exact Blk.made _ _ _).cells
        have HXP := Lib.hid (show Ext w wp from HXW.out.trans xp)
        have HCQ := Lib.hid (HCP.out.keep xp)
        have HEP := Lib.hid (show Ext wb wp from hext.trans xp)
        have HZP := Lib.hid (show wr.heap.size < wp.heap.size from by rw [hwp]; simp)
        have HC1 := Lib.hid (HC0 (.slice aor p.ps.length cr) wp (hat.up HXP.out) (by have := HS0.out; have := HS9.out; omega))
        unfold rV at HC1
        clear HC0 hat xp hext HCP HE
        subst hwp
        go_wp2_with fail
        refine HC1.out.mono ?_
        rintro e w5 ⟨v5, rfl, hat5, hb5⟩
        generalize wr.alloc (.cells #[.int .i64 p.k, .string p.a, .string p.b, .slice aor p.ps.length cr] 72) = wp at *
        obtain ⟨ao5, c5, rfl, -, -, -⟩ := hat5.rows
        have HC5 := Lib.hid (HCQ.out.keep hb5)
        have HX5 := Lib.hid (show Ext w w5 from HXP.out.trans hb5)
        have HE5 := Lib.hid (show Ext wb w5 from HEP.out.trans hb5)
        have HAT := Lib.hid hat5
        have HZ5 := Lib.hid (show w.heap.size + 2 ≤ w5.heap.size ∧ wr.heap.size < w5.heap.size ∧ w.heap.size + 2 ≤ wp.heap.size from by have := hb5.size; have := HZP.out; have := HZ.out; omega)
        have X56 := Lib.hid (Ext.alloc w5 (.cells #[.int .i64 p.k, .string p.a, .string p.b, .slice ao5 p.ps.length c5] 72))
        clear hat5 hb5 HXP HEP HCQ HC1 d0 d1 d2 d3 pb
        go_wp2_with (at_builtin; go_must (refine wpList_ownw ruleT rfl (.tmp 13) (.tmp 16) rfl rfl (HC5.out.row.below X56.out) rfl (m := 1) (news := [.int .i64 p.k, .string p.a, .string p.b, .slice ao5 p.ps.length c5]) rfl (by intro j u hu; rw [Addr.add_lit, cell_of_row _ w5.heap.size (0 + j) #[.int .i64 p.k, .string p.a, .string p.b, .slice ao5 p.ps.length c5] 72 (0, 0) (heap_alloc_new w5 _)]; simpa using hu) (by simp [Value.oneCell']) (by have := HLQ.out; rw [flat_length rC_length]; simp; omega) (by have := HLQ.out; rw [flat_length rC_length]; simp; omega) (by have := HZ5.out; have := X56.out.size; omega) ?_; intro v7 w7 hown7 hb7 hgr7; have hk57 : ∀ b, b < w5.heap.size → Value.ownBlock (.slice aov kv cv) ≠ some b → w7.heap[b]? = w5.heap[b]? := (fun b h1 h2 => (hgr7.block b (Nat.lt_of_lt_of_le h1 X56.out.size) (fun e => h2 e.symm)).trans (X56.out.block b h1)); have HADD := Lib.hid (HC5.out.add (n0 := wp.heap.size) (r := p) (v5 := .slice ao5 p.ps.length c5) hk57 (Nat.le_trans X56.out.size hgr7.size) hown7 (fun g hg => (hb7 g hg).imp id (fun h => Nat.le_trans X56.out.size h)) HAT.out HZ5.out.2.2 (fun g hg => by have := (HPO.out g hg).2; have := HZP.out; omega)); have HE7 := Lib.hid (show Ext wb w7 from ⟨(hgr7.os.trans X56.out.os).trans HE5.out.os, (hgr7.tape.trans X56.out.tape).trans HE5.out.tape, (hgr7.output.trans X56.out.output).trans HE5.out.output, Nat.le_trans HE5.out.size (Nat.le_trans X56.out.size hgr7.size), fun b hb => (hk57 b (Nat.lt_of_lt_of_le hb HE5.out.size) (fun e => by have := (HPO.out b e).1; have := HEB.out; omega)).trans (HE5.out.block b hb)⟩); clear hown7 hb7 hgr7 hk57))
        go_roundw
        case rel => exact ⟨i + 1, q ++ [(p, .slice ao5 p.ps.length c5)], by omega, by go_num, by rw [List.map_append, HQ.out, HTK.out]; rfl, HADD.out, HE7.out⟩
        case measure => simp [intOf]; omega
      · obtain rfl : i = ps.length := by omega
        have HAR := Lib.hid (HA.out.below hext)
        have HBR := Lib.hid (HB.out.below hext)
        have ha := HAR.out.cells
        have hfa := HAR.out.free
        have hb := HBR.out.cells
        have hfb := HBR.out.free
        clear hext
        go_wp2_with fail
        clear ha hfa hb hfb
        have hks : Kept (fun b => b ≠ w.heap.size ∧ b ≠ w.heap.size + 1) wr (((((wr.setCell ⟨w.heap.size, 3, none⟩ (.slice aov kv cv)).setCell ⟨w.heap.size + 1, 0, none⟩ (.int .i64 k)).setCell ⟨w.heap.size + 1, 1, none⟩ (.string a)).setCell ⟨w.heap.size + 1, 2, none⟩ (.string b)).setCell ⟨w.heap.size + 1, 3, none⟩ (.slice aov kv cv)) := ((Kept.refl _ wr).set (a := ⟨w.heap.size, 3, none⟩) (fun h => h.1 rfl) _).set4 (B := w.heap.size + 1) (fun h => h.2 rfl) _ _ _ _
        refine bodyPost_ret (results_cell_row rfl _ _ (w.heap.size + 1) 72 #[.int .i64 k, .string a, .string b, .slice aov kv cv] (0, 0) _ rfl ((HBR.out.other (a := ⟨w.heap.size, 3, none⟩) (show w.heap.size + 1 ≠ w.heap.size by omega) _).set4 _ _ _ _) Try.underlying72 rfl (by kernel_rfl)) rfl ?_
        refine ⟨.slice aov kv cv, rfl, (RTAt.iff _ _).2 ⟨q, by rw [HQ.out, List.take_length]; rfl, fun x hx => ?_, ?_⟩, Below.trans HXW.out (hks.below fun b (hb : b < w.heap.size) => (⟨by omega, by omega⟩ : b ≠ w.heap.size ∧ b ≠ w.heap.size + 1))⟩
        · exact ((HCP.out.parts x hx).same fun b hb => hks.block b ⟨by have := hb.1.1; omega, by have := hb.1.1; omega⟩).mono fun b hb => ⟨by have := hb.1.1; omega, Nat.lt_of_lt_of_le hb.1.2 hks.size⟩
        · exact (HCP.out.row.sl.same fun b hb => hks.block b ⟨by have := hb.1; omega, by have := hb.1; omega⟩).mono fun b hb => ⟨by have := hb.1; omega, Nat.lt_of_lt_of_le hb.2 hks.size⟩

end Go.Proofs.Ytipddhcfcehcaaa
