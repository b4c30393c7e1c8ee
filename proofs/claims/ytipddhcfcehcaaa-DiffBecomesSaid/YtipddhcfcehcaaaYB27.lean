/- Lemmas for the claim, no condition. -/
import Derived.Test.YtipddhcfcehcaaaYB22
import Derived.Test.YtipddhcfcehcaaaYB16
import Derived.Test.YtipddhcfcehcaaaYB17
import Derived.Test.YtipddhcfcehcaaaYB15
import Derived.Test.YtipddhcfcehcaaaYB18
import Derived.Test.YtipddhcfcehcaaaYB4
import Derived.Test.YtipddhcfcehcaaaYB10
import Derived.Test.YtipddhcfcehcaaaYB23
import Derived.Test.YtipddhcfcehcaaaYB24
import Derived.Test.YtipddhcfcehcaaaYB25
import Derived.Test.YtipddhcfcehcaaaYB26
namespace Go.Proofs.Ytipddhcfcehcaaa
open Go Go.RowKit Go.Maps

theorem Kept.cell {K : Nat → Prop} {w w' : World} (h : Kept K w w') {a : Addr} (hb : K a.block) {v : Value} (hc : w.cell? a = some v) : w'.cell? a = some v := (World.cell?_of_block (h.block _ hb)).trans hc
/-- A type's relations' names, as they lie. -/
def RelRow (S : Nat → Prop) (w : World) (m b off : Nat) : Prop := S b ∧ ∀ j, j < m → ∃ rn : ByteArray, w.cell? ⟨b, off + j * 5, none⟩ = some (.string rn) ∧ rn.size ≤ maxLen
/-- Types, as they lie: names, and relations' names. -/
def TyRow (S : Nat → Prop) (w : World) (n b off : Nat) : Prop := S b ∧ ∀ i, i < n → ∃ (nm : ByteArray) (b2 off2 m c2 : Nat), w.cell? ⟨b, off + i * 2, none⟩ = some (.string nm) ∧ w.cell? ⟨b, off + i * 2 + 1, none⟩ = some (.slice (some ⟨b2, off2, none⟩) m c2) ∧ nm.size ≤ maxLen ∧ 1 ≤ m ∧ m ≤ 1000 ∧ RelRow S w m b2 off2
theorem TysAt.row {S : Nat → Prop} {w : World} {ts : List TyS} {tv : Value} (h : TysAt S w ts tv) (hok : ∀ t ∈ ts, t.Ok) (hn : 1 ≤ ts.length) (hr : ∀ t ∈ ts, 1 ≤ t.rels.length ∧ t.rels.length ≤ 1000) : ∃ b off c, tv = .slice (some ⟨b, off, none⟩) ts.length c ∧ TyRow S w ts.length b off := by
  obtain ⟨ao, c, rfl, -, -, hc⟩ := h.rows
  obtain ⟨b, off, -, rfl, hb, -⟩ := hc 0 hn
  refine ⟨b, off, c, rfl, hb, fun i hi => ?_⟩
  obtain ⟨b', off', pv, e, -, c0, c1, hrel⟩ := hc i hi
  cases e
  obtain ⟨ao2, c2, rfl, -, -, hq⟩ := hrel.rows
  have hm := hr _ (List.getElem_mem hi)
  obtain ⟨b2, off2, -, rfl, hb2, -⟩ := hq 0 hm.1
  have ho := hok _ (List.getElem_mem hi)
  refine ⟨_, b2, off2, _, c2, c0, c1, Nat.le_trans ho.1 (by decide), hm.1, hm.2, hb2, fun j hj => ?_⟩
  obtain ⟨b3, off3, pv3, e, -, d0, -⟩ := hq j hj
  cases e
  exact ⟨_, d0, Nat.le_trans (ho.2 _ (List.getElem_mem hj)).1 (by decide)⟩
/-- Where Tuple stands. -/
structure TuS (w W : World) (tp n b off c : Nat) : Prop where
  X : KT tp w W
  T : Tp W tp
  B3 : Blk W w.heap.size #[.slice (some ⟨b, off, none⟩) n c] 24
  B4 : Blk W (w.heap.size + 1) #[.string ⟨#[]⟩, .string ⟨#[]⟩, .string ⟨#[]⟩, .string ⟨#[]⟩, .string ⟨#[]⟩, .string ⟨#[]⟩] 35
  B5 : ∃ s0 s1 s2 s3 s4 s5 : ByteArray, (s0.size ≤ maxLen ∧ s1.size ≤ maxLen ∧ s2.size ≤ maxLen ∧ s3.size ≤ maxLen ∧ s4.size ≤ maxLen ∧ s5.size ≤ maxLen) ∧ Blk W (w.heap.size + 1 + 1) #[.string s0, .string s1, .string s2, .string s3, .string s4, .string s5] 35
  B6 : Blk W (w.heap.size + 1 + 1 + 1) #[.string ⟨#[49]⟩, .string ⟨#[50]⟩, .string ⟨#[51]⟩] 9
theorem TuS.up {w W W' : World} {tp n b off c : Nat} (h : TuS w W tp n b off c) (hk : KT tp W W') (ht : Tp W' tp) (hl : tp < w.heap.size) : TuS w W' tp n b off c :=
  ⟨KT.trans h.X hk, ht, hk.blk h.B3 (by omega), hk.blk h.B4 (by omega), by
    obtain ⟨s0, s1, s2, s3, s4, s5, hs, hB⟩ := h.B5
    exact ⟨s0, s1, s2, s3, s4, s5, hs, hk.blk hB (by omega)⟩, hk.blk h.B6 (by omega)⟩
theorem TuS.put {w W : World} {tp n b off c : Nat} (h : TuS w W tp n b off c) (hl : tp < w.heap.size) (i : Nat) (s : ByteArray) (hi : i < 6) (hs : s.size ≤ maxLen) : TuS w (W.setCell ⟨(w.heap.size + 1 + 1), i, none⟩ (.string s)) tp n b off c := by
  obtain ⟨s0, s1, s2, s3, s4, s5, ⟨h0, h1, h2, h3, h4, h5⟩, hB⟩ := h.B5
  refine ⟨h.X.set (fun e => absurd e.1 (show ¬ (w.heap.size + 1 + 1 < w.heap.size) by omega)) _, h.T.kept (K := fun b => b ≠ w.heap.size + 1 + 1) ((Kept.refl _ W).set (fun e => e rfl) _) (fun b hb => by omega), h.B3.other (show w.heap.size ≠ w.heap.size + 1 + 1 by omega) _, h.B4.other (show w.heap.size + 1 ≠ w.heap.size + 1 + 1 by omega) _, ?_, h.B6.other (show w.heap.size + 1 + 1 + 1 ≠ w.heap.size + 1 + 1 by omega) _⟩
  match i, hi with
  | 0, _ => exact ⟨s, s1, s2, s3, s4, s5, ⟨hs, h1, h2, h3, h4, h5⟩, hB.set_to 0 _ rfl⟩
  | 1, _ => exact ⟨s0, s, s2, s3, s4, s5, ⟨h0, hs, h2, h3, h4, h5⟩, hB.set_to 1 _ rfl⟩
  | 2, _ => exact ⟨s0, s1, s, s3, s4, s5, ⟨h0, h1, hs, h3, h4, h5⟩, hB.set_to 2 _ rfl⟩
  | 3, _ => exact ⟨s0, s1, s2, s, s4, s5, ⟨h0, h1, h2, hs, h4, h5⟩, hB.set_to 3 _ rfl⟩
  | 4, _ => exact ⟨s0, s1, s2, s3, s, s5, ⟨h0, h1, h2, h3, hs, h5⟩, hB.set_to 4 _ rfl⟩
  | 5, _ => exact ⟨s0, s1, s2, s3, s4, s, ⟨h0, h1, h2, h3, h4, hs⟩, hB.set_to 5 _ rfl⟩
/-- A type in a cell of its own. -/
structure TyB (w W : World) (tp b7 b2 off2 m c2 : Nat) : Prop where
  lo : w.heap.size + 1 + 1 + 1 < b7
  B : ∃ nm : ByteArray, nm.size ≤ maxLen ∧ Blk W b7 #[.string nm, .slice (some ⟨b2, off2, none⟩) m c2] 49
  mm : 1 ≤ m ∧ m ≤ 1000
  R : RelRow (fun b => b < w.heap.size ∧ b ≠ tp) w m b2 off2
theorem TyB.up {w W W' : World} {tp b7 b2 off2 m c2 : Nat} (h : TyB w W tp b7 b2 off2 m c2) (hk : Kept (fun b => b < W.heap.size ∧ b ≠ tp ∧ b ≠ (w.heap.size + 1 + 1)) W W') (hl : tp < w.heap.size) : TyB w W' tp b7 b2 off2 m c2 := by
  obtain ⟨nm, hn, hB⟩ := h.B
  exact ⟨h.lo, ⟨nm, hn, Kept.blk hk hB ⟨hB.lt, by have := h.lo; omega, by have := h.lo; omega⟩⟩, h.mm, h.R⟩
end Go.Proofs.Ytipddhcfcehcaaa
namespace Go.Proofs.Ytipddhcfcehcaaa
open Go Go.RowKit Go.Maps

theorem FineS.sok {ts : List TyS} (h : FineS ts) : SOk ts := SOk.bk (by have := h.bk; omega) h.ok
end Go.Proofs.Ytipddhcfcehcaaa
namespace Go.Proofs.Ytipddhcfcehcaaa
open Go Go.RowKit Go.Maps

theorem snoc_ne {α : Type} (l : List α) (x : α) : l ≠ l ++ [x] := fun e => by
  have := congrArg List.length e
  simp at this
theorem diff_len_le (ts us : List TyS) : (diffL ts us).length ≤ ts.length + us.length + 2 * (refsOf ts).length + (refsOf us).length := by
  unfold diffL
  simp only [List.length_append]
  have h1 := without_len (ts := ts) (us := us) (k := 2)
  have h2 := without_len (ts := us) (us := ts) (k := 1)
  have h3 := chgL_le us (dL (refsOf ts))
  have h4 : (dL (refsOf ts)).length = (refsOf ts).length := by unfold dL; rw [List.length_map]
  omega
/-- Whatever two schemas lie there, Diff's answer is one. -/
theorem diff_fix {ts us : List TyS} {tv uv : Value} {w : World} {cs : List Ch} (ht : TysAt (· < w.heap.size) w ts tv) (hu : TysAt (· < w.heap.size) w us uv) (k1 : SOk ts) (k2 : SOk us) (h0 : chk06 ts = 0) (h1 : chk06 us = 0) (hc : UpC cs) (hp : cs.Perm (diffL ts us)) :
    ∀ W, Ext w W → Calls Try.prog 17 #[.agg #[tv], .agg #[uv]] W fun e W' => ∃ v, e = .returned (.tuple #[v, .int .i64 0]) ∧ Sl (· < W'.heap.size) W' 3 v (chcs cs) ∧ Ext W W' := fun W hW => by
  refine (diff_ok ts us tv uv W (ht.up hW) (hu.up hW) k1 k2 h0 h1).mono ?_
  rintro e W' ⟨v, ds, rfl, hd, hq, ho, hx⟩
  obtain rfl : ds = cs := UpC.eq hd hc fun x => by rw [hq.mem_iff, hp.mem_iff]
  exact ⟨v, rfl, ho.sl.mono fun b hb => hb.2, hx⟩

set_option maxRecDepth 100000 in
set_option maxHeartbeats 8000000 in
theorem becomesLaw_any (l l2 : List UInt8) (v v2 : Value) (c : Ch) (w : World) (h : Sl (· < w.heap.size) w 1 v (bc l)) (h2 : Sl (· < w.heap.size) w 1 v2 (bc l2)) : Calls Try.prog 6 #[v, v2, chV c] w fun e w' => e = .returned (.bool true) ∧ Below w.heap.size w w' := by
  obtain ⟨ck, ⟨ct, cr⟩⟩ := c
  unfold chV
  dsimp only
  obtain ⟨wc, hwc⟩ : ∃ x, x = w.alloc (.cells #[.int .i64 ck, .string ct, .string cr] 63) := ⟨_, rfl⟩
  have HXC := Lib.hid (show Ext w wc from by rw [hwc]; exact Ext.alloc _ _)
  have HCB := Lib.hid (show Blk wc w.heap.size #[.int .i64 ck, .string ct, .string cr] 63 from by rw [hwc]; exact Blk.made _ _ _)
  have HF := Lib.hid (fixed07_any wc)
  have HSL := Lib.hid h
  have HSL2 := Lib.hid h2
  obtain ⟨ao, ln, cc, rfl, hln, -, hcm⟩ := h.len
  rw [bc_length, Nat.mul_one] at hln
  subst hln
  obtain ⟨ao2, ln2, cc2, rfl, hln2, -, hcm2⟩ := h2.len
  rw [bc_length, Nat.mul_one] at hln2
  subst hln2
  clear h h2
  subst hwc
  go_enter Try.func6, Try.ntmps6
  go_wp2_with fail
  refine HF.out.mono ?_
  rintro e w1 ⟨rfl, hb1⟩
  have HB1 := Lib.hid (show Ext w w1 from HXC.out.trans hb1)
  have HC1 := Lib.hid (HCB.out.below hb1)
  clear hb1 HF HXC HCB
  by_cases hlen : (300 : Int) < (l.length : Int)
  · go_wp2_with fail
    go_ret
    exact ⟨rfl, HB1.out⟩
  by_cases hlen2 : (300 : Int) < (l2.length : Int)
  · go_wp2_with fail
    go_ret
    exact ⟨rfl, HB1.out⟩
  have hx12 := Ext.alloc w1 (.cells #[.slice ao l.length cc, .int .i64 0] 46)
  have HT2 := Lib.hid (show Tp (w1.alloc (.cells #[.slice ao l.length cc, .int .i64 0] 46)) w1.heap.size from ⟨_, l, 0, Nat.zero_le _, (HSL.out.same (Same.below (HB1.out.trans hx12))).mono fun b (hb : b < w.heap.size) => Nat.lt_of_lt_of_le hb HB1.out.size, Blk.made _ _ _⟩)
  have HMK := Lib.hid (mkSchema_any _ _ HT2.out)
  have HB2 := Lib.hid (show Ext w _ from HB1.out.trans hx12)
  have HC2 := Lib.hid (HC1.out.below hx12)
  clear hx12
  go_wp2_with fail
  refine HMK.out.mono ?_
  rintro e w3 ⟨ts, tv, rfl, hgs, hty, htp, hkt⟩
  have HFS := Lib.hid (GoodS.fine hgs)
  have h13 : Below w1.heap.size w1 w3 := Below.trans (Ext.alloc w1 (.cells #[.slice ao l.length cc, .int .i64 0] 46)) (hkt.below fun b hb => ⟨Nat.lt_of_lt_of_le hb (Ext.alloc w1 (.cells #[.slice ao l.length cc, .int .i64 0] 46)).size, by omega⟩)
  have HB3 := Lib.hid (show Ext w w3 from HB1.out.trans h13)
  have HC3 := Lib.hid (HC1.out.below h13)
  have HTY3 := Lib.hid (hty.mono (S' := (· < w3.heap.size)) fun b hb => hb.2)
  have HZ3 := Lib.hid (show w1.heap.size ≤ w3.heap.size from h13.size)
  clear hgs hty htp hkt HMK HT2 HB2 HB1 HSL HC1 HC2 h13 hlen
  have hx34 := Ext.alloc w3 (.cells #[.slice ao2 l2.length cc2, .int .i64 0] 46)
  have HT4 := Lib.hid (show Tp (w3.alloc (.cells #[.slice ao2 l2.length cc2, .int .i64 0] 46)) w3.heap.size from ⟨_, l2, 0, Nat.zero_le _, (HSL2.out.same (Same.below (HB3.out.trans hx34))).mono fun b (hb : b < w.heap.size) => Nat.lt_of_lt_of_le hb HB3.out.size, Blk.made _ _ _⟩)
  have HMK := Lib.hid (mkSchema_any _ _ HT4.out)
  clear hx34
  go_wp2_with fail
  refine HMK.out.mono ?_
  rintro e w5 ⟨us, uv, rfl, hgs, hty, htp, hkt⟩
  have HFU := Lib.hid (GoodS.fine hgs)
  have h35 : Ext w3 w5 := Below.trans (Ext.alloc w3 (.cells #[.slice ao2 l2.length cc2, .int .i64 0] 46)) (hkt.below fun b hb => ⟨Nat.lt_of_lt_of_le hb (Ext.alloc w3 (.cells #[.slice ao2 l2.length cc2, .int .i64 0] 46)).size, by omega⟩)
  have hty5 := hty.mono (S' := (· < w5.heap.size)) fun b hb => hb.2
  obtain ⟨aot, ct3, rfl, -, -, -⟩ := HTY3.out.rows
  obtain ⟨aou, cu, rfl, -, -, -⟩ := hty5.rows
  obtain ⟨w6, hw6⟩ : ∃ x, x = w5.alloc (.cells #[.slice aot ts.length ct3] 24) := ⟨_, rfl⟩
  obtain ⟨w7, hw7⟩ : ∃ x, x = w6.alloc (.cells #[.slice aou us.length cu] 24) := ⟨_, rfl⟩
  have x56 : Ext w5 w6 := by rw [hw6]; exact Ext.alloc _ _
  have x67 : Ext w6 w7 := by rw [hw7]; exact Ext.alloc _ _
  have e6 : w6.heap.size = w5.heap.size + 1 := by rw [hw6]; simp
  have HA7 := Lib.hid (show Blk w7 w5.heap.size #[.slice aot ts.length ct3] 24 from Blk.below (by rw [hw6]; exact Blk.made _ _ _) x67)
  have HU7 := Lib.hid (show Blk w7 (w5.heap.size + 1) #[.slice aou us.length cu] 24 from by rw [hw7, ← e6]; exact Blk.made _ _ _)
  have x57 : Ext w5 w7 := x56.trans x67
  have HC7 := Lib.hid (HC3.out.below (h35.trans x57))
  have HX7 := Lib.hid (show Ext w w7 from HB3.out.trans (h35.trans x57))
  have HT7 := Lib.hid (HTY3.out.up (h35.trans x57))
  have HV7 := Lib.hid (hty5.up x57)
  have HZ7 := Lib.hid (show w.heap.size ≤ w5.heap.size from Nat.le_trans HB3.out.size h35.size)
  have HD7 := Lib.hid (diff_ok ts us _ _ w7 HT7.out HV7.out HFS.out.sok HFU.out.sok HFS.out.chk HFU.out.chk)
  have a7 := HA7.out.cells
  have u7 := HU7.out.cells
  clear hgs hty htp hkt HMK HT4 HB3 HSL2 HC3 HTY3 h35 hty5 x56 x67 x57 e6 hlen2 HZ3
  subst hw7 hw6
  go_wp2_with fail
  generalize (w5.alloc (.cells #[.slice aot ts.length ct3] 24)).alloc (.cells #[.slice aou us.length cu] 24) = w7 at *
  generalize w5.heap.size = b7 at *
  refine HD7.out.mono ?_
  rintro e w8 ⟨v8, cs, rfl, hup, hpm, how, hb8⟩
  obtain ⟨ao8, n8, c8, rfl, hn8, -, -⟩ := how.sl.len
  obtain rfl : n8 = cs.length := by rw [chcs_length] at hn8; omega
  have HN8 := Lib.hid (And.intro hup hpm)
  have HA8 := Lib.hid (HA7.out.below hb8)
  have HU8 := Lib.hid (HU7.out.below hb8)
  have HC8 := Lib.hid (HC7.out.below hb8)
  have HX8 := Lib.hid (show Ext w w8 from HX7.out.trans hb8)
  have HT8 := Lib.hid (HT7.out.up hb8)
  have HV8 := Lib.hid (HV7.out.up hb8)
  have HL8 := Lib.hid (show Sl (· < w8.heap.size) w8 3 (.slice ao8 cs.length c8) (chcs cs) from how.sl.mono fun b hb => hb.2)
  have HDF := Lib.hid (diff_fix HT8.out HV8.out HFS.out.sok HFU.out.sok HFS.out.chk HFU.out.chk HN8.out.1 HN8.out.2)
  have HAP := Lib.hid (apply_ok ts us _ _ _ cs w8 HT8.out HV8.out HFS.out.sok HFU.out.sok (chk_uq HFS.out.chk) (chk_uq HFU.out.chk) HL8.out HDF.out)
  have a8 := HA8.out.cells
  have u8 := HU8.out.cells
  clear hup hpm how hb8 hn8 HA7 HU7 HC7 HX7 HT7 HV7 HD7 a7 u7
  go_wp2_with fail
  refine HAP.out.mono ?_
  rintro e w9 ⟨sv, rfl, hst, hb9⟩
  obtain ⟨aos, cs9, rfl, -, -, -⟩ := hst.rows
  obtain ⟨wa, hwa⟩ : ∃ x, x = w9.alloc (.cells #[.slice aos (appL ts us).length cs9] 24) := ⟨_, rfl⟩
  have x9a : Ext w9 wa := by rw [hwa]; exact Ext.alloc _ _
  have h8a : Ext w8 wa := Ext.trans hb9 x9a
  have HSa := Lib.hid (show Blk wa w9.heap.size #[.slice aos (appL ts us).length cs9] 24 from by rw [hwa]; exact Blk.made _ _ _)
  have HAa := Lib.hid (HA8.out.below h8a)
  have HUa := Lib.hid (HU8.out.below h8a)
  have HCa := Lib.hid (HC8.out.below h8a)
  have HXa := Lib.hid (show Ext w wa from HX8.out.trans h8a)
  have HTa := Lib.hid (HT8.out.up h8a)
  have HVa := Lib.hid (HV8.out.up h8a)
  have HLa := Lib.hid ((HL8.out.same (Same.below h8a)).mono (T := (· < wa.heap.size)) fun b (hb : b < w8.heap.size) => Nat.lt_of_lt_of_le hb h8a.size)
  have HPa := Lib.hid ((hst.mono (S' := (· < w9.heap.size)) fun b hb => hb.2).up x9a)
  have HDa := Lib.hid (diff_ok (appL ts us) us _ _ wa HPa.out HVa.out (app_sok HFS.out.chk HFU.out.chk (by have := HFU.out.bk; omega) HFU.out.ok) HFU.out.sok (app_chk HFS.out.chk HFU.out.chk) HFU.out.chk)
  have HLK := Lib.hid (app_like HFS.out.chk HFU.out.chk)
  have HCK := Lib.hid (app_chk HFS.out.chk HFU.out.chk)
  have sa := HSa.out.cells
  have ua := HUa.out.cells
  clear hst hb9 x9a h8a HA8 HU8 HC8 HX8 HT8 HV8 HL8 HDF HAP a8 u8
  subst hwa
  go_wp2_with fail
  generalize w9.alloc (.cells #[.slice aos (appL ts us).length cs9] 24) = wa at *
  generalize w9.heap.size = b9 at *
  generalize (appL ts us).length = nn at *
  refine HDa.out.mono ?_
  rintro e wb ⟨vb, csb, rfl, -, hpb, hob, hbb⟩
  have hcb : csb = [] := by rw [diff_like HLK.out HCK.out] at hpb; exact hpb.eq_nil
  subst hcb
  obtain ⟨aob, nb, cb, rfl, hnb, -, -⟩ := hob.sl.len
  have hnb : nb = 0 := by simp [chcs] at hnb; omega
  subst hnb
  have HAb := Lib.hid (HAa.out.below hbb)
  have HUb := Lib.hid (HUa.out.below hbb)
  have HCb := Lib.hid (HCa.out.below hbb)
  have HXb := Lib.hid (show Ext w wb from HXa.out.trans hbb)
  have HTb := Lib.hid (HTa.out.up hbb)
  have HVb := Lib.hid (HVa.out.up hbb)
  have HLb := Lib.hid ((HLa.out.same (Same.below hbb)).mono (T := (· < wb.heap.size)) fun b (hb : b < wa.heap.size) => Nat.lt_of_lt_of_le hb hbb.size)
  clear hpb hob hbb hnb HAa HUa HCa HXa HTa HVa HLa HPa HDa sa ua HSa HLK HCK
  go_wp2_with fail
  obtain ⟨wd, hwd⟩ : ∃ wd, wd = wb.drew := ⟨_, rfl⟩
  have hbd : Ext wb wd := by rw [hwd]; exact Ext.drew wb
  have hE := Lib.hid (Ext.refl wd)
  have HAd := Lib.hid (HAb.out.below hbd)
  have HUd := Lib.hid (HUb.out.below hbd)
  have HCd := Lib.hid (HCb.out.below hbd)
  have HXd := Lib.hid (show Ext w wd from HXb.out.trans hbd)
  have HTd := Lib.hid (HTb.out.up hbd)
  have HVd := Lib.hid (HVb.out.up hbd)
  have HLd := Lib.hid ((HLb.out.same (Same.below hbd)).mono (T := (· < wd.heap.size)) fun b (hb : b < wb.heap.size) => Nat.lt_of_lt_of_le hb hbd.size)
  have HLC := Lib.hid (show cs.length ≤ 100000000 from by
    have h0 := HN8.out.2.length_eq
    have h1 := diff_len_le ts us
    have h2 := HFS.out.sok.lr
    have h3 := HFU.out.sok.lr
    have h4 := HFS.out.sok.tl
    have h5 := HFU.out.sok.tl
    omega)
  have HDA := Lib.hid (diff_fix HTd.out HVd.out HFS.out.sok HFU.out.sok HFS.out.chk HFU.out.chk HN8.out.1 HN8.out.2)
  clear hbd HAb HUb HCb HXb HTb HVb HLb
  refine region_walkN (Ext wd) (by rw [← hwd]; exact Ext.refl _) (by kernel_rfl) (by kernel_rfl) (fun _ _ d _ _ h => by cases d <;> exact h) ?_
  rw [← hwd]
  have g7 : ∀ W, Ext wd W → W.cell? ⟨b7, 0, none⟩ = some (.slice aot ts.length ct3) := fun W h => h.cell (a := ⟨b7, 0, none⟩) (HAd.out.cells 0)
  have g8 : ∀ W, Ext wd W → W.cell? ⟨b7 + 1, 0, none⟩ = some (.slice aou us.length cu) := fun W h => h.cell (a := ⟨b7 + 1, 0, none⟩) (HUd.out.cells 0)
  have gc : ∀ W, Ext wd W → ∀ i, W.cell? ⟨w.heap.size, i, none⟩ = (#[.int .i64 ck, .string ct, .string cr] : Array Value)[i]? := fun W h => (HCd.out.below h).cells
  clear hwd
  ((refine WalkN.take 0 _ ?_ (by simp only [List.getElem?_toArray, List.getElem?_cons_zero]; rfl) (by kernel_rfl) (by kernel_rfl) (by rfl) (fun W hW => ?_) ?_; rotate_left; · (go_simp; try with_reducible rfl)); simp only [Act.put, List.setIfInBounds_toArray, List.set_cons_zero, List.set_cons_succ]); ((refine WalkN.take 2 _ ?_ (by simp only [List.getElem?_toArray, List.getElem?_cons_succ, List.getElem?_cons_zero]; rfl) (by kernel_rfl) (by kernel_rfl) (by rfl) (fun W hW => ?_) ?_; rotate_left; · (go_simp; try with_reducible rfl)); simp only [Act.put, List.setIfInBounds_toArray, List.set_cons_zero, List.set_cons_succ]); ((refine WalkN.take 4 _ ?_ (by simp only [List.getElem?_toArray, List.getElem?_cons_succ, List.getElem?_cons_zero]; rfl) (by kernel_rfl) (by kernel_rfl) (by rfl) (fun W hW => ?_) ?_; rotate_left; · (go_simp; try with_reducible rfl)); simp only [Act.put, List.setIfInBounds_toArray, List.set_cons_zero, List.set_cons_succ]); ((refine WalkN.take 7 _ ?_ (by simp only [List.getElem?_toArray, List.getElem?_cons_succ, List.getElem?_cons_zero]; rfl) (by kernel_rfl) (by kernel_rfl) (by rfl) (fun W hW => ?_) ?_; rotate_left; · (go_simp; try with_reducible rfl)); simp only [Act.put, List.setIfInBounds_toArray, List.set_cons_zero, List.set_cons_succ])
  clear g7 g8 gc
  refine WalkN.three 1 5 12 (by kernel_rfl) ?_ ?_ ?_
  · refine ⟨_, (by simp only [List.getElem?_toArray, List.getElem?_cons_succ, List.getElem?_cons_zero]; rfl), by rfl, fun K hK => ?_⟩
    go_simp
    obtain ⟨br, hbr⟩ : ∃ x, x = wd.heap.size := ⟨_, rfl⟩
    rw [← hbr]
    have hA0 := Ext.alloc wd (.cells #[] 63)
    have hO0 : Own (wd.alloc (.cells #[] 63)) wd.heap.size 63 3 (.slice (some ⟨br, 0, none⟩) 0 0) [] := by rw [hbr]; exact Own.made wd hE.out.size 63 3
    have hX0 := Ext.trans hE.out hA0
    have HRL := Lib.hid (show br < (wd.alloc (.cells #[] 63)).heap.size from by rw [hbr]; simp)
    refine hK.out _ _ hX0 ?_
    clear hK hbr hA0
    generalize wd.alloc (.cells #[] 63) = u1 at *
    have hE := Lib.hid hX0
    have HT := Lib.hid hO0
    clear hO0 hX0
    refine WalkN.three 3 5 12 (by kernel_rfl) ?_ ?_ ?_
    · refine ⟨_, (by simp only [List.getElem?_toArray, List.getElem?_cons_succ, List.getElem?_cons_zero]; rfl), by rfl, fun K hK => ?_⟩
      refine wp_own chT (.tmp 58) (.tmp 59) rfl rfl HT.out rfl (HLd.out.same (Same.below hE.out)) (chcs_one _) (by have := HLC.out; rw [chcs_length, List.length_nil]; omega) (by have := HLC.out; rw [chcs_length, List.length_nil]; omega) hE.out.size (fun v1 u2 hown hb hg => ?_)
      have hX1 : Ext wd u2 := Below.trans hE.out hb
      have hR1 := Nat.lt_of_lt_of_le HRL.out hg.size
      refine hK.out _ _ hX1 ?_
      clear hK
      simp only [Act.put, List.setIfInBounds_toArray, List.set_cons_zero, List.set_cons_succ]
      have hE := Lib.hid hX1
      have HT := Lib.hid hown
      have HRL := Lib.hid hR1
      clear hown hb hg hX1 hR1
      refine WalkN.two 5 12 (by kernel_rfl) ?_ ?_
      · refine ⟨_, (by simp only [List.getElem?_toArray, List.getElem?_cons_succ, List.getElem?_cons_zero]; rfl), by rfl, fun K hK => ?_⟩
        go_simp
        obtain ⟨bl, hbl⟩ : ∃ x, x = u2.heap.size := ⟨_, rfl⟩
        rw [← hbl]
        have hA2 := Ext.alloc u2 (.cells #[.int .i64 ck, .string ct, .string cr] 63)
        have hO2 : Sl (fun b => b = bl) (u2.alloc (.cells #[.int .i64 ck, .string ct, .string cr] 63)) 3 (.slice (some ⟨bl, 0, none⟩) 1 1) (chcs [⟨ck, ⟨ct, cr⟩⟩]) := by rw [hbl]; exact Sl.made u2 (fun b => b = u2.heap.size) 3 1 63 #[.int .i64 ck, .string ct, .string cr] rfl (by decide) rfl
        have hX2 := Ext.trans hE.out hA2
        have hT2 := HT.out.below hA2
        have hR2 := Nat.lt_of_lt_of_le HRL.out hA2.size
        have HN := Lib.hid (show br ≠ bl from by have := HRL.out; omega)
        have HDL := Lib.hid (show bl < (u2.alloc (.cells #[.int .i64 ck, .string ct, .string cr] 63)).heap.size from by rw [hbl]; simp)
        refine hK.out _ _ hX2 ?_
        clear hK hbl hA2
        generalize u2.alloc (.cells #[.int .i64 ck, .string ct, .string cr] 63) = u3 at *
        have hE := Lib.hid hX2
        have HD := Lib.hid hO2
        clear hO2 hX2
        have HT := Lib.hid hT2
        have HRL := Lib.hid hR2
        clear hT2 hR2
        refine WalkN.two 6 12 (by kernel_rfl) ?_ ?_
        · refine ⟨_, (by simp only [List.getElem?_toArray, List.getElem?_cons_succ, List.getElem?_cons_zero]; rfl), by rfl, fun K hK => ?_⟩
          refine wp_own chT (.tmp 60) (.tmp 62) rfl rfl HT.out rfl HD.out (chcs_one _) (by have := HLC.out; rw [List.nil_append, chcs_length, chcs_length]; simp; omega) (by have := HLC.out; rw [List.nil_append, chcs_length, chcs_length]; simp; omega) hE.out.size (fun v3 u4 hown hb hg => ?_)
          have hX3 : Ext wd u4 := Below.trans hE.out hb
          have HSA := Lib.hid (show Sl (· < u4.heap.size) u4 3 v3 (chcs (cs ++ [⟨ck, ⟨ct, cr⟩⟩])) from by
            have := hown.sl
            rw [List.nil_append, ← chcs_append] at this
            exact this.mono fun b hb => hb.2)
          have hL3 := Nat.lt_of_lt_of_le HDL.out hg.size
          have hR3 := Nat.lt_of_lt_of_le HRL.out hg.size
          have hD3 : Sl (fun b => b = bl) u4 3 (.slice none 0 0) [] := Sl.nil _ _ _
          refine hK.out _ _ hX3 ?_
          clear hK
          simp only [Act.put, List.setIfInBounds_toArray, List.set_cons_zero, List.set_cons_succ]
          have hE := Lib.hid hX3
          have HT := Lib.hid hown
          have HRL := Lib.hid hR3
          have HD := Lib.hid hD3
          have HDL := Lib.hid hL3
          clear hown hb hg hX3 hR3 hL3 hD3
          refine WalkN.two 8 12 (by kernel_rfl) ?_ ?_
          · refine ⟨_, (by simp only [List.getElem?_toArray, List.getElem?_cons_succ, List.getElem?_cons_zero]; rfl), by rfl, fun K hK => ?_⟩
            go_simp
            refine (apply_ne _ _ _ _ _ _ _ cs (cs ++ [⟨ck, ⟨ct, cr⟩⟩]) u4 HSA.out (snoc_ne cs _) (fun W hW => HDA.out W (hE.out.trans hW))).mono ?_
            rintro e u5 ⟨rfl, hb⟩
            have hX4 : Ext wd u5 := Ext.trans hE.out hb
            have hT4 := HT.out.below hb
            have hL4 := Nat.lt_of_lt_of_le HDL.out hb.size
            have hR4 := Nat.lt_of_lt_of_le HRL.out hb.size
            have hD4 : Sl (fun b => b = bl) u5 3 (.slice none 0 0) [] := Sl.nil _ _ _
            have hS4 := (HSA.out.same (Same.below hb)).mono (T := (· < u5.heap.size)) fun b (hb' : b < u4.heap.size) => Nat.lt_of_lt_of_le hb' hb.size
            refine hK.out _ _ hX4 ?_
            clear hK hb
            have hE := Lib.hid hX4
            have HT := Lib.hid hT4
            have HRL := Lib.hid hR4
            have HD := Lib.hid hD4
            have HDL := Lib.hid hL4
            have HSA := Lib.hid hS4
            clear hX4 hT4 hR4 hL4 hD4 hS4
            ((refine WalkN.take 9 _ ?_ (by simp only [List.getElem?_toArray, List.getElem?_cons_succ, List.getElem?_cons_zero]; rfl) (by kernel_rfl) (by kernel_rfl) (by rfl) (fun W hW => ?_) ?_; rotate_left; · (go_simp; try with_reducible rfl)); simp only [Act.put, List.setIfInBounds_toArray, List.set_cons_zero, List.set_cons_succ])
            ((refine WalkN.take 10 _ ?_ (by simp only [List.getElem?_toArray, List.getElem?_cons_succ, List.getElem?_cons_zero]; rfl) (by kernel_rfl) (by kernel_rfl) (by rfl) (fun W hW => ?_) ?_; rotate_left; · (go_simp; try with_reducible rfl)); simp only [Act.put, List.setIfInBounds_toArray, List.set_cons_zero, List.set_cons_succ])
            ((refine WalkN.take 11 _ ?_ (by simp only [List.getElem?_toArray, List.getElem?_cons_succ, List.getElem?_cons_zero]; rfl) (by kernel_rfl) (by kernel_rfl) (by rfl) (fun W hW => ?_) ?_; rotate_left; · (go_simp; try with_reducible rfl)); simp only [Act.put, List.setIfInBounds_toArray, List.set_cons_zero, List.set_cons_succ])
            refine WalkN.one 12 (by kernel_rfl) ?_
            refine ⟨_, (by simp only [List.getElem?_toArray, List.getElem?_cons_succ, List.getElem?_cons_zero]; rfl), by rfl, fun K hK => ?_⟩
            go_simp
            obtain ⟨bp, hbp⟩ : ∃ x, x = u5.heap.size := ⟨_, rfl⟩
            rw [← hbp]
            have hA5 := Ext.alloc u5 (.cells #[.slice none 0 0] 24)
            have hO5 : Blk (u5.alloc (.cells #[.slice none 0 0] 24)) bp #[.slice none 0 0] 24 := by rw [hbp]; exact Blk.made u5 _ _
            have hX5 := Ext.trans hE.out hA5
            have HPB := Lib.hid (show wd.heap.size ≤ bp from by have := hE.out.size; omega)
            have hT5 := HT.out.below hA5
            have hR5 := Nat.lt_of_lt_of_le HRL.out hA5.size
            have hD5 := HD.out.same (w' := u5.alloc (.cells #[.slice none 0 0] 24)) fun x hx => hA5.block x (by have := HDL.out; subst hx; exact this)
            have hL5 := Nat.lt_of_lt_of_le HDL.out hA5.size
            have hS5 := (HSA.out.same (Same.below hA5)).mono (T := (· < (u5.alloc (.cells #[.slice none 0 0] 24)).heap.size)) fun b (hb : b < u5.heap.size) => Nat.lt_of_lt_of_le hb hA5.size
            refine hK.out _ _ hX5 ?_
            clear hK hbp hA5
            generalize u5.alloc (.cells #[.slice none 0 0] 24) = u6 at *
            have hE := Lib.hid hX5
            have HP := Lib.hid hO5
            clear hO5 hX5
            have HT := Lib.hid hT5
            have HRL := Lib.hid hR5
            clear hT5 hR5
            have HD := Lib.hid hD5
            have HDL := Lib.hid hL5
            clear hD5 hL5
            have HSA := Lib.hid hS5
            clear hS5
            refine WalkN.one 13 (by kernel_rfl) ?_
            refine ⟨_, (by simp only [List.getElem?_toArray, List.getElem?_cons_succ, List.getElem?_cons_zero]; rfl), by rfl, fun K hK => ?_⟩
            have h6 := HP.out.cells
            have f6 := HP.out.free
            go_simp
            have hX6 : Below wd.heap.size wd (u6.setCell ⟨bp, 0, none⟩ (.slice none 0 0)) := Below.setCell hE.out HPB.out _
            refine hK.out _ _ hX6 ?_
            clear hK h6 f6
            generalize u6.setCell ⟨bp, 0, none⟩ (.slice none 0 0) = u7 at *
            have hE := Lib.hid (show Ext wd u7 from hX6)
            clear hX6
            ((refine WalkN.take 14 _ ?_ (by simp only [List.getElem?_toArray, List.getElem?_cons_succ, List.getElem?_cons_zero]; rfl) (by kernel_rfl) (by kernel_rfl) (by rfl) (fun W hW => ?_) ?_; rotate_left; · (go_simp; try with_reducible rfl)); simp only [Act.put, List.setIfInBounds_toArray, List.set_cons_zero, List.set_cons_succ])
            refine WalkN.done (by kernel_rfl) ?_
            have HA7 := Lib.hid (HAd.out.below hE.out)
            have HU7 := Lib.hid (HUd.out.below hE.out)
            have HX7 := Lib.hid (show Ext w u7 from HXd.out.trans hE.out)
            have HD7 := Lib.hid (diff_ok us ts _ _ u7 (HVd.out.up hE.out) (HTd.out.up hE.out) HFU.out.sok HFS.out.sok HFU.out.chk HFS.out.chk)
            have a7 := HA7.out.cells
            have u7 := HU7.out.cells
            clear HAd HUd HCd HXd HTd HVd HLd HDA HSA hE HT HD HP HRL HDL HN HPB
            go_wp2_with fail
            refine HD7.out.mono ?_
            rintro e w8 ⟨v9, cs9, rfl, -, hp9, ho9, hb9⟩
            obtain ⟨ao9, n9, c9, rfl, hn9, -, -⟩ := ho9.sl.len
            obtain rfl : n9 = cs.length := by
              have h1 := hp9.length_eq
              have h2 := HN8.out.2.length_eq
              have h3 := diff_len2 (Nms.plain HFS.out.chk) (Nms.plain HFU.out.chk)
              rw [chcs_length] at hn9
              omega
            have HX8 := Lib.hid (show Ext w w8 from HX7.out.trans hb9)
            clear hp9 ho9 hb9 hn9 HD7 a7 u7 HA7 HU7 HX7
            go_wp2_with fail
            go_ret
            exact ⟨rfl, HX8.out⟩
          · refine ⟨_, (by simp only [List.getElem?_toArray, List.getElem?_cons_succ, List.getElem?_cons_zero]; rfl), by rfl, fun K hK => ?_⟩
            go_simp
            obtain ⟨bp, hbp⟩ : ∃ x, x = u4.heap.size := ⟨_, rfl⟩
            rw [← hbp]
            have hA4 := Ext.alloc u4 (.cells #[.slice none 0 0] 24)
            have hO4 : Blk (u4.alloc (.cells #[.slice none 0 0] 24)) bp #[.slice none 0 0] 24 := by rw [hbp]; exact Blk.made u4 _ _
            have hX4 := Ext.trans hE.out hA4
            have HPB := Lib.hid (show wd.heap.size ≤ bp from by have := hE.out.size; omega)
            have hT4 := HT.out.below hA4
            have hR4 := Nat.lt_of_lt_of_le HRL.out hA4.size
            have hD4 := HD.out.same (w' := u4.alloc (.cells #[.slice none 0 0] 24)) fun x hx => hA4.block x (by have := HDL.out; subst hx; exact this)
            have hL4 := Nat.lt_of_lt_of_le HDL.out hA4.size
            have hS4 := (HSA.out.same (Same.below hA4)).mono (T := (· < (u4.alloc (.cells #[.slice none 0 0] 24)).heap.size)) fun b (hb : b < u4.heap.size) => Nat.lt_of_lt_of_le hb hA4.size
            refine hK.out _ _ hX4 ?_
            clear hK hbp hA4
            generalize u4.alloc (.cells #[.slice none 0 0] 24) = u5 at *
            have hE := Lib.hid hX4
            have HP := Lib.hid hO4
            clear hO4 hX4
            have HT := Lib.hid hT4
            have HRL := Lib.hid hR4
            clear hT4 hR4
            have HD := Lib.hid hD4
            have HDL := Lib.hid hL4
            clear hD4 hL4
            have HSA := Lib.hid hS4
            clear hS4
            refine WalkN.one 8 (by kernel_rfl) ?_
            refine ⟨_, (by simp only [List.getElem?_toArray, List.getElem?_cons_succ, List.getElem?_cons_zero]; rfl), by rfl, fun K hK => ?_⟩
            go_simp
            refine (apply_ne _ _ _ _ _ _ _ cs (cs ++ [⟨ck, ⟨ct, cr⟩⟩]) u5 HSA.out (snoc_ne cs _) (fun W hW => HDA.out W (hE.out.trans hW))).mono ?_
            rintro e u6 ⟨rfl, hb⟩
            have hX5 : Ext wd u6 := Ext.trans hE.out hb
            have hT5 := HT.out.below hb
            have hL5 := Nat.lt_of_lt_of_le HDL.out hb.size
            have hR5 := Nat.lt_of_lt_of_le HRL.out hb.size
            have hD5 : Sl (fun b => b = bl) u6 3 (.slice none 0 0) [] := Sl.nil _ _ _
            have hS5 := (HSA.out.same (Same.below hb)).mono (T := (· < u6.heap.size)) fun b (hb' : b < u5.heap.size) => Nat.lt_of_lt_of_le hb' hb.size
            have hP5 := HP.out.below hb
            refine hK.out _ _ hX5 ?_
            clear hK hb
            have hE := Lib.hid hX5
            have HT := Lib.hid hT5
            have HRL := Lib.hid hR5
            have HD := Lib.hid hD5
            have HDL := Lib.hid hL5
            have HSA := Lib.hid hS5
            have HP := Lib.hid hP5
            clear hP5
            clear hX5 hT5 hR5 hL5 hD5 hS5
            ((refine WalkN.take 9 _ ?_ (by simp only [List.getElem?_toArray, List.getElem?_cons_succ, List.getElem?_cons_zero]; rfl) (by kernel_rfl) (by kernel_rfl) (by rfl) (fun W hW => ?_) ?_; rotate_left; · (go_simp; try with_reducible rfl)); simp only [Act.put, List.setIfInBounds_toArray, List.set_cons_zero, List.set_cons_succ])
            ((refine WalkN.take 10 _ ?_ (by simp only [List.getElem?_toArray, List.getElem?_cons_succ, List.getElem?_cons_zero]; rfl) (by kernel_rfl) (by kernel_rfl) (by rfl) (fun W hW => ?_) ?_; rotate_left; · (go_simp; try with_reducible rfl)); simp only [Act.put, List.setIfInBounds_toArray, List.set_cons_zero, List.set_cons_succ])
            ((refine WalkN.take 11 _ ?_ (by simp only [List.getElem?_toArray, List.getElem?_cons_succ, List.getElem?_cons_zero]; rfl) (by kernel_rfl) (by kernel_rfl) (by rfl) (fun W hW => ?_) ?_; rotate_left; · (go_simp; try with_reducible rfl)); simp only [Act.put, List.setIfInBounds_toArray, List.set_cons_zero, List.set_cons_succ])
            refine WalkN.one 13 (by kernel_rfl) ?_
            refine ⟨_, (by simp only [List.getElem?_toArray, List.getElem?_cons_succ, List.getElem?_cons_zero]; rfl), by rfl, fun K hK => ?_⟩
            have h6 := HP.out.cells
            have f6 := HP.out.free
            go_simp
            have hX6 : Below wd.heap.size wd (u6.setCell ⟨bp, 0, none⟩ (.slice none 0 0)) := Below.setCell hE.out HPB.out _
            refine hK.out _ _ hX6 ?_
            clear hK h6 f6
            generalize u6.setCell ⟨bp, 0, none⟩ (.slice none 0 0) = u7 at *
            have hE := Lib.hid (show Ext wd u7 from hX6)
            clear hX6
            ((refine WalkN.take 14 _ ?_ (by simp only [List.getElem?_toArray, List.getElem?_cons_succ, List.getElem?_cons_zero]; rfl) (by kernel_rfl) (by kernel_rfl) (by rfl) (fun W hW => ?_) ?_; rotate_left; · (go_simp; try with_reducible rfl)); simp only [Act.put, List.setIfInBounds_toArray, List.set_cons_zero, List.set_cons_succ])
            refine WalkN.done (by kernel_rfl) ?_
            have HA7 := Lib.hid (HAd.out.below hE.out)
            have HU7 := Lib.hid (HUd.out.below hE.out)
            have HX7 := Lib.hid (show Ext w u7 from HXd.out.trans hE.out)
            have HD7 := Lib.hid (diff_ok us ts _ _ u7 (HVd.out.up hE.out) (HTd.out.up hE.out) HFU.out.sok HFS.out.sok HFU.out.chk HFS.out.chk)
            have a7 := HA7.out.cells
            have u7 := HU7.out.cells
            clear HAd HUd HCd HXd HTd HVd HLd HDA HSA hE HT HD HP HRL HDL HN HPB
            go_wp2_with fail
            refine HD7.out.mono ?_
            rintro e w8 ⟨v9, cs9, rfl, -, hp9, ho9, hb9⟩
            obtain ⟨ao9, n9, c9, rfl, hn9, -, -⟩ := ho9.sl.len
            obtain rfl : n9 = cs.length := by
              have h1 := hp9.length_eq
              have h2 := HN8.out.2.length_eq
              have h3 := diff_len2 (Nms.plain HFS.out.chk) (Nms.plain HFU.out.chk)
              rw [chcs_length] at hn9
              omega
            have HX8 := Lib.hid (show Ext w w8 from HX7.out.trans hb9)
            clear hp9 ho9 hb9 hn9 HD7 a7 u7 HA7 HU7 HX7
            go_wp2_with fail
            go_ret
            exact ⟨rfl, HX8.out⟩
        · refine ⟨_, (by simp only [List.getElem?_toArray, List.getElem?_cons_succ, List.getElem?_cons_zero]; rfl), by rfl, fun K hK => ?_⟩
          go_simp
          obtain ⟨bp, hbp⟩ : ∃ x, x = u3.heap.size := ⟨_, rfl⟩
          rw [← hbp]
          have hA3 := Ext.alloc u3 (.cells #[.slice none 0 0] 24)
          have hO3 : Blk (u3.alloc (.cells #[.slice none 0 0] 24)) bp #[.slice none 0 0] 24 := by rw [hbp]; exact Blk.made u3 _ _
          have hX3 := Ext.trans hE.out hA3
          have HPB := Lib.hid (show wd.heap.size ≤ bp from by have := hE.out.size; omega)
          have hT3 := HT.out.below hA3
          have hR3 := Nat.lt_of_lt_of_le HRL.out hA3.size
          have hD3 := HD.out.same (w' := u3.alloc (.cells #[.slice none 0 0] 24)) fun x hx => hA3.block x (by have := HDL.out; subst hx; exact this)
          have hL3 := Nat.lt_of_lt_of_le HDL.out hA3.size
          refine hK.out _ _ hX3 ?_
          clear hK hbp hA3
          generalize u3.alloc (.cells #[.slice none 0 0] 24) = u4 at *
          have hE := Lib.hid hX3
          have HP := Lib.hid hO3
          clear hO3 hX3
          have HT := Lib.hid hT3
          have HRL := Lib.hid hR3
          clear hT3 hR3
          have HD := Lib.hid hD3
          have HDL := Lib.hid hL3
          clear hD3 hL3
          refine WalkN.one 6 (by kernel_rfl) ?_
          refine ⟨_, (by simp only [List.getElem?_toArray, List.getElem?_cons_succ, List.getElem?_cons_zero]; rfl), by rfl, fun K hK => ?_⟩
          refine wp_own chT (.tmp 60) (.tmp 62) rfl rfl HT.out rfl HD.out (chcs_one _) (by have := HLC.out; rw [List.nil_append, chcs_length, chcs_length]; simp; omega) (by have := HLC.out; rw [List.nil_append, chcs_length, chcs_length]; simp; omega) hE.out.size (fun v4 u5 hown hb hg => ?_)
          have hX4 : Ext wd u5 := Below.trans hE.out hb
          have hP4 := HP.out.aside HT.out (by decide) hg
          have HSA := Lib.hid (show Sl (· < u5.heap.size) u5 3 v4 (chcs (cs ++ [⟨ck, ⟨ct, cr⟩⟩])) from by
            have := hown.sl
            rw [List.nil_append, ← chcs_append] at this
            exact this.mono fun b hb => hb.2)
          have hL4 := Nat.lt_of_lt_of_le HDL.out hg.size
          have hR4 := Nat.lt_of_lt_of_le HRL.out hg.size
          have hD4 : Sl (fun b => b = bl) u5 3 (.slice none 0 0) [] := Sl.nil _ _ _
          refine hK.out _ _ hX4 ?_
          clear hK
          simp only [Act.put, List.setIfInBounds_toArray, List.set_cons_zero, List.set_cons_succ]
          have hE := Lib.hid hX4
          have HT := Lib.hid hown
          have HRL := Lib.hid hR4
          have HD := Lib.hid hD4
          have HDL := Lib.hid hL4
          have HP := Lib.hid hP4
          clear hP4
          clear hown hb hg hX4 hR4 hL4 hD4
          refine WalkN.one 8 (by kernel_rfl) ?_
          refine ⟨_, (by simp only [List.getElem?_toArray, List.getElem?_cons_succ, List.getElem?_cons_zero]; rfl), by rfl, fun K hK => ?_⟩
          go_simp
          refine (apply_ne _ _ _ _ _ _ _ cs (cs ++ [⟨ck, ⟨ct, cr⟩⟩]) u5 HSA.out (snoc_ne cs _) (fun W hW => HDA.out W (hE.out.trans hW))).mono ?_
          rintro e u6 ⟨rfl, hb⟩
          have hX5 : Ext wd u6 := Ext.trans hE.out hb
          have hT5 := HT.out.below hb
          have hL5 := Nat.lt_of_lt_of_le HDL.out hb.size
          have hR5 := Nat.lt_of_lt_of_le HRL.out hb.size
          have hD5 : Sl (fun b => b = bl) u6 3 (.slice none 0 0) [] := Sl.nil _ _ _
          have hS5 := (HSA.out.same (Same.below hb)).mono (T := (· < u6.heap.size)) fun b (hb' : b < u5.heap.size) => Nat.lt_of_lt_of_le hb' hb.size
          have hP5 := HP.out.below hb
          refine hK.out _ _ hX5 ?_
          clear hK hb
          have hE := Lib.hid hX5
          have HT := Lib.hid hT5
          have HRL := Lib.hid hR5
          have HD := Lib.hid hD5
          have HDL := Lib.hid hL5
          have HSA := Lib.hid hS5
          have HP := Lib.hid hP5
          clear hP5
          clear hX5 hT5 hR5 hL5 hD5 hS5
          ((refine WalkN.take 9 _ ?_ (by simp only [List.getElem?_toArray, List.getElem?_cons_succ, List.getElem?_cons_zero]; rfl) (by kernel_rfl) (by kernel_rfl) (by rfl) (fun W hW => ?_) ?_; rotate_left; · (go_simp; try with_reducible rfl)); simp only [Act.put, List.setIfInBounds_toArray, List.set_cons_zero, List.set_cons_succ])
          ((refine WalkN.take 10 _ ?_ (by simp only [List.getElem?_toArray, List.getElem?_cons_succ, List.getElem?_cons_zero]; rfl) (by kernel_rfl) (by kernel_rfl) (by rfl) (fun W hW => ?_) ?_; rotate_left; · (go_simp; try with_reducible rfl)); simp only [Act.put, List.setIfInBounds_toArray, List.set_cons_zero, List.set_cons_succ])
          ((refine WalkN.take 11 _ ?_ (by simp only [List.getElem?_toArray, List.getElem?_cons_succ, List.getElem?_cons_zero]; rfl) (by kernel_rfl) (by kernel_rfl) (by rfl) (fun W hW => ?_) ?_; rotate_left; · (go_simp; try with_reducible rfl)); simp only [Act.put, List.setIfInBounds_toArray, List.set_cons_zero, List.set_cons_succ])
          refine WalkN.one 13 (by kernel_rfl) ?_
          refine ⟨_, (by simp only [List.getElem?_toArray, List.getElem?_cons_succ, List.getElem?_cons_zero]; rfl), by rfl, fun K hK => ?_⟩
          have h6 := HP.out.cells
          have f6 := HP.out.free
          go_simp
          have hX6 : Below wd.heap.size wd (u6.setCell ⟨bp, 0, none⟩ (.slice none 0 0)) := Below.setCell hE.out HPB.out _
          refine hK.out _ _ hX6 ?_
          clear hK h6 f6
          generalize u6.setCell ⟨bp, 0, none⟩ (.slice none 0 0) = u7 at *
          have hE := Lib.hid (show Ext wd u7 from hX6)
          clear hX6
          ((refine WalkN.take 14 _ ?_ (by simp only [List.getElem?_toArray, List.getElem?_cons_succ, List.getElem?_cons_zero]; rfl) (by kernel_rfl) (by kernel_rfl) (by rfl) (fun W hW => ?_) ?_; rotate_left; · (go_simp; try with_reducible rfl)); simp only [Act.put, List.setIfInBounds_toArray, List.set_cons_zero, List.set_cons_succ])
          refine WalkN.done (by kernel_rfl) ?_
          have HA7 := Lib.hid (HAd.out.below hE.out)
          have HU7 := Lib.hid (HUd.out.below hE.out)
          have HX7 := Lib.hid (show Ext w u7 from HXd.out.trans hE.out)
          have HD7 := Lib.hid (diff_ok us ts _ _ u7 (HVd.out.up hE.out) (HTd.out.up hE.out) HFU.out.sok HFS.out.sok HFU.out.chk HFS.out.chk)
          have a7 := HA7.out.cells
          have u7 := HU7.out.cells
          clear HAd HUd HCd HXd HTd HVd HLd HDA HSA hE HT HD HP HRL HDL HN HPB
          go_wp2_with fail
          refine HD7.out.mono ?_
          rintro e w8 ⟨v9, cs9, rfl, -, hp9, ho9, hb9⟩
          obtain ⟨ao9, n9, c9, rfl, hn9, -, -⟩ := ho9.sl.len
          obtain rfl : n9 = cs.length := by
            have h1 := hp9.length_eq
            have h2 := HN8.out.2.length_eq
            have h3 := diff_len2 (Nms.plain HFS.out.chk) (Nms.plain HFU.out.chk)
            rw [chcs_length] at hn9
            omega
          have HX8 := Lib.hid (show Ext w w8 from HX7.out.trans hb9)
          clear hp9 ho9 hb9 hn9 HD7 a7 u7 HA7 HU7 HX7
          go_wp2_with fail
          go_ret
          exact ⟨rfl, HX8.out⟩
      · refine ⟨_, (by simp only [List.getElem?_toArray, List.getElem?_cons_succ, List.getElem?_cons_zero]; rfl), by rfl, fun K hK => ?_⟩
        go_simp
        obtain ⟨bp, hbp⟩ : ∃ x, x = u2.heap.size := ⟨_, rfl⟩
        rw [← hbp]
        have hA2 := Ext.alloc u2 (.cells #[.slice none 0 0] 24)
        have hO2 : Blk (u2.alloc (.cells #[.slice none 0 0] 24)) bp #[.slice none 0 0] 24 := by rw [hbp]; exact Blk.made u2 _ _
        have hX2 := Ext.trans hE.out hA2
        have HPB := Lib.hid (show wd.heap.size ≤ bp from by have := hE.out.size; omega)
        have hT2 := HT.out.below hA2
        have hR2 := Nat.lt_of_lt_of_le HRL.out hA2.size
        refine hK.out _ _ hX2 ?_
        clear hK hbp hA2
        generalize u2.alloc (.cells #[.slice none 0 0] 24) = u3 at *
        have hE := Lib.hid hX2
        have HP := Lib.hid hO2
        clear hO2 hX2
        have HT := Lib.hid hT2
        have HRL := Lib.hid hR2
        clear hT2 hR2
        refine WalkN.one 5 (by kernel_rfl) ?_
        refine ⟨_, (by simp only [List.getElem?_toArray, List.getElem?_cons_succ, List.getElem?_cons_zero]; rfl), by rfl, fun K hK => ?_⟩
        go_simp
        obtain ⟨bl, hbl⟩ : ∃ x, x = u3.heap.size := ⟨_, rfl⟩
        rw [← hbl]
        have hA3 := Ext.alloc u3 (.cells #[.int .i64 ck, .string ct, .string cr] 63)
        have hO3 : Sl (fun b => b = bl) (u3.alloc (.cells #[.int .i64 ck, .string ct, .string cr] 63)) 3 (.slice (some ⟨bl, 0, none⟩) 1 1) (chcs [⟨ck, ⟨ct, cr⟩⟩]) := by rw [hbl]; exact Sl.made u3 (fun b => b = u3.heap.size) 3 1 63 #[.int .i64 ck, .string ct, .string cr] rfl (by decide) rfl
        have hX3 := Ext.trans hE.out hA3
        have hT3 := HT.out.below hA3
        have hR3 := Nat.lt_of_lt_of_le HRL.out hA3.size
        have HN := Lib.hid (show br ≠ bl from by have := HRL.out; omega)
        have hP3 := HP.out.below hA3
        have HDL := Lib.hid (show bl < (u3.alloc (.cells #[.int .i64 ck, .string ct, .string cr] 63)).heap.size from by rw [hbl]; simp)
        refine hK.out _ _ hX3 ?_
        clear hK hbl hA3
        generalize u3.alloc (.cells #[.int .i64 ck, .string ct, .string cr] 63) = u4 at *
        have hE := Lib.hid hX3
        have HD := Lib.hid hO3
        clear hO3 hX3
        have HT := Lib.hid hT3
        have HRL := Lib.hid hR3
        clear hT3 hR3
        have HP := Lib.hid hP3
        clear hP3
        refine WalkN.one 6 (by kernel_rfl) ?_
        refine ⟨_, (by simp only [List.getElem?_toArray, List.getElem?_cons_succ, List.getElem?_cons_zero]; rfl), by rfl, fun K hK => ?_⟩
        refine wp_own chT (.tmp 60) (.tmp 62) rfl rfl HT.out rfl HD.out (chcs_one _) (by have := HLC.out; rw [List.nil_append, chcs_length, chcs_length]; simp; omega) (by have := HLC.out; rw [List.nil_append, chcs_length, chcs_length]; simp; omega) hE.out.size (fun v4 u5 hown hb hg => ?_)
        have hX4 : Ext wd u5 := Below.trans hE.out hb
        have hP4 := HP.out.aside HT.out (by decide) hg
        have HSA := Lib.hid (show Sl (· < u5.heap.size) u5 3 v4 (chcs (cs ++ [⟨ck, ⟨ct, cr⟩⟩])) from by
          have := hown.sl
          rw [List.nil_append, ← chcs_append] at this
          exact this.mono fun b hb => hb.2)
        have hL4 := Nat.lt_of_lt_of_le HDL.out hg.size
        have hR4 := Nat.lt_of_lt_of_le HRL.out hg.size
        have hD4 : Sl (fun b => b = bl) u5 3 (.slice none 0 0) [] := Sl.nil _ _ _
        refine hK.out _ _ hX4 ?_
        clear hK
        simp only [Act.put, List.setIfInBounds_toArray, List.set_cons_zero, List.set_cons_succ]
        have hE := Lib.hid hX4
        have HT := Lib.hid hown
        have HRL := Lib.hid hR4
        have HD := Lib.hid hD4
        have HDL := Lib.hid hL4
        have HP := Lib.hid hP4
        clear hP4
        clear hown hb hg hX4 hR4 hL4 hD4
        refine WalkN.one 8 (by kernel_rfl) ?_
        refine ⟨_, (by simp only [List.getElem?_toArray, List.getElem?_cons_succ, List.getElem?_cons_zero]; rfl), by rfl, fun K hK => ?_⟩
        go_simp
        refine (apply_ne _ _ _ _ _ _ _ cs (cs ++ [⟨ck, ⟨ct, cr⟩⟩]) u5 HSA.out (snoc_ne cs _) (fun W hW => HDA.out W (hE.out.trans hW))).mono ?_
        rintro e u6 ⟨rfl, hb⟩
        have hX5 : Ext wd u6 := Ext.trans hE.out hb
        have hT5 := HT.out.below hb
        have hL5 := Nat.lt_of_lt_of_le HDL.out hb.size
        have hR5 := Nat.lt_of_lt_of_le HRL.out hb.size
        have hD5 : Sl (fun b => b = bl) u6 3 (.slice none 0 0) [] := Sl.nil _ _ _
        have hS5 := (HSA.out.same (Same.below hb)).mono (T := (· < u6.heap.size)) fun b (hb' : b < u5.heap.size) => Nat.lt_of_lt_of_le hb' hb.size
        have hP5 := HP.out.below hb
        refine hK.out _ _ hX5 ?_
        clear hK hb
        have hE := Lib.hid hX5
        have HT := Lib.hid hT5
        have HRL := Lib.hid hR5
        have HD := Lib.hid hD5
        have HDL := Lib.hid hL5
        have HSA := Lib.hid hS5
        have HP := Lib.hid hP5
        clear hP5
        clear hX5 hT5 hR5 hL5 hD5 hS5
        ((refine WalkN.take 9 _ ?_ (by simp only [List.getElem?_toArray, List.getElem?_cons_succ, List.getElem?_cons_zero]; rfl) (by kernel_rfl) (by kernel_rfl) (by rfl) (fun W hW => ?_) ?_; rotate_left; · (go_simp; try with_reducible rfl)); simp only [Act.put, List.setIfInBounds_toArray, List.set_cons_zero, List.set_cons_succ])
        ((refine WalkN.take 10 _ ?_ (by simp only [List.getElem?_toArray, List.getElem?_cons_succ, List.getElem?_cons_zero]; rfl) (by kernel_rfl) (by kernel_rfl) (by rfl) (fun W hW => ?_) ?_; rotate_left; · (go_simp; try with_reducible rfl)); simp only [Act.put, List.setIfInBounds_toArray, List.set_cons_zero, List.set_cons_succ])
        ((refine WalkN.take 11 _ ?_ (by simp only [List.getElem?_toArray, List.getElem?_cons_succ, List.getElem?_cons_zero]; rfl) (by kernel_rfl) (by kernel_rfl) (by rfl) (fun W hW => ?_) ?_; rotate_left; · (go_simp; try with_reducible rfl)); simp only [Act.put, List.setIfInBounds_toArray, List.set_cons_zero, List.set_cons_succ])
        refine WalkN.one 13 (by kernel_rfl) ?_
        refine ⟨_, (by simp only [List.getElem?_toArray, List.getElem?_cons_succ, List.getElem?_cons_zero]; rfl), by rfl, fun K hK => ?_⟩
        have h6 := HP.out.cells
        have f6 := HP.out.free
        go_simp
        have hX6 : Below wd.heap.size wd (u6.setCell ⟨bp, 0, none⟩ (.slice none 0 0)) := Below.setCell hE.out HPB.out _
        refine hK.out _ _ hX6 ?_
        clear hK h6 f6
        generalize u6.setCell ⟨bp, 0, none⟩ (.slice none 0 0) = u7 at *
        have hE := Lib.hid (show Ext wd u7 from hX6)
        clear hX6
        ((refine WalkN.take 14 _ ?_ (by simp only [List.getElem?_toArray, List.getElem?_cons_succ, List.getElem?_cons_zero]; rfl) (by kernel_rfl) (by kernel_rfl) (by rfl) (fun W hW => ?_) ?_; rotate_left; · (go_simp; try with_reducible rfl)); simp only [Act.put, List.setIfInBounds_toArray, List.set_cons_zero, List.set_cons_succ])
        refine WalkN.done (by kernel_rfl) ?_
        have HA7 := Lib.hid (HAd.out.below hE.out)
        have HU7 := Lib.hid (HUd.out.below hE.out)
        have HX7 := Lib.hid (show Ext w u7 from HXd.out.trans hE.out)
        have HD7 := Lib.hid (diff_ok us ts _ _ u7 (HVd.out.up hE.out) (HTd.out.up hE.out) HFU.out.sok HFS.out.sok HFU.out.chk HFS.out.chk)
        have a7 := HA7.out.cells
        have u7 := HU7.out.cells
        clear HAd HUd HCd HXd HTd HVd HLd HDA HSA hE HT HD HP HRL HDL HN HPB
        go_wp2_with fail
        refine HD7.out.mono ?_
        rintro e w8 ⟨v9, cs9, rfl, -, hp9, ho9, hb9⟩
        obtain ⟨ao9, n9, c9, rfl, hn9, -, -⟩ := ho9.sl.len
        obtain rfl : n9 = cs.length := by
          have h1 := hp9.length_eq
          have h2 := HN8.out.2.length_eq
          have h3 := diff_len2 (Nms.plain HFS.out.chk) (Nms.plain HFU.out.chk)
          rw [chcs_length] at hn9
          omega
        have HX8 := Lib.hid (show Ext w w8 from HX7.out.trans hb9)
        clear hp9 ho9 hb9 hn9 HD7 a7 u7 HA7 HU7 HX7
        go_wp2_with fail
        go_ret
        exact ⟨rfl, HX8.out⟩
    · refine ⟨_, (by simp only [List.getElem?_toArray, List.getElem?_cons_succ, List.getElem?_cons_zero]; rfl), by rfl, fun K hK => ?_⟩
      go_simp
      obtain ⟨bl, hbl⟩ : ∃ x, x = u1.heap.size := ⟨_, rfl⟩
      rw [← hbl]
      have hA1 := Ext.alloc u1 (.cells #[.int .i64 ck, .string ct, .string cr] 63)
      have hO1 : Sl (fun b => b = bl) (u1.alloc (.cells #[.int .i64 ck, .string ct, .string cr] 63)) 3 (.slice (some ⟨bl, 0, none⟩) 1 1) (chcs [⟨ck, ⟨ct, cr⟩⟩]) := by rw [hbl]; exact Sl.made u1 (fun b => b = u1.heap.size) 3 1 63 #[.int .i64 ck, .string ct, .string cr] rfl (by decide) rfl
      have hX1 := Ext.trans hE.out hA1
      have hT1 := HT.out.below hA1
      have hR1 := Nat.lt_of_lt_of_le HRL.out hA1.size
      have HN := Lib.hid (show br ≠ bl from by have := HRL.out; omega)
      have HDL := Lib.hid (show bl < (u1.alloc (.cells #[.int .i64 ck, .string ct, .string cr] 63)).heap.size from by rw [hbl]; simp)
      refine hK.out _ _ hX1 ?_
      clear hK hbl hA1
      generalize u1.alloc (.cells #[.int .i64 ck, .string ct, .string cr] 63) = u2 at *
      have hE := Lib.hid hX1
      have HD := Lib.hid hO1
      clear hO1 hX1
      have HT := Lib.hid hT1
      have HRL := Lib.hid hR1
      clear hT1 hR1
      refine WalkN.two 3 12 (by kernel_rfl) ?_ ?_
      · refine ⟨_, (by simp only [List.getElem?_toArray, List.getElem?_cons_succ, List.getElem?_cons_zero]; rfl), by rfl, fun K hK => ?_⟩
        refine wp_own chT (.tmp 58) (.tmp 59) rfl rfl HT.out rfl (HLd.out.same (Same.below hE.out)) (chcs_one _) (by have := HLC.out; rw [chcs_length, List.length_nil]; omega) (by have := HLC.out; rw [chcs_length, List.length_nil]; omega) hE.out.size (fun v2 u3 hown hb hg => ?_)
        have hX2 : Ext wd u3 := Below.trans hE.out hb
        have hD2 := HD.out.same (w' := u3) fun x hx => hg.block x (by have := HDL.out; subst hx; exact this) (fun h => by subst hx; exact HN.out (Option.some.inj (show some x = some br from h)).symm)
        have hL2 := Nat.lt_of_lt_of_le HDL.out hg.size
        have hR2 := Nat.lt_of_lt_of_le HRL.out hg.size
        refine hK.out _ _ hX2 ?_
        clear hK
        simp only [Act.put, List.setIfInBounds_toArray, List.set_cons_zero, List.set_cons_succ]
        have hE := Lib.hid hX2
        have HT := Lib.hid hown
        have HRL := Lib.hid hR2
        have HD := Lib.hid hD2
        have HDL := Lib.hid hL2
        clear hD2 hL2
        clear hown hb hg hX2 hR2
        refine WalkN.two 6 12 (by kernel_rfl) ?_ ?_
        · refine ⟨_, (by simp only [List.getElem?_toArray, List.getElem?_cons_succ, List.getElem?_cons_zero]; rfl), by rfl, fun K hK => ?_⟩
          refine wp_own chT (.tmp 60) (.tmp 62) rfl rfl HT.out rfl HD.out (chcs_one _) (by have := HLC.out; rw [List.nil_append, chcs_length, chcs_length]; simp; omega) (by have := HLC.out; rw [List.nil_append, chcs_length, chcs_length]; simp; omega) hE.out.size (fun v3 u4 hown hb hg => ?_)
          have hX3 : Ext wd u4 := Below.trans hE.out hb
          have HSA := Lib.hid (show Sl (· < u4.heap.size) u4 3 v3 (chcs (cs ++ [⟨ck, ⟨ct, cr⟩⟩])) from by
            have := hown.sl
            rw [List.nil_append, ← chcs_append] at this
            exact this.mono fun b hb => hb.2)
          have hL3 := Nat.lt_of_lt_of_le HDL.out hg.size
          have hR3 := Nat.lt_of_lt_of_le HRL.out hg.size
          have hD3 : Sl (fun b => b = bl) u4 3 (.slice none 0 0) [] := Sl.nil _ _ _
          refine hK.out _ _ hX3 ?_
          clear hK
          simp only [Act.put, List.setIfInBounds_toArray, List.set_cons_zero, List.set_cons_succ]
          have hE := Lib.hid hX3
          have HT := Lib.hid hown
          have HRL := Lib.hid hR3
          have HD := Lib.hid hD3
          have HDL := Lib.hid hL3
          clear hown hb hg hX3 hR3 hL3 hD3
          refine WalkN.two 8 12 (by kernel_rfl) ?_ ?_
          · refine ⟨_, (by simp only [List.getElem?_toArray, List.getElem?_cons_succ, List.getElem?_cons_zero]; rfl), by rfl, fun K hK => ?_⟩
            go_simp
            refine (apply_ne _ _ _ _ _ _ _ cs (cs ++ [⟨ck, ⟨ct, cr⟩⟩]) u4 HSA.out (snoc_ne cs _) (fun W hW => HDA.out W (hE.out.trans hW))).mono ?_
            rintro e u5 ⟨rfl, hb⟩
            have hX4 : Ext wd u5 := Ext.trans hE.out hb
            have hT4 := HT.out.below hb
            have hL4 := Nat.lt_of_lt_of_le HDL.out hb.size
            have hR4 := Nat.lt_of_lt_of_le HRL.out hb.size
            have hD4 : Sl (fun b => b = bl) u5 3 (.slice none 0 0) [] := Sl.nil _ _ _
            have hS4 := (HSA.out.same (Same.below hb)).mono (T := (· < u5.heap.size)) fun b (hb' : b < u4.heap.size) => Nat.lt_of_lt_of_le hb' hb.size
            refine hK.out _ _ hX4 ?_
            clear hK hb
            have hE := Lib.hid hX4
            have HT := Lib.hid hT4
            have HRL := Lib.hid hR4
            have HD := Lib.hid hD4
            have HDL := Lib.hid hL4
            have HSA := Lib.hid hS4
            clear hX4 hT4 hR4 hL4 hD4 hS4
            ((refine WalkN.take 9 _ ?_ (by simp only [List.getElem?_toArray, List.getElem?_cons_succ, List.getElem?_cons_zero]; rfl) (by kernel_rfl) (by kernel_rfl) (by rfl) (fun W hW => ?_) ?_; rotate_left; · (go_simp; try with_reducible rfl)); simp only [Act.put, List.setIfInBounds_toArray, List.set_cons_zero, List.set_cons_succ])
            ((refine WalkN.take 10 _ ?_ (by simp only [List.getElem?_toArray, List.getElem?_cons_succ, List.getElem?_cons_zero]; rfl) (by kernel_rfl) (by kernel_rfl) (by rfl) (fun W hW => ?_) ?_; rotate_left; · (go_simp; try with_reducible rfl)); simp only [Act.put, List.setIfInBounds_toArray, List.set_cons_zero, List.set_cons_succ])
            ((refine WalkN.take 11 _ ?_ (by simp only [List.getElem?_toArray, List.getElem?_cons_succ, List.getElem?_cons_zero]; rfl) (by kernel_rfl) (by kernel_rfl) (by rfl) (fun W hW => ?_) ?_; rotate_left; · (go_simp; try with_reducible rfl)); simp only [Act.put, List.setIfInBounds_toArray, List.set_cons_zero, List.set_cons_succ])
            refine WalkN.one 12 (by kernel_rfl) ?_
            refine ⟨_, (by simp only [List.getElem?_toArray, List.getElem?_cons_succ, List.getElem?_cons_zero]; rfl), by rfl, fun K hK => ?_⟩
            go_simp
            obtain ⟨bp, hbp⟩ : ∃ x, x = u5.heap.size := ⟨_, rfl⟩
            rw [← hbp]
            have hA5 := Ext.alloc u5 (.cells #[.slice none 0 0] 24)
            have hO5 : Blk (u5.alloc (.cells #[.slice none 0 0] 24)) bp #[.slice none 0 0] 24 := by rw [hbp]; exact Blk.made u5 _ _
            have hX5 := Ext.trans hE.out hA5
            have HPB := Lib.hid (show wd.heap.size ≤ bp from by have := hE.out.size; omega)
            have hT5 := HT.out.below hA5
            have hR5 := Nat.lt_of_lt_of_le HRL.out hA5.size
            have hD5 := HD.out.same (w' := u5.alloc (.cells #[.slice none 0 0] 24)) fun x hx => hA5.block x (by have := HDL.out; subst hx; exact this)
            have hL5 := Nat.lt_of_lt_of_le HDL.out hA5.size
            have hS5 := (HSA.out.same (Same.below hA5)).mono (T := (· < (u5.alloc (.cells #[.slice none 0 0] 24)).heap.size)) fun b (hb : b < u5.heap.size) => Nat.lt_of_lt_of_le hb hA5.size
            refine hK.out _ _ hX5 ?_
            clear hK hbp hA5
            generalize u5.alloc (.cells #[.slice none 0 0] 24) = u6 at *
            have hE := Lib.hid hX5
            have HP := Lib.hid hO5
            clear hO5 hX5
            have HT := Lib.hid hT5
            have HRL := Lib.hid hR5
            clear hT5 hR5
            have HD := Lib.hid hD5
            have HDL := Lib.hid hL5
            clear hD5 hL5
            have HSA := Lib.hid hS5
            clear hS5
            refine WalkN.one 13 (by kernel_rfl) ?_
            refine ⟨_, (by simp only [List.getElem?_toArray, List.getElem?_cons_succ, List.getElem?_cons_zero]; rfl), by rfl, fun K hK => ?_⟩
            have h6 := HP.out.cells
            have f6 := HP.out.free
            go_simp
            have hX6 : Below wd.heap.size wd (u6.setCell ⟨bp, 0, none⟩ (.slice none 0 0)) := Below.setCell hE.out HPB.out _
            refine hK.out _ _ hX6 ?_
            clear hK h6 f6
            generalize u6.setCell ⟨bp, 0, none⟩ (.slice none 0 0) = u7 at *
            have hE := Lib.hid (show Ext wd u7 from hX6)
            clear hX6
            ((refine WalkN.take 14 _ ?_ (by simp only [List.getElem?_toArray, List.getElem?_cons_succ, List.getElem?_cons_zero]; rfl) (by kernel_rfl) (by kernel_rfl) (by rfl) (fun W hW => ?_) ?_; rotate_left; · (go_simp; try with_reducible rfl)); simp only [Act.put, List.setIfInBounds_toArray, List.set_cons_zero, List.set_cons_succ])
            refine WalkN.done (by kernel_rfl) ?_
            have HA7 := Lib.hid (HAd.out.below hE.out)
            have HU7 := Lib.hid (HUd.out.below hE.out)
            have HX7 := Lib.hid (show Ext w u7 from HXd.out.trans hE.out)
            have HD7 := Lib.hid (diff_ok us ts _ _ u7 (HVd.out.up hE.out) (HTd.out.up hE.out) HFU.out.sok HFS.out.sok HFU.out.chk HFS.out.chk)
            have a7 := HA7.out.cells
            have u7 := HU7.out.cells
            clear HAd HUd HCd HXd HTd HVd HLd HDA HSA hE HT HD HP HRL HDL HN HPB
            go_wp2_with fail
            refine HD7.out.mono ?_
            rintro e w8 ⟨v9, cs9, rfl, -, hp9, ho9, hb9⟩
            obtain ⟨ao9, n9, c9, rfl, hn9, -, -⟩ := ho9.sl.len
            obtain rfl : n9 = cs.length := by
              have h1 := hp9.length_eq
              have h2 := HN8.out.2.length_eq
              have h3 := diff_len2 (Nms.plain HFS.out.chk) (Nms.plain HFU.out.chk)
              rw [chcs_length] at hn9
              omega
            have HX8 := Lib.hid (show Ext w w8 from HX7.out.trans hb9)
            clear hp9 ho9 hb9 hn9 HD7 a7 u7 HA7 HU7 HX7
            go_wp2_with fail
            go_ret
            exact ⟨rfl, HX8.out⟩
          · refine ⟨_, (by simp only [List.getElem?_toArray, List.getElem?_cons_succ, List.getElem?_cons_zero]; rfl), by rfl, fun K hK => ?_⟩
            go_simp
            obtain ⟨bp, hbp⟩ : ∃ x, x = u4.heap.size := ⟨_, rfl⟩
            rw [← hbp]
            have hA4 := Ext.alloc u4 (.cells #[.slice none 0 0] 24)
            have hO4 : Blk (u4.alloc (.cells #[.slice none 0 0] 24)) bp #[.slice none 0 0] 24 := by rw [hbp]; exact Blk.made u4 _ _
            have hX4 := Ext.trans hE.out hA4
            have HPB := Lib.hid (show wd.heap.size ≤ bp from by have := hE.out.size; omega)
            have hT4 := HT.out.below hA4
            have hR4 := Nat.lt_of_lt_of_le HRL.out hA4.size
            have hD4 := HD.out.same (w' := u4.alloc (.cells #[.slice none 0 0] 24)) fun x hx => hA4.block x (by have := HDL.out; subst hx; exact this)
            have hL4 := Nat.lt_of_lt_of_le HDL.out hA4.size
            have hS4 := (HSA.out.same (Same.below hA4)).mono (T := (· < (u4.alloc (.cells #[.slice none 0 0] 24)).heap.size)) fun b (hb : b < u4.heap.size) => Nat.lt_of_lt_of_le hb hA4.size
            refine hK.out _ _ hX4 ?_
            clear hK hbp hA4
            generalize u4.alloc (.cells #[.slice none 0 0] 24) = u5 at *
            have hE := Lib.hid hX4
            have HP := Lib.hid hO4
            clear hO4 hX4
            have HT := Lib.hid hT4
            have HRL := Lib.hid hR4
            clear hT4 hR4
            have HD := Lib.hid hD4
            have HDL := Lib.hid hL4
            clear hD4 hL4
            have HSA := Lib.hid hS4
            clear hS4
            refine WalkN.one 8 (by kernel_rfl) ?_
            refine ⟨_, (by simp only [List.getElem?_toArray, List.getElem?_cons_succ, List.getElem?_cons_zero]; rfl), by rfl, fun K hK => ?_⟩
            go_simp
            refine (apply_ne _ _ _ _ _ _ _ cs (cs ++ [⟨ck, ⟨ct, cr⟩⟩]) u5 HSA.out (snoc_ne cs _) (fun W hW => HDA.out W (hE.out.trans hW))).mono ?_
            rintro e u6 ⟨rfl, hb⟩
            have hX5 : Ext wd u6 := Ext.trans hE.out hb
            have hT5 := HT.out.below hb
            have hL5 := Nat.lt_of_lt_of_le HDL.out hb.size
            have hR5 := Nat.lt_of_lt_of_le HRL.out hb.size
            have hD5 : Sl (fun b => b = bl) u6 3 (.slice none 0 0) [] := Sl.nil _ _ _
            have hS5 := (HSA.out.same (Same.below hb)).mono (T := (· < u6.heap.size)) fun b (hb' : b < u5.heap.size) => Nat.lt_of_lt_of_le hb' hb.size
            have hP5 := HP.out.below hb
            refine hK.out _ _ hX5 ?_
            clear hK hb
            have hE := Lib.hid hX5
            have HT := Lib.hid hT5
            have HRL := Lib.hid hR5
            have HD := Lib.hid hD5
            have HDL := Lib.hid hL5
            have HSA := Lib.hid hS5
            have HP := Lib.hid hP5
            clear hP5
            clear hX5 hT5 hR5 hL5 hD5 hS5
            ((refine WalkN.take 9 _ ?_ (by simp only [List.getElem?_toArray, List.getElem?_cons_succ, List.getElem?_cons_zero]; rfl) (by kernel_rfl) (by kernel_rfl) (by rfl) (fun W hW => ?_) ?_; rotate_left; · (go_simp; try with_reducible rfl)); simp only [Act.put, List.setIfInBounds_toArray, List.set_cons_zero, List.set_cons_succ])
            ((refine WalkN.take 10 _ ?_ (by simp only [List.getElem?_toArray, List.getElem?_cons_succ, List.getElem?_cons_zero]; rfl) (by kernel_rfl) (by kernel_rfl) (by rfl) (fun W hW => ?_) ?_; rotate_left; · (go_simp; try with_reducible rfl)); simp only [Act.put, List.setIfInBounds_toArray, List.set_cons_zero, List.set_cons_succ])
            ((refine WalkN.take 11 _ ?_ (by simp only [List.getElem?_toArray, List.getElem?_cons_succ, List.getElem?_cons_zero]; rfl) (by kernel_rfl) (by kernel_rfl) (by rfl) (fun W hW => ?_) ?_; rotate_left; · (go_simp; try with_reducible rfl)); simp only [Act.put, List.setIfInBounds_toArray, List.set_cons_zero, List.set_cons_succ])
            refine WalkN.one 13 (by kernel_rfl) ?_
            refine ⟨_, (by simp only [List.getElem?_toArray, List.getElem?_cons_succ, List.getElem?_cons_zero]; rfl), by rfl, fun K hK => ?_⟩
            have h6 := HP.out.cells
            have f6 := HP.out.free
            go_simp
            have hX6 : Below wd.heap.size wd (u6.setCell ⟨bp, 0, none⟩ (.slice none 0 0)) := Below.setCell hE.out HPB.out _
            refine hK.out _ _ hX6 ?_
            clear hK h6 f6
            generalize u6.setCell ⟨bp, 0, none⟩ (.slice none 0 0) = u7 at *
            have hE := Lib.hid (show Ext wd u7 from hX6)
            clear hX6
            ((refine WalkN.take 14 _ ?_ (by simp only [List.getElem?_toArray, List.getElem?_cons_succ, List.getElem?_cons_zero]; rfl) (by kernel_rfl) (by kernel_rfl) (by rfl) (fun W hW => ?_) ?_; rotate_left; · (go_simp; try with_reducible rfl)); simp only [Act.put, List.setIfInBounds_toArray, List.set_cons_zero, List.set_cons_succ])
            refine WalkN.done (by kernel_rfl) ?_
            have HA7 := Lib.hid (HAd.out.below hE.out)
            have HU7 := Lib.hid (HUd.out.below hE.out)
            have HX7 := Lib.hid (show Ext w u7 from HXd.out.trans hE.out)
            have HD7 := Lib.hid (diff_ok us ts _ _ u7 (HVd.out.up hE.out) (HTd.out.up hE.out) HFU.out.sok HFS.out.sok HFU.out.chk HFS.out.chk)
            have a7 := HA7.out.cells
            have u7 := HU7.out.cells
            clear HAd HUd HCd HXd HTd HVd HLd HDA HSA hE HT HD HP HRL HDL HN HPB
            go_wp2_with fail
            refine HD7.out.mono ?_
            rintro e w8 ⟨v9, cs9, rfl, -, hp9, ho9, hb9⟩
            obtain ⟨ao9, n9, c9, rfl, hn9, -, -⟩ := ho9.sl.len
            obtain rfl : n9 = cs.length := by
              have h1 := hp9.length_eq
              have h2 := HN8.out.2.length_eq
              have h3 := diff_len2 (Nms.plain HFS.out.chk) (Nms.plain HFU.out.chk)
              rw [chcs_length] at hn9
              omega
            have HX8 := Lib.hid (show Ext w w8 from HX7.out.trans hb9)
            clear hp9 ho9 hb9 hn9 HD7 a7 u7 HA7 HU7 HX7
            go_wp2_with fail
            go_ret
            exact ⟨rfl, HX8.out⟩
        · refine ⟨_, (by simp only [List.getElem?_toArray, List.getElem?_cons_succ, List.getElem?_cons_zero]; rfl), by rfl, fun K hK => ?_⟩
          go_simp
          obtain ⟨bp, hbp⟩ : ∃ x, x = u3.heap.size := ⟨_, rfl⟩
          rw [← hbp]
          have hA3 := Ext.alloc u3 (.cells #[.slice none 0 0] 24)
          have hO3 : Blk (u3.alloc (.cells #[.slice none 0 0] 24)) bp #[.slice none 0 0] 24 := by rw [hbp]; exact Blk.made u3 _ _
          have hX3 := Ext.trans hE.out hA3
          have HPB := Lib.hid (show wd.heap.size ≤ bp from by have := hE.out.size; omega)
          have hT3 := HT.out.below hA3
          have hR3 := Nat.lt_of_lt_of_le HRL.out hA3.size
          have hD3 := HD.out.same (w' := u3.alloc (.cells #[.slice none 0 0] 24)) fun x hx => hA3.block x (by have := HDL.out; subst hx; exact this)
          have hL3 := Nat.lt_of_lt_of_le HDL.out hA3.size
          refine hK.out _ _ hX3 ?_
          clear hK hbp hA3
          generalize u3.alloc (.cells #[.slice none 0 0] 24) = u4 at *
          have hE := Lib.hid hX3
          have HP := Lib.hid hO3
          clear hO3 hX3
          have HT := Lib.hid hT3
          have HRL := Lib.hid hR3
          clear hT3 hR3
          have HD := Lib.hid hD3
          have HDL := Lib.hid hL3
          clear hD3 hL3
          refine WalkN.one 6 (by kernel_rfl) ?_
          refine ⟨_, (by simp only [List.getElem?_toArray, List.getElem?_cons_succ, List.getElem?_cons_zero]; rfl), by rfl, fun K hK => ?_⟩
          refine wp_own chT (.tmp 60) (.tmp 62) rfl rfl HT.out rfl HD.out (chcs_one _) (by have := HLC.out; rw [List.nil_append, chcs_length, chcs_length]; simp; omega) (by have := HLC.out; rw [List.nil_append, chcs_length, chcs_length]; simp; omega) hE.out.size (fun v4 u5 hown hb hg => ?_)
          have hX4 : Ext wd u5 := Below.trans hE.out hb
          have hP4 := HP.out.aside HT.out (by decide) hg
          have HSA := Lib.hid (show Sl (· < u5.heap.size) u5 3 v4 (chcs (cs ++ [⟨ck, ⟨ct, cr⟩⟩])) from by
            have := hown.sl
            rw [List.nil_append, ← chcs_append] at this
            exact this.mono fun b hb => hb.2)
          have hL4 := Nat.lt_of_lt_of_le HDL.out hg.size
          have hR4 := Nat.lt_of_lt_of_le HRL.out hg.size
          have hD4 : Sl (fun b => b = bl) u5 3 (.slice none 0 0) [] := Sl.nil _ _ _
          refine hK.out _ _ hX4 ?_
          clear hK
          simp only [Act.put, List.setIfInBounds_toArray, List.set_cons_zero, List.set_cons_succ]
          have hE := Lib.hid hX4
          have HT := Lib.hid hown
          have HRL := Lib.hid hR4
          have HD := Lib.hid hD4
          have HDL := Lib.hid hL4
          have HP := Lib.hid hP4
          clear hP4
          clear hown hb hg hX4 hR4 hL4 hD4
          refine WalkN.one 8 (by kernel_rfl) ?_
          refine ⟨_, (by simp only [List.getElem?_toArray, List.getElem?_cons_succ, List.getElem?_cons_zero]; rfl), by rfl, fun K hK => ?_⟩
          go_simp
          refine (apply_ne _ _ _ _ _ _ _ cs (cs ++ [⟨ck, ⟨ct, cr⟩⟩]) u5 HSA.out (snoc_ne cs _) (fun W hW => HDA.out W (hE.out.trans hW))).mono ?_
          rintro e u6 ⟨rfl, hb⟩
          have hX5 : Ext wd u6 := Ext.trans hE.out hb
          have hT5 := HT.out.below hb
          have hL5 := Nat.lt_of_lt_of_le HDL.out hb.size
          have hR5 := Nat.lt_of_lt_of_le HRL.out hb.size
          have hD5 : Sl (fun b => b = bl) u6 3 (.slice none 0 0) [] := Sl.nil _ _ _
          have hS5 := (HSA.out.same (Same.below hb)).mono (T := (· < u6.heap.size)) fun b (hb' : b < u5.heap.size) => Nat.lt_of_lt_of_le hb' hb.size
          have hP5 := HP.out.below hb
          refine hK.out _ _ hX5 ?_
          clear hK hb
          have hE := Lib.hid hX5
          have HT := Lib.hid hT5
          have HRL := Lib.hid hR5
          have HD := Lib.hid hD5
          have HDL := Lib.hid hL5
          have HSA := Lib.hid hS5
          have HP := Lib.hid hP5
          clear hP5
          clear hX5 hT5 hR5 hL5 hD5 hS5
          ((refine WalkN.take 9 _ ?_ (by simp only [List.getElem?_toArray, List.getElem?_cons_succ, List.getElem?_cons_zero]; rfl) (by kernel_rfl) (by kernel_rfl) (by rfl) (fun W hW => ?_) ?_; rotate_left; · (go_simp; try with_reducible rfl)); simp only [Act.put, List.setIfInBounds_toArray, List.set_cons_zero, List.set_cons_succ])
          ((refine WalkN.take 10 _ ?_ (by simp only [List.getElem?_toArray, List.getElem?_cons_succ, List.getElem?_cons_zero]; rfl) (by kernel_rfl) (by kernel_rfl) (by rfl) (fun W hW => ?_) ?_; rotate_left; · (go_simp; try with_reducible rfl)); simp only [Act.put, List.setIfInBounds_toArray, List.set_cons_zero, List.set_cons_succ])
          ((refine WalkN.take 11 _ ?_ (by simp only [List.getElem?_toArray, List.getElem?_cons_succ, List.getElem?_cons_zero]; rfl) (by kernel_rfl) (by kernel_rfl) (by rfl) (fun W hW => ?_) ?_; rotate_left; · (go_simp; try with_reducible rfl)); simp only [Act.put, List.setIfInBounds_toArray, List.set_cons_zero, List.set_cons_succ])
          refine WalkN.one 13 (by kernel_rfl) ?_
          refine ⟨_, (by simp only [List.getElem?_toArray, List.getElem?_cons_succ, List.getElem?_cons_zero]; rfl), by rfl, fun K hK => ?_⟩
          have h6 := HP.out.cells
          have f6 := HP.out.free
          go_simp
          have hX6 : Below wd.heap.size wd (u6.setCell ⟨bp, 0, none⟩ (.slice none 0 0)) := Below.setCell hE.out HPB.out _
          refine hK.out _ _ hX6 ?_
          clear hK h6 f6
          generalize u6.setCell ⟨bp, 0, none⟩ (.slice none 0 0) = u7 at *
          have hE := Lib.hid (show Ext wd u7 from hX6)
          clear hX6
          ((refine WalkN.take 14 _ ?_ (by simp only [List.getElem?_toArray, List.getElem?_cons_succ, List.getElem?_cons_zero]; rfl) (by kernel_rfl) (by kernel_rfl) (by rfl) (fun W hW => ?_) ?_; rotate_left; · (go_simp; try with_reducible rfl)); simp only [Act.put, List.setIfInBounds_toArray, List.set_cons_zero, List.set_cons_succ])
          refine WalkN.done (by kernel_rfl) ?_
          have HA7 := Lib.hid (HAd.out.below hE.out)
          have HU7 := Lib.hid (HUd.out.below hE.out)
          have HX7 := Lib.hid (show Ext w u7 from HXd.out.trans hE.out)
          have HD7 := Lib.hid (diff_ok us ts _ _ u7 (HVd.out.up hE.out) (HTd.out.up hE.out) HFU.out.sok HFS.out.sok HFU.out.chk HFS.out.chk)
          have a7 := HA7.out.cells
          have u7 := HU7.out.cells
          clear HAd HUd HCd HXd HTd HVd HLd HDA HSA hE HT HD HP HRL HDL HN HPB
          go_wp2_with fail
          refine HD7.out.mono ?_
          rintro e w8 ⟨v9, cs9, rfl, -, hp9, ho9, hb9⟩
          obtain ⟨ao9, n9, c9, rfl, hn9, -, -⟩ := ho9.sl.len
          obtain rfl : n9 = cs.length := by
            have h1 := hp9.length_eq
            have h2 := HN8.out.2.length_eq
            have h3 := diff_len2 (Nms.plain HFS.out.chk) (Nms.plain HFU.out.chk)
            rw [chcs_length] at hn9
            omega
          have HX8 := Lib.hid (show Ext w w8 from HX7.out.trans hb9)
          clear hp9 ho9 hb9 hn9 HD7 a7 u7 HA7 HU7 HX7
          go_wp2_with fail
          go_ret
          exact ⟨rfl, HX8.out⟩
      · refine ⟨_, (by simp only [List.getElem?_toArray, List.getElem?_cons_succ, List.getElem?_cons_zero]; rfl), by rfl, fun K hK => ?_⟩
        go_simp
        obtain ⟨bp, hbp⟩ : ∃ x, x = u2.heap.size := ⟨_, rfl⟩
        rw [← hbp]
        have hA2 := Ext.alloc u2 (.cells #[.slice none 0 0] 24)
        have hO2 : Blk (u2.alloc (.cells #[.slice none 0 0] 24)) bp #[.slice none 0 0] 24 := by rw [hbp]; exact Blk.made u2 _ _
        have hX2 := Ext.trans hE.out hA2
        have HPB := Lib.hid (show wd.heap.size ≤ bp from by have := hE.out.size; omega)
        have hT2 := HT.out.below hA2
        have hR2 := Nat.lt_of_lt_of_le HRL.out hA2.size
        have hD2 := HD.out.same (w' := u2.alloc (.cells #[.slice none 0 0] 24)) fun x hx => hA2.block x (by have := HDL.out; subst hx; exact this)
        have hL2 := Nat.lt_of_lt_of_le HDL.out hA2.size
        refine hK.out _ _ hX2 ?_
        clear hK hbp hA2
        generalize u2.alloc (.cells #[.slice none 0 0] 24) = u3 at *
        have hE := Lib.hid hX2
        have HP := Lib.hid hO2
        clear hO2 hX2
        have HT := Lib.hid hT2
        have HRL := Lib.hid hR2
        clear hT2 hR2
        have HD := Lib.hid hD2
        have HDL := Lib.hid hL2
        clear hD2 hL2
        refine WalkN.one 3 (by kernel_rfl) ?_
        refine ⟨_, (by simp only [List.getElem?_toArray, List.getElem?_cons_succ, List.getElem?_cons_zero]; rfl), by rfl, fun K hK => ?_⟩
        refine wp_own chT (.tmp 58) (.tmp 59) rfl rfl HT.out rfl (HLd.out.same (Same.below hE.out)) (chcs_one _) (by have := HLC.out; rw [chcs_length, List.length_nil]; omega) (by have := HLC.out; rw [chcs_length, List.length_nil]; omega) hE.out.size (fun v3 u4 hown hb hg => ?_)
        have hX3 : Ext wd u4 := Below.trans hE.out hb
        have hD3 := HD.out.same (w' := u4) fun x hx => hg.block x (by have := HDL.out; subst hx; exact this) (fun h => by subst hx; exact HN.out (Option.some.inj (show some x = some br from h)).symm)
        have hL3 := Nat.lt_of_lt_of_le HDL.out hg.size
        have hP3 := HP.out.aside HT.out (by decide) hg
        have hR3 := Nat.lt_of_lt_of_le HRL.out hg.size
        refine hK.out _ _ hX3 ?_
        clear hK
        simp only [Act.put, List.setIfInBounds_toArray, List.set_cons_zero, List.set_cons_succ]
        have hE := Lib.hid hX3
        have HT := Lib.hid hown
        have HRL := Lib.hid hR3
        have HD := Lib.hid hD3
        have HDL := Lib.hid hL3
        clear hD3 hL3
        have HP := Lib.hid hP3
        clear hP3
        clear hown hb hg hX3 hR3
        refine WalkN.one 6 (by kernel_rfl) ?_
        refine ⟨_, (by simp only [List.getElem?_toArray, List.getElem?_cons_succ, List.getElem?_cons_zero]; rfl), by rfl, fun K hK => ?_⟩
        refine wp_own chT (.tmp 60) (.tmp 62) rfl rfl HT.out rfl HD.out (chcs_one _) (by have := HLC.out; rw [List.nil_append, chcs_length, chcs_length]; simp; omega) (by have := HLC.out; rw [List.nil_append, chcs_length, chcs_length]; simp; omega) hE.out.size (fun v4 u5 hown hb hg => ?_)
        have hX4 : Ext wd u5 := Below.trans hE.out hb
        have hP4 := HP.out.aside HT.out (by decide) hg
        have HSA := Lib.hid (show Sl (· < u5.heap.size) u5 3 v4 (chcs (cs ++ [⟨ck, ⟨ct, cr⟩⟩])) from by
          have := hown.sl
          rw [List.nil_append, ← chcs_append] at this
          exact this.mono fun b hb => hb.2)
        have hL4 := Nat.lt_of_lt_of_le HDL.out hg.size
        have hR4 := Nat.lt_of_lt_of_le HRL.out hg.size
        have hD4 : Sl (fun b => b = bl) u5 3 (.slice none 0 0) [] := Sl.nil _ _ _
        refine hK.out _ _ hX4 ?_
        clear hK
        simp only [Act.put, List.setIfInBounds_toArray, List.set_cons_zero, List.set_cons_succ]
        have hE := Lib.hid hX4
        have HT := Lib.hid hown
        have HRL := Lib.hid hR4
        have HD := Lib.hid hD4
        have HDL := Lib.hid hL4
        have HP := Lib.hid hP4
        clear hP4
        clear hown hb hg hX4 hR4 hL4 hD4
        refine WalkN.one 8 (by kernel_rfl) ?_
        refine ⟨_, (by simp only [List.getElem?_toArray, List.getElem?_cons_succ, List.getElem?_cons_zero]; rfl), by rfl, fun K hK => ?_⟩
        go_simp
        refine (apply_ne _ _ _ _ _ _ _ cs (cs ++ [⟨ck, ⟨ct, cr⟩⟩]) u5 HSA.out (snoc_ne cs _) (fun W hW => HDA.out W (hE.out.trans hW))).mono ?_
        rintro e u6 ⟨rfl, hb⟩
        have hX5 : Ext wd u6 := Ext.trans hE.out hb
        have hT5 := HT.out.below hb
        have hL5 := Nat.lt_of_lt_of_le HDL.out hb.size
        have hR5 := Nat.lt_of_lt_of_le HRL.out hb.size
        have hD5 : Sl (fun b => b = bl) u6 3 (.slice none 0 0) [] := Sl.nil _ _ _
        have hS5 := (HSA.out.same (Same.below hb)).mono (T := (· < u6.heap.size)) fun b (hb' : b < u5.heap.size) => Nat.lt_of_lt_of_le hb' hb.size
        have hP5 := HP.out.below hb
        refine hK.out _ _ hX5 ?_
        clear hK hb
        have hE := Lib.hid hX5
        have HT := Lib.hid hT5
        have HRL := Lib.hid hR5
        have HD := Lib.hid hD5
        have HDL := Lib.hid hL5
        have HSA := Lib.hid hS5
        have HP := Lib.hid hP5
        clear hP5
        clear hX5 hT5 hR5 hL5 hD5 hS5
        ((refine WalkN.take 9 _ ?_ (by simp only [List.getElem?_toArray, List.getElem?_cons_succ, List.getElem?_cons_zero]; rfl) (by kernel_rfl) (by kernel_rfl) (by rfl) (fun W hW => ?_) ?_; rotate_left; · (go_simp; try with_reducible rfl)); simp only [Act.put, List.setIfInBounds_toArray, List.set_cons_zero, List.set_cons_succ])
        ((refine WalkN.take 10 _ ?_ (by simp only [List.getElem?_toArray, List.getElem?_cons_succ, List.getElem?_cons_zero]; rfl) (by kernel_rfl) (by kernel_rfl) (by rfl) (fun W hW => ?_) ?_; rotate_left; · (go_simp; try with_reducible rfl)); simp only [Act.put, List.setIfInBounds_toArray, List.set_cons_zero, List.set_cons_succ])
        ((refine WalkN.take 11 _ ?_ (by simp only [List.getElem?_toArray, List.getElem?_cons_succ, List.getElem?_cons_zero]; rfl) (by kernel_rfl) (by kernel_rfl) (by rfl) (fun W hW => ?_) ?_; rotate_left; · (go_simp; try with_reducible rfl)); simp only [Act.put, List.setIfInBounds_toArray, List.set_cons_zero, List.set_cons_succ])
        refine WalkN.one 13 (by kernel_rfl) ?_
        refine ⟨_, (by simp only [List.getElem?_toArray, List.getElem?_cons_succ, List.getElem?_cons_zero]; rfl), by rfl, fun K hK => ?_⟩
        have h6 := HP.out.cells
        have f6 := HP.out.free
        go_simp
        have hX6 : Below wd.heap.size wd (u6.setCell ⟨bp, 0, none⟩ (.slice none 0 0)) := Below.setCell hE.out HPB.out _
        refine hK.out _ _ hX6 ?_
        clear hK h6 f6
        generalize u6.setCell ⟨bp, 0, none⟩ (.slice none 0 0) = u7 at *
        have hE := Lib.hid (show Ext wd u7 from hX6)
        clear hX6
        ((refine WalkN.take 14 _ ?_ (by simp only [List.getElem?_toArray, List.getElem?_cons_succ, List.getElem?_cons_zero]; rfl) (by kernel_rfl) (by kernel_rfl) (by rfl) (fun W hW => ?_) ?_; rotate_left; · (go_simp; try with_reducible rfl)); simp only [Act.put, List.setIfInBounds_toArray, List.set_cons_zero, List.set_cons_succ])
        refine WalkN.done (by kernel_rfl) ?_
        have HA7 := Lib.hid (HAd.out.below hE.out)
        have HU7 := Lib.hid (HUd.out.below hE.out)
        have HX7 := Lib.hid (show Ext w u7 from HXd.out.trans hE.out)
        have HD7 := Lib.hid (diff_ok us ts _ _ u7 (HVd.out.up hE.out) (HTd.out.up hE.out) HFU.out.sok HFS.out.sok HFU.out.chk HFS.out.chk)
        have a7 := HA7.out.cells
        have u7 := HU7.out.cells
        clear HAd HUd HCd HXd HTd HVd HLd HDA HSA hE HT HD HP HRL HDL HN HPB
        go_wp2_with fail
        refine HD7.out.mono ?_
        rintro e w8 ⟨v9, cs9, rfl, -, hp9, ho9, hb9⟩
        obtain ⟨ao9, n9, c9, rfl, hn9, -, -⟩ := ho9.sl.len
        obtain rfl : n9 = cs.length := by
          have h1 := hp9.length_eq
          have h2 := HN8.out.2.length_eq
          have h3 := diff_len2 (Nms.plain HFS.out.chk) (Nms.plain HFU.out.chk)
          rw [chcs_length] at hn9
          omega
        have HX8 := Lib.hid (show Ext w w8 from HX7.out.trans hb9)
        clear hp9 ho9 hb9 hn9 HD7 a7 u7 HA7 HU7 HX7
        go_wp2_with fail
        go_ret
        exact ⟨rfl, HX8.out⟩
    · refine ⟨_, (by simp only [List.getElem?_toArray, List.getElem?_cons_succ, List.getElem?_cons_zero]; rfl), by rfl, fun K hK => ?_⟩
      go_simp
      obtain ⟨bp, hbp⟩ : ∃ x, x = u1.heap.size := ⟨_, rfl⟩
      rw [← hbp]
      have hA1 := Ext.alloc u1 (.cells #[.slice none 0 0] 24)
      have hO1 : Blk (u1.alloc (.cells #[.slice none 0 0] 24)) bp #[.slice none 0 0] 24 := by rw [hbp]; exact Blk.made u1 _ _
      have hX1 := Ext.trans hE.out hA1
      have HPB := Lib.hid (show wd.heap.size ≤ bp from by have := hE.out.size; omega)
      have hT1 := HT.out.below hA1
      have hR1 := Nat.lt_of_lt_of_le HRL.out hA1.size
      refine hK.out _ _ hX1 ?_
      clear hK hbp hA1
      generalize u1.alloc (.cells #[.slice none 0 0] 24) = u2 at *
      have hE := Lib.hid hX1
      have HP := Lib.hid hO1
      clear hO1 hX1
      have HT := Lib.hid hT1
      have HRL := Lib.hid hR1
      clear hT1 hR1
      refine WalkN.two 3 5 (by kernel_rfl) ?_ ?_
      · refine ⟨_, (by simp only [List.getElem?_toArray, List.getElem?_cons_succ, List.getElem?_cons_zero]; rfl), by rfl, fun K hK => ?_⟩
        refine wp_own chT (.tmp 58) (.tmp 59) rfl rfl HT.out rfl (HLd.out.same (Same.below hE.out)) (chcs_one _) (by have := HLC.out; rw [chcs_length, List.length_nil]; omega) (by have := HLC.out; rw [chcs_length, List.length_nil]; omega) hE.out.size (fun v2 u3 hown hb hg => ?_)
        have hX2 : Ext wd u3 := Below.trans hE.out hb
        have hP2 := HP.out.aside HT.out (by decide) hg
        have hR2 := Nat.lt_of_lt_of_le HRL.out hg.size
        refine hK.out _ _ hX2 ?_
        clear hK
        simp only [Act.put, List.setIfInBounds_toArray, List.set_cons_zero, List.set_cons_succ]
        have hE := Lib.hid hX2
        have HT := Lib.hid hown
        have HRL := Lib.hid hR2
        have HP := Lib.hid hP2
        clear hP2
        clear hown hb hg hX2 hR2
        refine WalkN.one 5 (by kernel_rfl) ?_
        refine ⟨_, (by simp only [List.getElem?_toArray, List.getElem?_cons_succ, List.getElem?_cons_zero]; rfl), by rfl, fun K hK => ?_⟩
        go_simp
        obtain ⟨bl, hbl⟩ : ∃ x, x = u3.heap.size := ⟨_, rfl⟩
        rw [← hbl]
        have hA3 := Ext.alloc u3 (.cells #[.int .i64 ck, .string ct, .string cr] 63)
        have hO3 : Sl (fun b => b = bl) (u3.alloc (.cells #[.int .i64 ck, .string ct, .string cr] 63)) 3 (.slice (some ⟨bl, 0, none⟩) 1 1) (chcs [⟨ck, ⟨ct, cr⟩⟩]) := by rw [hbl]; exact Sl.made u3 (fun b => b = u3.heap.size) 3 1 63 #[.int .i64 ck, .string ct, .string cr] rfl (by decide) rfl
        have hX3 := Ext.trans hE.out hA3
        have hT3 := HT.out.below hA3
        have hR3 := Nat.lt_of_lt_of_le HRL.out hA3.size
        have HN := Lib.hid (show br ≠ bl from by have := HRL.out; omega)
        have hP3 := HP.out.below hA3
        have HDL := Lib.hid (show bl < (u3.alloc (.cells #[.int .i64 ck, .string ct, .string cr] 63)).heap.size from by rw [hbl]; simp)
        refine hK.out _ _ hX3 ?_
        clear hK hbl hA3
        generalize u3.alloc (.cells #[.int .i64 ck, .string ct, .string cr] 63) = u4 at *
        have hE := Lib.hid hX3
        have HD := Lib.hid hO3
        clear hO3 hX3
        have HT := Lib.hid hT3
        have HRL := Lib.hid hR3
        clear hT3 hR3
        have HP := Lib.hid hP3
        clear hP3
        refine WalkN.one 6 (by kernel_rfl) ?_
        refine ⟨_, (by simp only [List.getElem?_toArray, List.getElem?_cons_succ, List.getElem?_cons_zero]; rfl), by rfl, fun K hK => ?_⟩
        refine wp_own chT (.tmp 60) (.tmp 62) rfl rfl HT.out rfl HD.out (chcs_one _) (by have := HLC.out; rw [List.nil_append, chcs_length, chcs_length]; simp; omega) (by have := HLC.out; rw [List.nil_append, chcs_length, chcs_length]; simp; omega) hE.out.size (fun v4 u5 hown hb hg => ?_)
        have hX4 : Ext wd u5 := Below.trans hE.out hb
        have hP4 := HP.out.aside HT.out (by decide) hg
        have HSA := Lib.hid (show Sl (· < u5.heap.size) u5 3 v4 (chcs (cs ++ [⟨ck, ⟨ct, cr⟩⟩])) from by
          have := hown.sl
          rw [List.nil_append, ← chcs_append] at this
          exact this.mono fun b hb => hb.2)
        have hL4 := Nat.lt_of_lt_of_le HDL.out hg.size
        have hR4 := Nat.lt_of_lt_of_le HRL.out hg.size
        have hD4 : Sl (fun b => b = bl) u5 3 (.slice none 0 0) [] := Sl.nil _ _ _
        refine hK.out _ _ hX4 ?_
        clear hK
        simp only [Act.put, List.setIfInBounds_toArray, List.set_cons_zero, List.set_cons_succ]
        have hE := Lib.hid hX4
        have HT := Lib.hid hown
        have HRL := Lib.hid hR4
        have HD := Lib.hid hD4
        have HDL := Lib.hid hL4
        have HP := Lib.hid hP4
        clear hP4
        clear hown hb hg hX4 hR4 hL4 hD4
        refine WalkN.one 8 (by kernel_rfl) ?_
        refine ⟨_, (by simp only [List.getElem?_toArray, List.getElem?_cons_succ, List.getElem?_cons_zero]; rfl), by rfl, fun K hK => ?_⟩
        go_simp
        refine (apply_ne _ _ _ _ _ _ _ cs (cs ++ [⟨ck, ⟨ct, cr⟩⟩]) u5 HSA.out (snoc_ne cs _) (fun W hW => HDA.out W (hE.out.trans hW))).mono ?_
        rintro e u6 ⟨rfl, hb⟩
        have hX5 : Ext wd u6 := Ext.trans hE.out hb
        have hT5 := HT.out.below hb
        have hL5 := Nat.lt_of_lt_of_le HDL.out hb.size
        have hR5 := Nat.lt_of_lt_of_le HRL.out hb.size
        have hD5 : Sl (fun b => b = bl) u6 3 (.slice none 0 0) [] := Sl.nil _ _ _
        have hS5 := (HSA.out.same (Same.below hb)).mono (T := (· < u6.heap.size)) fun b (hb' : b < u5.heap.size) => Nat.lt_of_lt_of_le hb' hb.size
        have hP5 := HP.out.below hb
        refine hK.out _ _ hX5 ?_
        clear hK hb
        have hE := Lib.hid hX5
        have HT := Lib.hid hT5
        have HRL := Lib.hid hR5
        have HD := Lib.hid hD5
        have HDL := Lib.hid hL5
        have HSA := Lib.hid hS5
        have HP := Lib.hid hP5
        clear hP5
        clear hX5 hT5 hR5 hL5 hD5 hS5
        ((refine WalkN.take 9 _ ?_ (by simp only [List.getElem?_toArray, List.getElem?_cons_succ, List.getElem?_cons_zero]; rfl) (by kernel_rfl) (by kernel_rfl) (by rfl) (fun W hW => ?_) ?_; rotate_left; · (go_simp; try with_reducible rfl)); simp only [Act.put, List.setIfInBounds_toArray, List.set_cons_zero, List.set_cons_succ])
        ((refine WalkN.take 10 _ ?_ (by simp only [List.getElem?_toArray, List.getElem?_cons_succ, List.getElem?_cons_zero]; rfl) (by kernel_rfl) (by kernel_rfl) (by rfl) (fun W hW => ?_) ?_; rotate_left; · (go_simp; try with_reducible rfl)); simp only [Act.put, List.setIfInBounds_toArray, List.set_cons_zero, List.set_cons_succ])
        ((refine WalkN.take 11 _ ?_ (by simp only [List.getElem?_toArray, List.getElem?_cons_succ, List.getElem?_cons_zero]; rfl) (by kernel_rfl) (by kernel_rfl) (by rfl) (fun W hW => ?_) ?_; rotate_left; · (go_simp; try with_reducible rfl)); simp only [Act.put, List.setIfInBounds_toArray, List.set_cons_zero, List.set_cons_succ])
        refine WalkN.one 13 (by kernel_rfl) ?_
        refine ⟨_, (by simp only [List.getElem?_toArray, List.getElem?_cons_succ, List.getElem?_cons_zero]; rfl), by rfl, fun K hK => ?_⟩
        have h6 := HP.out.cells
        have f6 := HP.out.free
        go_simp
        have hX6 : Below wd.heap.size wd (u6.setCell ⟨bp, 0, none⟩ (.slice none 0 0)) := Below.setCell hE.out HPB.out _
        refine hK.out _ _ hX6 ?_
        clear hK h6 f6
        generalize u6.setCell ⟨bp, 0, none⟩ (.slice none 0 0) = u7 at *
        have hE := Lib.hid (show Ext wd u7 from hX6)
        clear hX6
        ((refine WalkN.take 14 _ ?_ (by simp only [List.getElem?_toArray, List.getElem?_cons_succ, List.getElem?_cons_zero]; rfl) (by kernel_rfl) (by kernel_rfl) (by rfl) (fun W hW => ?_) ?_; rotate_left; · (go_simp; try with_reducible rfl)); simp only [Act.put, List.setIfInBounds_toArray, List.set_cons_zero, List.set_cons_succ])
        refine WalkN.done (by kernel_rfl) ?_
        have HA7 := Lib.hid (HAd.out.below hE.out)
        have HU7 := Lib.hid (HUd.out.below hE.out)
        have HX7 := Lib.hid (show Ext w u7 from HXd.out.trans hE.out)
        have HD7 := Lib.hid (diff_ok us ts _ _ u7 (HVd.out.up hE.out) (HTd.out.up hE.out) HFU.out.sok HFS.out.sok HFU.out.chk HFS.out.chk)
        have a7 := HA7.out.cells
        have u7 := HU7.out.cells
        clear HAd HUd HCd HXd HTd HVd HLd HDA HSA hE HT HD HP HRL HDL HN HPB
        go_wp2_with fail
        refine HD7.out.mono ?_
        rintro e w8 ⟨v9, cs9, rfl, -, hp9, ho9, hb9⟩
        obtain ⟨ao9, n9, c9, rfl, hn9, -, -⟩ := ho9.sl.len
        obtain rfl : n9 = cs.length := by
          have h1 := hp9.length_eq
          have h2 := HN8.out.2.length_eq
          have h3 := diff_len2 (Nms.plain HFS.out.chk) (Nms.plain HFU.out.chk)
          rw [chcs_length] at hn9
          omega
        have HX8 := Lib.hid (show Ext w w8 from HX7.out.trans hb9)
        clear hp9 ho9 hb9 hn9 HD7 a7 u7 HA7 HU7 HX7
        go_wp2_with fail
        go_ret
        exact ⟨rfl, HX8.out⟩
      · refine ⟨_, (by simp only [List.getElem?_toArray, List.getElem?_cons_succ, List.getElem?_cons_zero]; rfl), by rfl, fun K hK => ?_⟩
        go_simp
        obtain ⟨bl, hbl⟩ : ∃ x, x = u2.heap.size := ⟨_, rfl⟩
        rw [← hbl]
        have hA2 := Ext.alloc u2 (.cells #[.int .i64 ck, .string ct, .string cr] 63)
        have hO2 : Sl (fun b => b = bl) (u2.alloc (.cells #[.int .i64 ck, .string ct, .string cr] 63)) 3 (.slice (some ⟨bl, 0, none⟩) 1 1) (chcs [⟨ck, ⟨ct, cr⟩⟩]) := by rw [hbl]; exact Sl.made u2 (fun b => b = u2.heap.size) 3 1 63 #[.int .i64 ck, .string ct, .string cr] rfl (by decide) rfl
        have hX2 := Ext.trans hE.out hA2
        have hT2 := HT.out.below hA2
        have hR2 := Nat.lt_of_lt_of_le HRL.out hA2.size
        have HN := Lib.hid (show br ≠ bl from by have := HRL.out; omega)
        have hP2 := HP.out.below hA2
        have HDL := Lib.hid (show bl < (u2.alloc (.cells #[.int .i64 ck, .string ct, .string cr] 63)).heap.size from by rw [hbl]; simp)
        refine hK.out _ _ hX2 ?_
        clear hK hbl hA2
        generalize u2.alloc (.cells #[.int .i64 ck, .string ct, .string cr] 63) = u3 at *
        have hE := Lib.hid hX2
        have HD := Lib.hid hO2
        clear hO2 hX2
        have HT := Lib.hid hT2
        have HRL := Lib.hid hR2
        clear hT2 hR2
        have HP := Lib.hid hP2
        clear hP2
        refine WalkN.one 3 (by kernel_rfl) ?_
        refine ⟨_, (by simp only [List.getElem?_toArray, List.getElem?_cons_succ, List.getElem?_cons_zero]; rfl), by rfl, fun K hK => ?_⟩
        refine wp_own chT (.tmp 58) (.tmp 59) rfl rfl HT.out rfl (HLd.out.same (Same.below hE.out)) (chcs_one _) (by have := HLC.out; rw [chcs_length, List.length_nil]; omega) (by have := HLC.out; rw [chcs_length, List.length_nil]; omega) hE.out.size (fun v3 u4 hown hb hg => ?_)
        have hX3 : Ext wd u4 := Below.trans hE.out hb
        have hD3 := HD.out.same (w' := u4) fun x hx => hg.block x (by have := HDL.out; subst hx; exact this) (fun h => by subst hx; exact HN.out (Option.some.inj (show some x = some br from h)).symm)
        have hL3 := Nat.lt_of_lt_of_le HDL.out hg.size
        have hP3 := HP.out.aside HT.out (by decide) hg
        have hR3 := Nat.lt_of_lt_of_le HRL.out hg.size
        refine hK.out _ _ hX3 ?_
        clear hK
        simp only [Act.put, List.setIfInBounds_toArray, List.set_cons_zero, List.set_cons_succ]
        have hE := Lib.hid hX3
        have HT := Lib.hid hown
        have HRL := Lib.hid hR3
        have HD := Lib.hid hD3
        have HDL := Lib.hid hL3
        clear hD3 hL3
        have HP := Lib.hid hP3
        clear hP3
        clear hown hb hg hX3 hR3
        refine WalkN.one 6 (by kernel_rfl) ?_
        refine ⟨_, (by simp only [List.getElem?_toArray, List.getElem?_cons_succ, List.getElem?_cons_zero]; rfl), by rfl, fun K hK => ?_⟩
        refine wp_own chT (.tmp 60) (.tmp 62) rfl rfl HT.out rfl HD.out (chcs_one _) (by have := HLC.out; rw [List.nil_append, chcs_length, chcs_length]; simp; omega) (by have := HLC.out; rw [List.nil_append, chcs_length, chcs_length]; simp; omega) hE.out.size (fun v4 u5 hown hb hg => ?_)
        have hX4 : Ext wd u5 := Below.trans hE.out hb
        have hP4 := HP.out.aside HT.out (by decide) hg
        have HSA := Lib.hid (show Sl (· < u5.heap.size) u5 3 v4 (chcs (cs ++ [⟨ck, ⟨ct, cr⟩⟩])) from by
          have := hown.sl
          rw [List.nil_append, ← chcs_append] at this
          exact this.mono fun b hb => hb.2)
        have hL4 := Nat.lt_of_lt_of_le HDL.out hg.size
        have hR4 := Nat.lt_of_lt_of_le HRL.out hg.size
        have hD4 : Sl (fun b => b = bl) u5 3 (.slice none 0 0) [] := Sl.nil _ _ _
        refine hK.out _ _ hX4 ?_
        clear hK
        simp only [Act.put, List.setIfInBounds_toArray, List.set_cons_zero, List.set_cons_succ]
        have hE := Lib.hid hX4
        have HT := Lib.hid hown
        have HRL := Lib.hid hR4
        have HD := Lib.hid hD4
        have HDL := Lib.hid hL4
        have HP := Lib.hid hP4
        clear hP4
        clear hown hb hg hX4 hR4 hL4 hD4
        refine WalkN.one 8 (by kernel_rfl) ?_
        refine ⟨_, (by simp only [List.getElem?_toArray, List.getElem?_cons_succ, List.getElem?_cons_zero]; rfl), by rfl, fun K hK => ?_⟩
        go_simp
        refine (apply_ne _ _ _ _ _ _ _ cs (cs ++ [⟨ck, ⟨ct, cr⟩⟩]) u5 HSA.out (snoc_ne cs _) (fun W hW => HDA.out W (hE.out.trans hW))).mono ?_
        rintro e u6 ⟨rfl, hb⟩
        have hX5 : Ext wd u6 := Ext.trans hE.out hb
        have hT5 := HT.out.below hb
        have hL5 := Nat.lt_of_lt_of_le HDL.out hb.size
        have hR5 := Nat.lt_of_lt_of_le HRL.out hb.size
        have hD5 : Sl (fun b => b = bl) u6 3 (.slice none 0 0) [] := Sl.nil _ _ _
        have hS5 := (HSA.out.same (Same.below hb)).mono (T := (· < u6.heap.size)) fun b (hb' : b < u5.heap.size) => Nat.lt_of_lt_of_le hb' hb.size
        have hP5 := HP.out.below hb
        refine hK.out _ _ hX5 ?_
        clear hK hb
        have hE := Lib.hid hX5
        have HT := Lib.hid hT5
        have HRL := Lib.hid hR5
        have HD := Lib.hid hD5
        have HDL := Lib.hid hL5
        have HSA := Lib.hid hS5
        have HP := Lib.hid hP5
        clear hP5
        clear hX5 hT5 hR5 hL5 hD5 hS5
        ((refine WalkN.take 9 _ ?_ (by simp only [List.getElem?_toArray, List.getElem?_cons_succ, List.getElem?_cons_zero]; rfl) (by kernel_rfl) (by kernel_rfl) (by rfl) (fun W hW => ?_) ?_; rotate_left; · (go_simp; try with_reducible rfl)); simp only [Act.put, List.setIfInBounds_toArray, List.set_cons_zero, List.set_cons_succ])
        ((refine WalkN.take 10 _ ?_ (by simp only [List.getElem?_toArray, List.getElem?_cons_succ, List.getElem?_cons_zero]; rfl) (by kernel_rfl) (by kernel_rfl) (by rfl) (fun W hW => ?_) ?_; rotate_left; · (go_simp; try with_reducible rfl)); simp only [Act.put, List.setIfInBounds_toArray, List.set_cons_zero, List.set_cons_succ])
        ((refine WalkN.take 11 _ ?_ (by simp only [List.getElem?_toArray, List.getElem?_cons_succ, List.getElem?_cons_zero]; rfl) (by kernel_rfl) (by kernel_rfl) (by rfl) (fun W hW => ?_) ?_; rotate_left; · (go_simp; try with_reducible rfl)); simp only [Act.put, List.setIfInBounds_toArray, List.set_cons_zero, List.set_cons_succ])
        refine WalkN.one 13 (by kernel_rfl) ?_
        refine ⟨_, (by simp only [List.getElem?_toArray, List.getElem?_cons_succ, List.getElem?_cons_zero]; rfl), by rfl, fun K hK => ?_⟩
        have h6 := HP.out.cells
        have f6 := HP.out.free
        go_simp
        have hX6 : Below wd.heap.size wd (u6.setCell ⟨bp, 0, none⟩ (.slice none 0 0)) := Below.setCell hE.out HPB.out _
        refine hK.out _ _ hX6 ?_
        clear hK h6 f6
        generalize u6.setCell ⟨bp, 0, none⟩ (.slice none 0 0) = u7 at *
        have hE := Lib.hid (show Ext wd u7 from hX6)
        clear hX6
        ((refine WalkN.take 14 _ ?_ (by simp only [List.getElem?_toArray, List.getElem?_cons_succ, List.getElem?_cons_zero]; rfl) (by kernel_rfl) (by kernel_rfl) (by rfl) (fun W hW => ?_) ?_; rotate_left; · (go_simp; try with_reducible rfl)); simp only [Act.put, List.setIfInBounds_toArray, List.set_cons_zero, List.set_cons_succ])
        refine WalkN.done (by kernel_rfl) ?_
        have HA7 := Lib.hid (HAd.out.below hE.out)
        have HU7 := Lib.hid (HUd.out.below hE.out)
        have HX7 := Lib.hid (show Ext w u7 from HXd.out.trans hE.out)
        have HD7 := Lib.hid (diff_ok us ts _ _ u7 (HVd.out.up hE.out) (HTd.out.up hE.out) HFU.out.sok HFS.out.sok HFU.out.chk HFS.out.chk)
        have a7 := HA7.out.cells
        have u7 := HU7.out.cells
        clear HAd HUd HCd HXd HTd HVd HLd HDA HSA hE HT HD HP HRL HDL HN HPB
        go_wp2_with fail
        refine HD7.out.mono ?_
        rintro e w8 ⟨v9, cs9, rfl, -, hp9, ho9, hb9⟩
        obtain ⟨ao9, n9, c9, rfl, hn9, -, -⟩ := ho9.sl.len
        obtain rfl : n9 = cs.length := by
          have h1 := hp9.length_eq
          have h2 := HN8.out.2.length_eq
          have h3 := diff_len2 (Nms.plain HFS.out.chk) (Nms.plain HFU.out.chk)
          rw [chcs_length] at hn9
          omega
        have HX8 := Lib.hid (show Ext w w8 from HX7.out.trans hb9)
        clear hp9 ho9 hb9 hn9 HD7 a7 u7 HA7 HU7 HX7
        go_wp2_with fail
        go_ret
        exact ⟨rfl, HX8.out⟩
  · refine ⟨_, (by simp only [List.getElem?_toArray, List.getElem?_cons_succ, List.getElem?_cons_zero]; rfl), by rfl, fun K hK => ?_⟩
    go_simp
    obtain ⟨bl, hbl⟩ : ∃ x, x = wd.heap.size := ⟨_, rfl⟩
    rw [← hbl]
    have hA0 := Ext.alloc wd (.cells #[.int .i64 ck, .string ct, .string cr] 63)
    have hO0 : Sl (fun b => b = bl) (wd.alloc (.cells #[.int .i64 ck, .string ct, .string cr] 63)) 3 (.slice (some ⟨bl, 0, none⟩) 1 1) (chcs [⟨ck, ⟨ct, cr⟩⟩]) := by rw [hbl]; exact Sl.made wd (fun b => b = wd.heap.size) 3 1 63 #[.int .i64 ck, .string ct, .string cr] rfl (by decide) rfl
    have hX0 := Ext.trans hE.out hA0
    have HDL := Lib.hid (show bl < (wd.alloc (.cells #[.int .i64 ck, .string ct, .string cr] 63)).heap.size from by rw [hbl]; simp)
    refine hK.out _ _ hX0 ?_
    clear hK hbl hA0
    generalize wd.alloc (.cells #[.int .i64 ck, .string ct, .string cr] 63) = u1 at *
    have hE := Lib.hid hX0
    have HD := Lib.hid hO0
    clear hO0 hX0
    refine WalkN.two 1 12 (by kernel_rfl) ?_ ?_
    · refine ⟨_, (by simp only [List.getElem?_toArray, List.getElem?_cons_succ, List.getElem?_cons_zero]; rfl), by rfl, fun K hK => ?_⟩
      go_simp
      obtain ⟨br, hbr⟩ : ∃ x, x = u1.heap.size := ⟨_, rfl⟩
      rw [← hbr]
      have hA1 := Ext.alloc u1 (.cells #[] 63)
      have hO1 : Own (u1.alloc (.cells #[] 63)) wd.heap.size 63 3 (.slice (some ⟨br, 0, none⟩) 0 0) [] := by rw [hbr]; exact Own.made u1 hE.out.size 63 3
      have hX1 := Ext.trans hE.out hA1
      have hD1 := HD.out.same (w' := u1.alloc (.cells #[] 63)) fun x hx => hA1.block x (by have := HDL.out; subst hx; exact this)
      have hL1 := Nat.lt_of_lt_of_le HDL.out hA1.size
      have HN := Lib.hid (show br ≠ bl from by have := HDL.out; omega)
      have HRL := Lib.hid (show br < (u1.alloc (.cells #[] 63)).heap.size from by rw [hbr]; simp)
      refine hK.out _ _ hX1 ?_
      clear hK hbr hA1
      generalize u1.alloc (.cells #[] 63) = u2 at *
      have hE := Lib.hid hX1
      have HT := Lib.hid hO1
      clear hO1 hX1
      have HD := Lib.hid hD1
      have HDL := Lib.hid hL1
      clear hD1 hL1
      refine WalkN.two 3 12 (by kernel_rfl) ?_ ?_
      · refine ⟨_, (by simp only [List.getElem?_toArray, List.getElem?_cons_succ, List.getElem?_cons_zero]; rfl), by rfl, fun K hK => ?_⟩
        refine wp_own chT (.tmp 58) (.tmp 59) rfl rfl HT.out rfl (HLd.out.same (Same.below hE.out)) (chcs_one _) (by have := HLC.out; rw [chcs_length, List.length_nil]; omega) (by have := HLC.out; rw [chcs_length, List.length_nil]; omega) hE.out.size (fun v2 u3 hown hb hg => ?_)
        have hX2 : Ext wd u3 := Below.trans hE.out hb
        have hD2 := HD.out.same (w' := u3) fun x hx => hg.block x (by have := HDL.out; subst hx; exact this) (fun h => by subst hx; exact HN.out (Option.some.inj (show some x = some br from h)).symm)
        have hL2 := Nat.lt_of_lt_of_le HDL.out hg.size
        have hR2 := Nat.lt_of_lt_of_le HRL.out hg.size
        refine hK.out _ _ hX2 ?_
        clear hK
        simp only [Act.put, List.setIfInBounds_toArray, List.set_cons_zero, List.set_cons_succ]
        have hE := Lib.hid hX2
        have HT := Lib.hid hown
        have HRL := Lib.hid hR2
        have HD := Lib.hid hD2
        have HDL := Lib.hid hL2
        clear hD2 hL2
        clear hown hb hg hX2 hR2
        refine WalkN.two 6 12 (by kernel_rfl) ?_ ?_
        · refine ⟨_, (by simp only [List.getElem?_toArray, List.getElem?_cons_succ, List.getElem?_cons_zero]; rfl), by rfl, fun K hK => ?_⟩
          refine wp_own chT (.tmp 60) (.tmp 62) rfl rfl HT.out rfl HD.out (chcs_one _) (by have := HLC.out; rw [List.nil_append, chcs_length, chcs_length]; simp; omega) (by have := HLC.out; rw [List.nil_append, chcs_length, chcs_length]; simp; omega) hE.out.size (fun v3 u4 hown hb hg => ?_)
          have hX3 : Ext wd u4 := Below.trans hE.out hb
          have HSA := Lib.hid (show Sl (· < u4.heap.size) u4 3 v3 (chcs (cs ++ [⟨ck, ⟨ct, cr⟩⟩])) from by
            have := hown.sl
            rw [List.nil_append, ← chcs_append] at this
            exact this.mono fun b hb => hb.2)
          have hL3 := Nat.lt_of_lt_of_le HDL.out hg.size
          have hR3 := Nat.lt_of_lt_of_le HRL.out hg.size
          have hD3 : Sl (fun b => b = bl) u4 3 (.slice none 0 0) [] := Sl.nil _ _ _
          refine hK.out _ _ hX3 ?_
          clear hK
          simp only [Act.put, List.setIfInBounds_toArray, List.set_cons_zero, List.set_cons_succ]
          have hE := Lib.hid hX3
          have HT := Lib.hid hown
          have HRL := Lib.hid hR3
          have HD := Lib.hid hD3
          have HDL := Lib.hid hL3
          clear hown hb hg hX3 hR3 hL3 hD3
          refine WalkN.two 8 12 (by kernel_rfl) ?_ ?_
          · refine ⟨_, (by simp only [List.getElem?_toArray, List.getElem?_cons_succ, List.getElem?_cons_zero]; rfl), by rfl, fun K hK => ?_⟩
            go_simp
            refine (apply_ne _ _ _ _ _ _ _ cs (cs ++ [⟨ck, ⟨ct, cr⟩⟩]) u4 HSA.out (snoc_ne cs _) (fun W hW => HDA.out W (hE.out.trans hW))).mono ?_
            rintro e u5 ⟨rfl, hb⟩
            have hX4 : Ext wd u5 := Ext.trans hE.out hb
            have hT4 := HT.out.below hb
            have hL4 := Nat.lt_of_lt_of_le HDL.out hb.size
            have hR4 := Nat.lt_of_lt_of_le HRL.out hb.size
            have hD4 : Sl (fun b => b = bl) u5 3 (.slice none 0 0) [] := Sl.nil _ _ _
            have hS4 := (HSA.out.same (Same.below hb)).mono (T := (· < u5.heap.size)) fun b (hb' : b < u4.heap.size) => Nat.lt_of_lt_of_le hb' hb.size
            refine hK.out _ _ hX4 ?_
            clear hK hb
            have hE := Lib.hid hX4
            have HT := Lib.hid hT4
            have HRL := Lib.hid hR4
            have HD := Lib.hid hD4
            have HDL := Lib.hid hL4
            have HSA := Lib.hid hS4
            clear hX4 hT4 hR4 hL4 hD4 hS4
            ((refine WalkN.take 9 _ ?_ (by simp only [List.getElem?_toArray, List.getElem?_cons_succ, List.getElem?_cons_zero]; rfl) (by kernel_rfl) (by kernel_rfl) (by rfl) (fun W hW => ?_) ?_; rotate_left; · (go_simp; try with_reducible rfl)); simp only [Act.put, List.setIfInBounds_toArray, List.set_cons_zero, List.set_cons_succ])
            ((refine WalkN.take 10 _ ?_ (by simp only [List.getElem?_toArray, List.getElem?_cons_succ, List.getElem?_cons_zero]; rfl) (by kernel_rfl) (by kernel_rfl) (by rfl) (fun W hW => ?_) ?_; rotate_left; · (go_simp; try with_reducible rfl)); simp only [Act.put, List.setIfInBounds_toArray, List.set_cons_zero, List.set_cons_succ])
            ((refine WalkN.take 11 _ ?_ (by simp only [List.getElem?_toArray, List.getElem?_cons_succ, List.getElem?_cons_zero]; rfl) (by kernel_rfl) (by kernel_rfl) (by rfl) (fun W hW => ?_) ?_; rotate_left; · (go_simp; try with_reducible rfl)); simp only [Act.put, List.setIfInBounds_toArray, List.set_cons_zero, List.set_cons_succ])
            refine WalkN.one 12 (by kernel_rfl) ?_
            refine ⟨_, (by simp only [List.getElem?_toArray, List.getElem?_cons_succ, List.getElem?_cons_zero]; rfl), by rfl, fun K hK => ?_⟩
            go_simp
            obtain ⟨bp, hbp⟩ : ∃ x, x = u5.heap.size := ⟨_, rfl⟩
            rw [← hbp]
            have hA5 := Ext.alloc u5 (.cells #[.slice none 0 0] 24)
            have hO5 : Blk (u5.alloc (.cells #[.slice none 0 0] 24)) bp #[.slice none 0 0] 24 := by rw [hbp]; exact Blk.made u5 _ _
            have hX5 := Ext.trans hE.out hA5
            have HPB := Lib.hid (show wd.heap.size ≤ bp from by have := hE.out.size; omega)
            have hT5 := HT.out.below hA5
            have hR5 := Nat.lt_of_lt_of_le HRL.out hA5.size
            have hD5 := HD.out.same (w' := u5.alloc (.cells #[.slice none 0 0] 24)) fun x hx => hA5.block x (by have := HDL.out; subst hx; exact this)
            have hL5 := Nat.lt_of_lt_of_le HDL.out hA5.size
            have hS5 := (HSA.out.same (Same.below hA5)).mono (T := (· < (u5.alloc (.cells #[.slice none 0 0] 24)).heap.size)) fun b (hb : b < u5.heap.size) => Nat.lt_of_lt_of_le hb hA5.size
            refine hK.out _ _ hX5 ?_
            clear hK hbp hA5
            generalize u5.alloc (.cells #[.slice none 0 0] 24) = u6 at *
            have hE := Lib.hid hX5
            have HP := Lib.hid hO5
            clear hO5 hX5
            have HT := Lib.hid hT5
            have HRL := Lib.hid hR5
            clear hT5 hR5
            have HD := Lib.hid hD5
            have HDL := Lib.hid hL5
            clear hD5 hL5
            have HSA := Lib.hid hS5
            clear hS5
            refine WalkN.one 13 (by kernel_rfl) ?_
            refine ⟨_, (by simp only [List.getElem?_toArray, List.getElem?_cons_succ, List.getElem?_cons_zero]; rfl), by rfl, fun K hK => ?_⟩
            have h6 := HP.out.cells
            have f6 := HP.out.free
            go_simp
            have hX6 : Below wd.heap.size wd (u6.setCell ⟨bp, 0, none⟩ (.slice none 0 0)) := Below.setCell hE.out HPB.out _
            refine hK.out _ _ hX6 ?_
            clear hK h6 f6
            generalize u6.setCell ⟨bp, 0, none⟩ (.slice none 0 0) = u7 at *
            have hE := Lib.hid (show Ext wd u7 from hX6)
            clear hX6
            ((refine WalkN.take 14 _ ?_ (by simp only [List.getElem?_toArray, List.getElem?_cons_succ, List.getElem?_cons_zero]; rfl) (by kernel_rfl) (by kernel_rfl) (by rfl) (fun W hW => ?_) ?_; rotate_left; · (go_simp; try with_reducible rfl)); simp only [Act.put, List.setIfInBounds_toArray, List.set_cons_zero, List.set_cons_succ])
            refine WalkN.done (by kernel_rfl) ?_
            have HA7 := Lib.hid (HAd.out.below hE.out)
            have HU7 := Lib.hid (HUd.out.below hE.out)
            have HX7 := Lib.hid (show Ext w u7 from HXd.out.trans hE.out)
            have HD7 := Lib.hid (diff_ok us ts _ _ u7 (HVd.out.up hE.out) (HTd.out.up hE.out) HFU.out.sok HFS.out.sok HFU.out.chk HFS.out.chk)
            have a7 := HA7.out.cells
            have u7 := HU7.out.cells
            clear HAd HUd HCd HXd HTd HVd HLd HDA HSA hE HT HD HP HRL HDL HN HPB
            go_wp2_with fail
            refine HD7.out.mono ?_
            rintro e w8 ⟨v9, cs9, rfl, -, hp9, ho9, hb9⟩
            obtain ⟨ao9, n9, c9, rfl, hn9, -, -⟩ := ho9.sl.len
            obtain rfl : n9 = cs.length := by
              have h1 := hp9.length_eq
              have h2 := HN8.out.2.length_eq
              have h3 := diff_len2 (Nms.plain HFS.out.chk) (Nms.plain HFU.out.chk)
              rw [chcs_length] at hn9
              omega
            have HX8 := Lib.hid (show Ext w w8 from HX7.out.trans hb9)
            clear hp9 ho9 hb9 hn9 HD7 a7 u7 HA7 HU7 HX7
            go_wp2_with fail
            go_ret
            exact ⟨rfl, HX8.out⟩
          · refine ⟨_, (by simp only [List.getElem?_toArray, List.getElem?_cons_succ, List.getElem?_cons_zero]; rfl), by rfl, fun K hK => ?_⟩
            go_simp
            obtain ⟨bp, hbp⟩ : ∃ x, x = u4.heap.size := ⟨_, rfl⟩
            rw [← hbp]
            have hA4 := Ext.alloc u4 (.cells #[.slice none 0 0] 24)
            have hO4 : Blk (u4.alloc (.cells #[.slice none 0 0] 24)) bp #[.slice none 0 0] 24 := by rw [hbp]; exact Blk.made u4 _ _
            have hX4 := Ext.trans hE.out hA4
            have HPB := Lib.hid (show wd.heap.size ≤ bp from by have := hE.out.size; omega)
            have hT4 := HT.out.below hA4
            have hR4 := Nat.lt_of_lt_of_le HRL.out hA4.size
            have hD4 := HD.out.same (w' := u4.alloc (.cells #[.slice none 0 0] 24)) fun x hx => hA4.block x (by have := HDL.out; subst hx; exact this)
            have hL4 := Nat.lt_of_lt_of_le HDL.out hA4.size
            have hS4 := (HSA.out.same (Same.below hA4)).mono (T := (· < (u4.alloc (.cells #[.slice none 0 0] 24)).heap.size)) fun b (hb : b < u4.heap.size) => Nat.lt_of_lt_of_le hb hA4.size
            refine hK.out _ _ hX4 ?_
            clear hK hbp hA4
            generalize u4.alloc (.cells #[.slice none 0 0] 24) = u5 at *
            have hE := Lib.hid hX4
            have HP := Lib.hid hO4
            clear hO4 hX4
            have HT := Lib.hid hT4
            have HRL := Lib.hid hR4
            clear hT4 hR4
            have HD := Lib.hid hD4
            have HDL := Lib.hid hL4
            clear hD4 hL4
            have HSA := Lib.hid hS4
            clear hS4
            refine WalkN.one 8 (by kernel_rfl) ?_
            refine ⟨_, (by simp only [List.getElem?_toArray, List.getElem?_cons_succ, List.getElem?_cons_zero]; rfl), by rfl, fun K hK => ?_⟩
            go_simp
            refine (apply_ne _ _ _ _ _ _ _ cs (cs ++ [⟨ck, ⟨ct, cr⟩⟩]) u5 HSA.out (snoc_ne cs _) (fun W hW => HDA.out W (hE.out.trans hW))).mono ?_
            rintro e u6 ⟨rfl, hb⟩
            have hX5 : Ext wd u6 := Ext.trans hE.out hb
            have hT5 := HT.out.below hb
            have hL5 := Nat.lt_of_lt_of_le HDL.out hb.size
            have hR5 := Nat.lt_of_lt_of_le HRL.out hb.size
            have hD5 : Sl (fun b => b = bl) u6 3 (.slice none 0 0) [] := Sl.nil _ _ _
            have hS5 := (HSA.out.same (Same.below hb)).mono (T := (· < u6.heap.size)) fun b (hb' : b < u5.heap.size) => Nat.lt_of_lt_of_le hb' hb.size
            have hP5 := HP.out.below hb
            refine hK.out _ _ hX5 ?_
            clear hK hb
            have hE := Lib.hid hX5
            have HT := Lib.hid hT5
            have HRL := Lib.hid hR5
            have HD := Lib.hid hD5
            have HDL := Lib.hid hL5
            have HSA := Lib.hid hS5
            have HP := Lib.hid hP5
            clear hP5
            clear hX5 hT5 hR5 hL5 hD5 hS5
            ((refine WalkN.take 9 _ ?_ (by simp only [List.getElem?_toArray, List.getElem?_cons_succ, List.getElem?_cons_zero]; rfl) (by kernel_rfl) (by kernel_rfl) (by rfl) (fun W hW => ?_) ?_; rotate_left; · (go_simp; try with_reducible rfl)); simp only [Act.put, List.setIfInBounds_toArray, List.set_cons_zero, List.set_cons_succ])
            ((refine WalkN.take 10 _ ?_ (by simp only [List.getElem?_toArray, List.getElem?_cons_succ, List.getElem?_cons_zero]; rfl) (by kernel_rfl) (by kernel_rfl) (by rfl) (fun W hW => ?_) ?_; rotate_left; · (go_simp; try with_reducible rfl)); simp only [Act.put, List.setIfInBounds_toArray, List.set_cons_zero, List.set_cons_succ])
            ((refine WalkN.take 11 _ ?_ (by simp only [List.getElem?_toArray, List.getElem?_cons_succ, List.getElem?_cons_zero]; rfl) (by kernel_rfl) (by kernel_rfl) (by rfl) (fun W hW => ?_) ?_; rotate_left; · (go_simp; try with_reducible rfl)); simp only [Act.put, List.setIfInBounds_toArray, List.set_cons_zero, List.set_cons_succ])
            refine WalkN.one 13 (by kernel_rfl) ?_
            refine ⟨_, (by simp only [List.getElem?_toArray, List.getElem?_cons_succ, List.getElem?_cons_zero]; rfl), by rfl, fun K hK => ?_⟩
            have h6 := HP.out.cells
            have f6 := HP.out.free
            go_simp
            have hX6 : Below wd.heap.size wd (u6.setCell ⟨bp, 0, none⟩ (.slice none 0 0)) := Below.setCell hE.out HPB.out _
            refine hK.out _ _ hX6 ?_
            clear hK h6 f6
            generalize u6.setCell ⟨bp, 0, none⟩ (.slice none 0 0) = u7 at *
            have hE := Lib.hid (show Ext wd u7 from hX6)
            clear hX6
            ((refine WalkN.take 14 _ ?_ (by simp only [List.getElem?_toArray, List.getElem?_cons_succ, List.getElem?_cons_zero]; rfl) (by kernel_rfl) (by kernel_rfl) (by rfl) (fun W hW => ?_) ?_; rotate_left; · (go_simp; try with_reducible rfl)); simp only [Act.put, List.setIfInBounds_toArray, List.set_cons_zero, List.set_cons_succ])
            refine WalkN.done (by kernel_rfl) ?_
            have HA7 := Lib.hid (HAd.out.below hE.out)
            have HU7 := Lib.hid (HUd.out.below hE.out)
            have HX7 := Lib.hid (show Ext w u7 from HXd.out.trans hE.out)
            have HD7 := Lib.hid (diff_ok us ts _ _ u7 (HVd.out.up hE.out) (HTd.out.up hE.out) HFU.out.sok HFS.out.sok HFU.out.chk HFS.out.chk)
            have a7 := HA7.out.cells
            have u7 := HU7.out.cells
            clear HAd HUd HCd HXd HTd HVd HLd HDA HSA hE HT HD HP HRL HDL HN HPB
            go_wp2_with fail
            refine HD7.out.mono ?_
            rintro e w8 ⟨v9, cs9, rfl, -, hp9, ho9, hb9⟩
            obtain ⟨ao9, n9, c9, rfl, hn9, -, -⟩ := ho9.sl.len
            obtain rfl : n9 = cs.length := by
              have h1 := hp9.length_eq
              have h2 := HN8.out.2.length_eq
              have h3 := diff_len2 (Nms.plain HFS.out.chk) (Nms.plain HFU.out.chk)
              rw [chcs_length] at hn9
              omega
            have HX8 := Lib.hid (show Ext w w8 from HX7.out.trans hb9)
            clear hp9 ho9 hb9 hn9 HD7 a7 u7 HA7 HU7 HX7
            go_wp2_with fail
            go_ret
            exact ⟨rfl, HX8.out⟩
        · refine ⟨_, (by simp only [List.getElem?_toArray, List.getElem?_cons_succ, List.getElem?_cons_zero]; rfl), by rfl, fun K hK => ?_⟩
          go_simp
          obtain ⟨bp, hbp⟩ : ∃ x, x = u3.heap.size := ⟨_, rfl⟩
          rw [← hbp]
          have hA3 := Ext.alloc u3 (.cells #[.slice none 0 0] 24)
          have hO3 : Blk (u3.alloc (.cells #[.slice none 0 0] 24)) bp #[.slice none 0 0] 24 := by rw [hbp]; exact Blk.made u3 _ _
          have hX3 := Ext.trans hE.out hA3
          have HPB := Lib.hid (show wd.heap.size ≤ bp from by have := hE.out.size; omega)
          have hT3 := HT.out.below hA3
          have hR3 := Nat.lt_of_lt_of_le HRL.out hA3.size
          have hD3 := HD.out.same (w' := u3.alloc (.cells #[.slice none 0 0] 24)) fun x hx => hA3.block x (by have := HDL.out; subst hx; exact this)
          have hL3 := Nat.lt_of_lt_of_le HDL.out hA3.size
          refine hK.out _ _ hX3 ?_
          clear hK hbp hA3
          generalize u3.alloc (.cells #[.slice none 0 0] 24) = u4 at *
          have hE := Lib.hid hX3
          have HP := Lib.hid hO3
          clear hO3 hX3
          have HT := Lib.hid hT3
          have HRL := Lib.hid hR3
          clear hT3 hR3
          have HD := Lib.hid hD3
          have HDL := Lib.hid hL3
          clear hD3 hL3
          refine WalkN.one 6 (by kernel_rfl) ?_
          refine ⟨_, (by simp only [List.getElem?_toArray, List.getElem?_cons_succ, List.getElem?_cons_zero]; rfl), by rfl, fun K hK => ?_⟩
          refine wp_own chT (.tmp 60) (.tmp 62) rfl rfl HT.out rfl HD.out (chcs_one _) (by have := HLC.out; rw [List.nil_append, chcs_length, chcs_length]; simp; omega) (by have := HLC.out; rw [List.nil_append, chcs_length, chcs_length]; simp; omega) hE.out.size (fun v4 u5 hown hb hg => ?_)
          have hX4 : Ext wd u5 := Below.trans hE.out hb
          have hP4 := HP.out.aside HT.out (by decide) hg
          have HSA := Lib.hid (show Sl (· < u5.heap.size) u5 3 v4 (chcs (cs ++ [⟨ck, ⟨ct, cr⟩⟩])) from by
            have := hown.sl
            rw [List.nil_append, ← chcs_append] at this
            exact this.mono fun b hb => hb.2)
          have hL4 := Nat.lt_of_lt_of_le HDL.out hg.size
          have hR4 := Nat.lt_of_lt_of_le HRL.out hg.size
          have hD4 : Sl (fun b => b = bl) u5 3 (.slice none 0 0) [] := Sl.nil _ _ _
          refine hK.out _ _ hX4 ?_
          clear hK
          simp only [Act.put, List.setIfInBounds_toArray, List.set_cons_zero, List.set_cons_succ]
          have hE := Lib.hid hX4
          have HT := Lib.hid hown
          have HRL := Lib.hid hR4
          have HD := Lib.hid hD4
          have HDL := Lib.hid hL4
          have HP := Lib.hid hP4
          clear hP4
          clear hown hb hg hX4 hR4 hL4 hD4
          refine WalkN.one 8 (by kernel_rfl) ?_
          refine ⟨_, (by simp only [List.getElem?_toArray, List.getElem?_cons_succ, List.getElem?_cons_zero]; rfl), by rfl, fun K hK => ?_⟩
          go_simp
          refine (apply_ne _ _ _ _ _ _ _ cs (cs ++ [⟨ck, ⟨ct, cr⟩⟩]) u5 HSA.out (snoc_ne cs _) (fun W hW => HDA.out W (hE.out.trans hW))).mono ?_
          rintro e u6 ⟨rfl, hb⟩
          have hX5 : Ext wd u6 := Ext.trans hE.out hb
          have hT5 := HT.out.below hb
          have hL5 := Nat.lt_of_lt_of_le HDL.out hb.size
          have hR5 := Nat.lt_of_lt_of_le HRL.out hb.size
          have hD5 : Sl (fun b => b = bl) u6 3 (.slice none 0 0) [] := Sl.nil _ _ _
          have hS5 := (HSA.out.same (Same.below hb)).mono (T := (· < u6.heap.size)) fun b (hb' : b < u5.heap.size) => Nat.lt_of_lt_of_le hb' hb.size
          have hP5 := HP.out.below hb
          refine hK.out _ _ hX5 ?_
          clear hK hb
          have hE := Lib.hid hX5
          have HT := Lib.hid hT5
          have HRL := Lib.hid hR5
          have HD := Lib.hid hD5
          have HDL := Lib.hid hL5
          have HSA := Lib.hid hS5
          have HP := Lib.hid hP5
          clear hP5
          clear hX5 hT5 hR5 hL5 hD5 hS5
          ((refine WalkN.take 9 _ ?_ (by simp only [List.getElem?_toArray, List.getElem?_cons_succ, List.getElem?_cons_zero]; rfl) (by kernel_rfl) (by kernel_rfl) (by rfl) (fun W hW => ?_) ?_; rotate_left; · (go_simp; try with_reducible rfl)); simp only [Act.put, List.setIfInBounds_toArray, List.set_cons_zero, List.set_cons_succ])
          ((refine WalkN.take 10 _ ?_ (by simp only [List.getElem?_toArray, List.getElem?_cons_succ, List.getElem?_cons_zero]; rfl) (by kernel_rfl) (by kernel_rfl) (by rfl) (fun W hW => ?_) ?_; rotate_left; · (go_simp; try with_reducible rfl)); simp only [Act.put, List.setIfInBounds_toArray, List.set_cons_zero, List.set_cons_succ])
          ((refine WalkN.take 11 _ ?_ (by simp only [List.getElem?_toArray, List.getElem?_cons_succ, List.getElem?_cons_zero]; rfl) (by kernel_rfl) (by kernel_rfl) (by rfl) (fun W hW => ?_) ?_; rotate_left; · (go_simp; try with_reducible rfl)); simp only [Act.put, List.setIfInBounds_toArray, List.set_cons_zero, List.set_cons_succ])
          refine WalkN.one 13 (by kernel_rfl) ?_
          refine ⟨_, (by simp only [List.getElem?_toArray, List.getElem?_cons_succ, List.getElem?_cons_zero]; rfl), by rfl, fun K hK => ?_⟩
          have h6 := HP.out.cells
          have f6 := HP.out.free
          go_simp
          have hX6 : Below wd.heap.size wd (u6.setCell ⟨bp, 0, none⟩ (.slice none 0 0)) := Below.setCell hE.out HPB.out _
          refine hK.out _ _ hX6 ?_
          clear hK h6 f6
          generalize u6.setCell ⟨bp, 0, none⟩ (.slice none 0 0) = u7 at *
          have hE := Lib.hid (show Ext wd u7 from hX6)
          clear hX6
          ((refine WalkN.take 14 _ ?_ (by simp only [List.getElem?_toArray, List.getElem?_cons_succ, List.getElem?_cons_zero]; rfl) (by kernel_rfl) (by kernel_rfl) (by rfl) (fun W hW => ?_) ?_; rotate_left; · (go_simp; try with_reducible rfl)); simp only [Act.put, List.setIfInBounds_toArray, List.set_cons_zero, List.set_cons_succ])
          refine WalkN.done (by kernel_rfl) ?_
          have HA7 := Lib.hid (HAd.out.below hE.out)
          have HU7 := Lib.hid (HUd.out.below hE.out)
          have HX7 := Lib.hid (show Ext w u7 from HXd.out.trans hE.out)
          have HD7 := Lib.hid (diff_ok us ts _ _ u7 (HVd.out.up hE.out) (HTd.out.up hE.out) HFU.out.sok HFS.out.sok HFU.out.chk HFS.out.chk)
          have a7 := HA7.out.cells
          have u7 := HU7.out.cells
          clear HAd HUd HCd HXd HTd HVd HLd HDA HSA hE HT HD HP HRL HDL HN HPB
          go_wp2_with fail
          refine HD7.out.mono ?_
          rintro e w8 ⟨v9, cs9, rfl, -, hp9, ho9, hb9⟩
          obtain ⟨ao9, n9, c9, rfl, hn9, -, -⟩ := ho9.sl.len
          obtain rfl : n9 = cs.length := by
            have h1 := hp9.length_eq
            have h2 := HN8.out.2.length_eq
            have h3 := diff_len2 (Nms.plain HFS.out.chk) (Nms.plain HFU.out.chk)
            rw [chcs_length] at hn9
            omega
          have HX8 := Lib.hid (show Ext w w8 from HX7.out.trans hb9)
          clear hp9 ho9 hb9 hn9 HD7 a7 u7 HA7 HU7 HX7
          go_wp2_with fail
          go_ret
          exact ⟨rfl, HX8.out⟩
      · refine ⟨_, (by simp only [List.getElem?_toArray, List.getElem?_cons_succ, List.getElem?_cons_zero]; rfl), by rfl, fun K hK => ?_⟩
        go_simp
        obtain ⟨bp, hbp⟩ : ∃ x, x = u2.heap.size := ⟨_, rfl⟩
        rw [← hbp]
        have hA2 := Ext.alloc u2 (.cells #[.slice none 0 0] 24)
        have hO2 : Blk (u2.alloc (.cells #[.slice none 0 0] 24)) bp #[.slice none 0 0] 24 := by rw [hbp]; exact Blk.made u2 _ _
        have hX2 := Ext.trans hE.out hA2
        have HPB := Lib.hid (show wd.heap.size ≤ bp from by have := hE.out.size; omega)
        have hT2 := HT.out.below hA2
        have hR2 := Nat.lt_of_lt_of_le HRL.out hA2.size
        have hD2 := HD.out.same (w' := u2.alloc (.cells #[.slice none 0 0] 24)) fun x hx => hA2.block x (by have := HDL.out; subst hx; exact this)
        have hL2 := Nat.lt_of_lt_of_le HDL.out hA2.size
        refine hK.out _ _ hX2 ?_
        clear hK hbp hA2
        generalize u2.alloc (.cells #[.slice none 0 0] 24) = u3 at *
        have hE := Lib.hid hX2
        have HP := Lib.hid hO2
        clear hO2 hX2
        have HT := Lib.hid hT2
        have HRL := Lib.hid hR2
        clear hT2 hR2
        have HD := Lib.hid hD2
        have HDL := Lib.hid hL2
        clear hD2 hL2
        refine WalkN.one 3 (by kernel_rfl) ?_
        refine ⟨_, (by simp only [List.getElem?_toArray, List.getElem?_cons_succ, List.getElem?_cons_zero]; rfl), by rfl, fun K hK => ?_⟩
        refine wp_own chT (.tmp 58) (.tmp 59) rfl rfl HT.out rfl (HLd.out.same (Same.below hE.out)) (chcs_one _) (by have := HLC.out; rw [chcs_length, List.length_nil]; omega) (by have := HLC.out; rw [chcs_length, List.length_nil]; omega) hE.out.size (fun v3 u4 hown hb hg => ?_)
        have hX3 : Ext wd u4 := Below.trans hE.out hb
        have hD3 := HD.out.same (w' := u4) fun x hx => hg.block x (by have := HDL.out; subst hx; exact this) (fun h => by subst hx; exact HN.out (Option.some.inj (show some x = some br from h)).symm)
        have hL3 := Nat.lt_of_lt_of_le HDL.out hg.size
        have hP3 := HP.out.aside HT.out (by decide) hg
        have hR3 := Nat.lt_of_lt_of_le HRL.out hg.size
        refine hK.out _ _ hX3 ?_
        clear hK
        simp only [Act.put, List.setIfInBounds_toArray, List.set_cons_zero, List.set_cons_succ]
        have hE := Lib.hid hX3
        have HT := Lib.hid hown
        have HRL := Lib.hid hR3
        have HD := Lib.hid hD3
        have HDL := Lib.hid hL3
        clear hD3 hL3
        have HP := Lib.hid hP3
        clear hP3
        clear hown hb hg hX3 hR3
        refine WalkN.one 6 (by kernel_rfl) ?_
        refine ⟨_, (by simp only [List.getElem?_toArray, List.getElem?_cons_succ, List.getElem?_cons_zero]; rfl), by rfl, fun K hK => ?_⟩
        refine wp_own chT (.tmp 60) (.tmp 62) rfl rfl HT.out rfl HD.out (chcs_one _) (by have := HLC.out; rw [List.nil_append, chcs_length, chcs_length]; simp; omega) (by have := HLC.out; rw [List.nil_append, chcs_length, chcs_length]; simp; omega) hE.out.size (fun v4 u5 hown hb hg => ?_)
        have hX4 : Ext wd u5 := Below.trans hE.out hb
        have hP4 := HP.out.aside HT.out (by decide) hg
        have HSA := Lib.hid (show Sl (· < u5.heap.size) u5 3 v4 (chcs (cs ++ [⟨ck, ⟨ct, cr⟩⟩])) from by
          have := hown.sl
          rw [List.nil_append, ← chcs_append] at this
          exact this.mono fun b hb => hb.2)
        have hL4 := Nat.lt_of_lt_of_le HDL.out hg.size
        have hR4 := Nat.lt_of_lt_of_le HRL.out hg.size
        have hD4 : Sl (fun b => b = bl) u5 3 (.slice none 0 0) [] := Sl.nil _ _ _
        refine hK.out _ _ hX4 ?_
        clear hK
        simp only [Act.put, List.setIfInBounds_toArray, List.set_cons_zero, List.set_cons_succ]
        have hE := Lib.hid hX4
        have HT := Lib.hid hown
        have HRL := Lib.hid hR4
        have HD := Lib.hid hD4
        have HDL := Lib.hid hL4
        have HP := Lib.hid hP4
        clear hP4
        clear hown hb hg hX4 hR4 hL4 hD4
        refine WalkN.one 8 (by kernel_rfl) ?_
        refine ⟨_, (by simp only [List.getElem?_toArray, List.getElem?_cons_succ, List.getElem?_cons_zero]; rfl), by rfl, fun K hK => ?_⟩
        go_simp
        refine (apply_ne _ _ _ _ _ _ _ cs (cs ++ [⟨ck, ⟨ct, cr⟩⟩]) u5 HSA.out (snoc_ne cs _) (fun W hW => HDA.out W (hE.out.trans hW))).mono ?_
        rintro e u6 ⟨rfl, hb⟩
        have hX5 : Ext wd u6 := Ext.trans hE.out hb
        have hT5 := HT.out.below hb
        have hL5 := Nat.lt_of_lt_of_le HDL.out hb.size
        have hR5 := Nat.lt_of_lt_of_le HRL.out hb.size
        have hD5 : Sl (fun b => b = bl) u6 3 (.slice none 0 0) [] := Sl.nil _ _ _
        have hS5 := (HSA.out.same (Same.below hb)).mono (T := (· < u6.heap.size)) fun b (hb' : b < u5.heap.size) => Nat.lt_of_lt_of_le hb' hb.size
        have hP5 := HP.out.below hb
        refine hK.out _ _ hX5 ?_
        clear hK hb
        have hE := Lib.hid hX5
        have HT := Lib.hid hT5
        have HRL := Lib.hid hR5
        have HD := Lib.hid hD5
        have HDL := Lib.hid hL5
        have HSA := Lib.hid hS5
        have HP := Lib.hid hP5
        clear hP5
        clear hX5 hT5 hR5 hL5 hD5 hS5
        ((refine WalkN.take 9 _ ?_ (by simp only [List.getElem?_toArray, List.getElem?_cons_succ, List.getElem?_cons_zero]; rfl) (by kernel_rfl) (by kernel_rfl) (by rfl) (fun W hW => ?_) ?_; rotate_left; · (go_simp; try with_reducible rfl)); simp only [Act.put, List.setIfInBounds_toArray, List.set_cons_zero, List.set_cons_succ])
        ((refine WalkN.take 10 _ ?_ (by simp only [List.getElem?_toArray, List.getElem?_cons_succ, List.getElem?_cons_zero]; rfl) (by kernel_rfl) (by kernel_rfl) (by rfl) (fun W hW => ?_) ?_; rotate_left; · (go_simp; try with_reducible rfl)); simp only [Act.put, List.setIfInBounds_toArray, List.set_cons_zero, List.set_cons_succ])
        ((refine WalkN.take 11 _ ?_ (by simp only [List.getElem?_toArray, List.getElem?_cons_succ, List.getElem?_cons_zero]; rfl) (by kernel_rfl) (by kernel_rfl) (by rfl) (fun W hW => ?_) ?_; rotate_left; · (go_simp; try with_reducible rfl)); simp only [Act.put, List.setIfInBounds_toArray, List.set_cons_zero, List.set_cons_succ])
        refine WalkN.one 13 (by kernel_rfl) ?_
        refine ⟨_, (by simp only [List.getElem?_toArray, List.getElem?_cons_succ, List.getElem?_cons_zero]; rfl), by rfl, fun K hK => ?_⟩
        have h6 := HP.out.cells
        have f6 := HP.out.free
        go_simp
        have hX6 : Below wd.heap.size wd (u6.setCell ⟨bp, 0, none⟩ (.slice none 0 0)) := Below.setCell hE.out HPB.out _
        refine hK.out _ _ hX6 ?_
        clear hK h6 f6
        generalize u6.setCell ⟨bp, 0, none⟩ (.slice none 0 0) = u7 at *
        have hE := Lib.hid (show Ext wd u7 from hX6)
        clear hX6
        ((refine WalkN.take 14 _ ?_ (by simp only [List.getElem?_toArray, List.getElem?_cons_succ, List.getElem?_cons_zero]; rfl) (by kernel_rfl) (by kernel_rfl) (by rfl) (fun W hW => ?_) ?_; rotate_left; · (go_simp; try with_reducible rfl)); simp only [Act.put, List.setIfInBounds_toArray, List.set_cons_zero, List.set_cons_succ])
        refine WalkN.done (by kernel_rfl) ?_
        have HA7 := Lib.hid (HAd.out.below hE.out)
        have HU7 := Lib.hid (HUd.out.below hE.out)
        have HX7 := Lib.hid (show Ext w u7 from HXd.out.trans hE.out)
        have HD7 := Lib.hid (diff_ok us ts _ _ u7 (HVd.out.up hE.out) (HTd.out.up hE.out) HFU.out.sok HFS.out.sok HFU.out.chk HFS.out.chk)
        have a7 := HA7.out.cells
        have u7 := HU7.out.cells
        clear HAd HUd HCd HXd HTd HVd HLd HDA HSA hE HT HD HP HRL HDL HN HPB
        go_wp2_with fail
        refine HD7.out.mono ?_
        rintro e w8 ⟨v9, cs9, rfl, -, hp9, ho9, hb9⟩
        obtain ⟨ao9, n9, c9, rfl, hn9, -, -⟩ := ho9.sl.len
        obtain rfl : n9 = cs.length := by
          have h1 := hp9.length_eq
          have h2 := HN8.out.2.length_eq
          have h3 := diff_len2 (Nms.plain HFS.out.chk) (Nms.plain HFU.out.chk)
          rw [chcs_length] at hn9
          omega
        have HX8 := Lib.hid (show Ext w w8 from HX7.out.trans hb9)
        clear hp9 ho9 hb9 hn9 HD7 a7 u7 HA7 HU7 HX7
        go_wp2_with fail
        go_ret
        exact ⟨rfl, HX8.out⟩
    · refine ⟨_, (by simp only [List.getElem?_toArray, List.getElem?_cons_succ, List.getElem?_cons_zero]; rfl), by rfl, fun K hK => ?_⟩
      go_simp
      obtain ⟨bp, hbp⟩ : ∃ x, x = u1.heap.size := ⟨_, rfl⟩
      rw [← hbp]
      have hA1 := Ext.alloc u1 (.cells #[.slice none 0 0] 24)
      have hO1 : Blk (u1.alloc (.cells #[.slice none 0 0] 24)) bp #[.slice none 0 0] 24 := by rw [hbp]; exact Blk.made u1 _ _
      have hX1 := Ext.trans hE.out hA1
      have HPB := Lib.hid (show wd.heap.size ≤ bp from by have := hE.out.size; omega)
      have hD1 := HD.out.same (w' := u1.alloc (.cells #[.slice none 0 0] 24)) fun x hx => hA1.block x (by have := HDL.out; subst hx; exact this)
      have hL1 := Nat.lt_of_lt_of_le HDL.out hA1.size
      refine hK.out _ _ hX1 ?_
      clear hK hbp hA1
      generalize u1.alloc (.cells #[.slice none 0 0] 24) = u2 at *
      have hE := Lib.hid hX1
      have HP := Lib.hid hO1
      clear hO1 hX1
      have HD := Lib.hid hD1
      have HDL := Lib.hid hL1
      clear hD1 hL1
      refine WalkN.one 1 (by kernel_rfl) ?_
      refine ⟨_, (by simp only [List.getElem?_toArray, List.getElem?_cons_succ, List.getElem?_cons_zero]; rfl), by rfl, fun K hK => ?_⟩
      go_simp
      obtain ⟨br, hbr⟩ : ∃ x, x = u2.heap.size := ⟨_, rfl⟩
      rw [← hbr]
      have hA2 := Ext.alloc u2 (.cells #[] 63)
      have hO2 : Own (u2.alloc (.cells #[] 63)) wd.heap.size 63 3 (.slice (some ⟨br, 0, none⟩) 0 0) [] := by rw [hbr]; exact Own.made u2 hE.out.size 63 3
      have hX2 := Ext.trans hE.out hA2
      have hD2 := HD.out.same (w' := u2.alloc (.cells #[] 63)) fun x hx => hA2.block x (by have := HDL.out; subst hx; exact this)
      have hL2 := Nat.lt_of_lt_of_le HDL.out hA2.size
      have HN := Lib.hid (show br ≠ bl from by have := HDL.out; omega)
      have hP2 := HP.out.below hA2
      have HRL := Lib.hid (show br < (u2.alloc (.cells #[] 63)).heap.size from by rw [hbr]; simp)
      refine hK.out _ _ hX2 ?_
      clear hK hbr hA2
      generalize u2.alloc (.cells #[] 63) = u3 at *
      have hE := Lib.hid hX2
      have HT := Lib.hid hO2
      clear hO2 hX2
      have HD := Lib.hid hD2
      have HDL := Lib.hid hL2
      clear hD2 hL2
      have HP := Lib.hid hP2
      clear hP2
      refine WalkN.one 3 (by kernel_rfl) ?_
      refine ⟨_, (by simp only [List.getElem?_toArray, List.getElem?_cons_succ, List.getElem?_cons_zero]; rfl), by rfl, fun K hK => ?_⟩
      refine wp_own chT (.tmp 58) (.tmp 59) rfl rfl HT.out rfl (HLd.out.same (Same.below hE.out)) (chcs_one _) (by have := HLC.out; rw [chcs_length, List.length_nil]; omega) (by have := HLC.out; rw [chcs_length, List.length_nil]; omega) hE.out.size (fun v3 u4 hown hb hg => ?_)
      have hX3 : Ext wd u4 := Below.trans hE.out hb
      have hD3 := HD.out.same (w' := u4) fun x hx => hg.block x (by have := HDL.out; subst hx; exact this) (fun h => by subst hx; exact HN.out (Option.some.inj (show some x = some br from h)).symm)
      have hL3 := Nat.lt_of_lt_of_le HDL.out hg.size
      have hP3 := HP.out.aside HT.out (by decide) hg
      have hR3 := Nat.lt_of_lt_of_le HRL.out hg.size
      refine hK.out _ _ hX3 ?_
      clear hK
      simp only [Act.put, List.setIfInBounds_toArray, List.set_cons_zero, List.set_cons_succ]
      have hE := Lib.hid hX3
      have HT := Lib.hid hown
      have HRL := Lib.hid hR3
      have HD := Lib.hid hD3
      have HDL := Lib.hid hL3
      clear hD3 hL3
      have HP := Lib.hid hP3
      clear hP3
      clear hown hb hg hX3 hR3
      refine WalkN.one 6 (by kernel_rfl) ?_
      refine ⟨_, (by simp only [List.getElem?_toArray, List.getElem?_cons_succ, List.getElem?_cons_zero]; rfl), by rfl, fun K hK => ?_⟩
      refine wp_own chT (.tmp 60) (.tmp 62) rfl rfl HT.out rfl HD.out (chcs_one _) (by have := HLC.out; rw [List.nil_append, chcs_length, chcs_length]; simp; omega) (by have := HLC.out; rw [List.nil_append, chcs_length, chcs_length]; simp; omega) hE.out.size (fun v4 u5 hown hb hg => ?_)
      have hX4 : Ext wd u5 := Below.trans hE.out hb
      have hP4 := HP.out.aside HT.out (by decide) hg
      have HSA := Lib.hid (show Sl (· < u5.heap.size) u5 3 v4 (chcs (cs ++ [⟨ck, ⟨ct, cr⟩⟩])) from by
        have := hown.sl
        rw [List.nil_append, ← chcs_append] at this
        exact this.mono fun b hb => hb.2)
      have hL4 := Nat.lt_of_lt_of_le HDL.out hg.size
      have hR4 := Nat.lt_of_lt_of_le HRL.out hg.size
      have hD4 : Sl (fun b => b = bl) u5 3 (.slice none 0 0) [] := Sl.nil _ _ _
      refine hK.out _ _ hX4 ?_
      clear hK
      simp only [Act.put, List.setIfInBounds_toArray, List.set_cons_zero, List.set_cons_succ]
      have hE := Lib.hid hX4
      have HT := Lib.hid hown
      have HRL := Lib.hid hR4
      have HD := Lib.hid hD4
      have HDL := Lib.hid hL4
      have HP := Lib.hid hP4
      clear hP4
      clear hown hb hg hX4 hR4 hL4 hD4
      refine WalkN.one 8 (by kernel_rfl) ?_
      refine ⟨_, (by simp only [List.getElem?_toArray, List.getElem?_cons_succ, List.getElem?_cons_zero]; rfl), by rfl, fun K hK => ?_⟩
      go_simp
      refine (apply_ne _ _ _ _ _ _ _ cs (cs ++ [⟨ck, ⟨ct, cr⟩⟩]) u5 HSA.out (snoc_ne cs _) (fun W hW => HDA.out W (hE.out.trans hW))).mono ?_
      rintro e u6 ⟨rfl, hb⟩
      have hX5 : Ext wd u6 := Ext.trans hE.out hb
      have hT5 := HT.out.below hb
      have hL5 := Nat.lt_of_lt_of_le HDL.out hb.size
      have hR5 := Nat.lt_of_lt_of_le HRL.out hb.size
      have hD5 : Sl (fun b => b = bl) u6 3 (.slice none 0 0) [] := Sl.nil _ _ _
      have hS5 := (HSA.out.same (Same.below hb)).mono (T := (· < u6.heap.size)) fun b (hb' : b < u5.heap.size) => Nat.lt_of_lt_of_le hb' hb.size
      have hP5 := HP.out.below hb
      refine hK.out _ _ hX5 ?_
      clear hK hb
      have hE := Lib.hid hX5
      have HT := Lib.hid hT5
      have HRL := Lib.hid hR5
      have HD := Lib.hid hD5
      have HDL := Lib.hid hL5
      have HSA := Lib.hid hS5
      have HP := Lib.hid hP5
      clear hP5
      clear hX5 hT5 hR5 hL5 hD5 hS5
      ((refine WalkN.take 9 _ ?_ (by simp only [List.getElem?_toArray, List.getElem?_cons_succ, List.getElem?_cons_zero]; rfl) (by kernel_rfl) (by kernel_rfl) (by rfl) (fun W hW => ?_) ?_; rotate_left; · (go_simp; try with_reducible rfl)); simp only [Act.put, List.setIfInBounds_toArray, List.set_cons_zero, List.set_cons_succ])
      ((refine WalkN.take 10 _ ?_ (by simp only [List.getElem?_toArray, List.getElem?_cons_succ, List.getElem?_cons_zero]; rfl) (by kernel_rfl) (by kernel_rfl) (by rfl) (fun W hW => ?_) ?_; rotate_left; · (go_simp; try with_reducible rfl)); simp only [Act.put, List.setIfInBounds_toArray, List.set_cons_zero, List.set_cons_succ])
      ((refine WalkN.take 11 _ ?_ (by simp only [List.getElem?_toArray, List.getElem?_cons_succ, List.getElem?_cons_zero]; rfl) (by kernel_rfl) (by kernel_rfl) (by rfl) (fun W hW => ?_) ?_; rotate_left; · (go_simp; try with_reducible rfl)); simp only [Act.put, List.setIfInBounds_toArray, List.set_cons_zero, List.set_cons_succ])
      refine WalkN.one 13 (by kernel_rfl) ?_
      refine ⟨_, (by simp only [List.getElem?_toArray, List.getElem?_cons_succ, List.getElem?_cons_zero]; rfl), by rfl, fun K hK => ?_⟩
      have h6 := HP.out.cells
      have f6 := HP.out.free
      go_simp
      have hX6 : Below wd.heap.size wd (u6.setCell ⟨bp, 0, none⟩ (.slice none 0 0)) := Below.setCell hE.out HPB.out _
      refine hK.out _ _ hX6 ?_
      clear hK h6 f6
      generalize u6.setCell ⟨bp, 0, none⟩ (.slice none 0 0) = u7 at *
      have hE := Lib.hid (show Ext wd u7 from hX6)
      clear hX6
      ((refine WalkN.take 14 _ ?_ (by simp only [List.getElem?_toArray, List.getElem?_cons_succ, List.getElem?_cons_zero]; rfl) (by kernel_rfl) (by kernel_rfl) (by rfl) (fun W hW => ?_) ?_; rotate_left; · (go_simp; try with_reducible rfl)); simp only [Act.put, List.setIfInBounds_toArray, List.set_cons_zero, List.set_cons_succ])
      refine WalkN.done (by kernel_rfl) ?_
      have HA7 := Lib.hid (HAd.out.below hE.out)
      have HU7 := Lib.hid (HUd.out.below hE.out)
      have HX7 := Lib.hid (show Ext w u7 from HXd.out.trans hE.out)
      have HD7 := Lib.hid (diff_ok us ts _ _ u7 (HVd.out.up hE.out) (HTd.out.up hE.out) HFU.out.sok HFS.out.sok HFU.out.chk HFS.out.chk)
      have a7 := HA7.out.cells
      have u7 := HU7.out.cells
      clear HAd HUd HCd HXd HTd HVd HLd HDA HSA hE HT HD HP HRL HDL HN HPB
      go_wp2_with fail
      refine HD7.out.mono ?_
      rintro e w8 ⟨v9, cs9, rfl, -, hp9, ho9, hb9⟩
      obtain ⟨ao9, n9, c9, rfl, hn9, -, -⟩ := ho9.sl.len
      obtain rfl : n9 = cs.length := by
        have h1 := hp9.length_eq
        have h2 := HN8.out.2.length_eq
        have h3 := diff_len2 (Nms.plain HFS.out.chk) (Nms.plain HFU.out.chk)
        rw [chcs_length] at hn9
        omega
      have HX8 := Lib.hid (show Ext w w8 from HX7.out.trans hb9)
      clear hp9 ho9 hb9 hn9 HD7 a7 u7 HA7 HU7 HX7
      go_wp2_with fail
      go_ret
      exact ⟨rfl, HX8.out⟩
  · refine ⟨_, (by simp only [List.getElem?_toArray, List.getElem?_cons_succ, List.getElem?_cons_zero]; rfl), by rfl, fun K hK => ?_⟩
    go_simp
    obtain ⟨bp, hbp⟩ : ∃ x, x = wd.heap.size := ⟨_, rfl⟩
    rw [← hbp]
    have hA0 := Ext.alloc wd (.cells #[.slice none 0 0] 24)
    have hO0 : Blk (wd.alloc (.cells #[.slice none 0 0] 24)) bp #[.slice none 0 0] 24 := by rw [hbp]; exact Blk.made wd _ _
    have hX0 := Ext.trans hE.out hA0
    have HPB := Lib.hid (show wd.heap.size ≤ bp from by have := hE.out.size; omega)
    refine hK.out _ _ hX0 ?_
    clear hK hbp hA0
    generalize wd.alloc (.cells #[.slice none 0 0] 24) = u1 at *
    have hE := Lib.hid hX0
    have HP := Lib.hid hO0
    clear hO0 hX0
    refine WalkN.two 1 5 (by kernel_rfl) ?_ ?_
    · refine ⟨_, (by simp only [List.getElem?_toArray, List.getElem?_cons_succ, List.getElem?_cons_zero]; rfl), by rfl, fun K hK => ?_⟩
      go_simp
      obtain ⟨br, hbr⟩ : ∃ x, x = u1.heap.size := ⟨_, rfl⟩
      rw [← hbr]
      have hA1 := Ext.alloc u1 (.cells #[] 63)
      have hO1 : Own (u1.alloc (.cells #[] 63)) wd.heap.size 63 3 (.slice (some ⟨br, 0, none⟩) 0 0) [] := by rw [hbr]; exact Own.made u1 hE.out.size 63 3
      have hX1 := Ext.trans hE.out hA1
      have hP1 := HP.out.below hA1
      have HRL := Lib.hid (show br < (u1.alloc (.cells #[] 63)).heap.size from by rw [hbr]; simp)
      refine hK.out _ _ hX1 ?_
      clear hK hbr hA1
      generalize u1.alloc (.cells #[] 63) = u2 at *
      have hE := Lib.hid hX1
      have HT := Lib.hid hO1
      clear hO1 hX1
      have HP := Lib.hid hP1
      clear hP1
      refine WalkN.two 3 5 (by kernel_rfl) ?_ ?_
      · refine ⟨_, (by simp only [List.getElem?_toArray, List.getElem?_cons_succ, List.getElem?_cons_zero]; rfl), by rfl, fun K hK => ?_⟩
        refine wp_own chT (.tmp 58) (.tmp 59) rfl rfl HT.out rfl (HLd.out.same (Same.below hE.out)) (chcs_one _) (by have := HLC.out; rw [chcs_length, List.length_nil]; omega) (by have := HLC.out; rw [chcs_length, List.length_nil]; omega) hE.out.size (fun v2 u3 hown hb hg => ?_)
        have hX2 : Ext wd u3 := Below.trans hE.out hb
        have hP2 := HP.out.aside HT.out (by decide) hg
        have hR2 := Nat.lt_of_lt_of_le HRL.out hg.size
        refine hK.out _ _ hX2 ?_
        clear hK
        simp only [Act.put, List.setIfInBounds_toArray, List.set_cons_zero, List.set_cons_succ]
        have hE := Lib.hid hX2
        have HT := Lib.hid hown
        have HRL := Lib.hid hR2
        have HP := Lib.hid hP2
        clear hP2
        clear hown hb hg hX2 hR2
        refine WalkN.one 5 (by kernel_rfl) ?_
        refine ⟨_, (by simp only [List.getElem?_toArray, List.getElem?_cons_succ, List.getElem?_cons_zero]; rfl), by rfl, fun K hK => ?_⟩
        go_simp
        obtain ⟨bl, hbl⟩ : ∃ x, x = u3.heap.size := ⟨_, rfl⟩
        rw [← hbl]
        have hA3 := Ext.alloc u3 (.cells #[.int .i64 ck, .string ct, .string cr] 63)
        have hO3 : Sl (fun b => b = bl) (u3.alloc (.cells #[.int .i64 ck, .string ct, .string cr] 63)) 3 (.slice (some ⟨bl, 0, none⟩) 1 1) (chcs [⟨ck, ⟨ct, cr⟩⟩]) := by rw [hbl]; exact Sl.made u3 (fun b => b = u3.heap.size) 3 1 63 #[.int .i64 ck, .string ct, .string cr] rfl (by decide) rfl
        have hX3 := Ext.trans hE.out hA3
        have hT3 := HT.out.below hA3
        have hR3 := Nat.lt_of_lt_of_le HRL.out hA3.size
        have HN := Lib.hid (show br ≠ bl from by have := HRL.out; omega)
        have hP3 := HP.out.below hA3
        have HDL := Lib.hid (show bl < (u3.alloc (.cells #[.int .i64 ck, .string ct, .string cr] 63)).heap.size from by rw [hbl]; simp)
        refine hK.out _ _ hX3 ?_
        clear hK hbl hA3
        generalize u3.alloc (.cells #[.int .i64 ck, .string ct, .string cr] 63) = u4 at *
        have hE := Lib.hid hX3
        have HD := Lib.hid hO3
        clear hO3 hX3
        have HT := Lib.hid hT3
        have HRL := Lib.hid hR3
        clear hT3 hR3
        have HP := Lib.hid hP3
        clear hP3
        refine WalkN.one 6 (by kernel_rfl) ?_
        refine ⟨_, (by simp only [List.getElem?_toArray, List.getElem?_cons_succ, List.getElem?_cons_zero]; rfl), by rfl, fun K hK => ?_⟩
        refine wp_own chT (.tmp 60) (.tmp 62) rfl rfl HT.out rfl HD.out (chcs_one _) (by have := HLC.out; rw [List.nil_append, chcs_length, chcs_length]; simp; omega) (by have := HLC.out; rw [List.nil_append, chcs_length, chcs_length]; simp; omega) hE.out.size (fun v4 u5 hown hb hg => ?_)
        have hX4 : Ext wd u5 := Below.trans hE.out hb
        have hP4 := HP.out.aside HT.out (by decide) hg
        have HSA := Lib.hid (show Sl (· < u5.heap.size) u5 3 v4 (chcs (cs ++ [⟨ck, ⟨ct, cr⟩⟩])) from by
          have := hown.sl
          rw [List.nil_append, ← chcs_append] at this
          exact this.mono fun b hb => hb.2)
        have hL4 := Nat.lt_of_lt_of_le HDL.out hg.size
        have hR4 := Nat.lt_of_lt_of_le HRL.out hg.size
        have hD4 : Sl (fun b => b = bl) u5 3 (.slice none 0 0) [] := Sl.nil _ _ _
        refine hK.out _ _ hX4 ?_
        clear hK
        simp only [Act.put, List.setIfInBounds_toArray, List.set_cons_zero, List.set_cons_succ]
        have hE := Lib.hid hX4
        have HT := Lib.hid hown
        have HRL := Lib.hid hR4
        have HD := Lib.hid hD4
        have HDL := Lib.hid hL4
        have HP := Lib.hid hP4
        clear hP4
        clear hown hb hg hX4 hR4 hL4 hD4
        refine WalkN.one 8 (by kernel_rfl) ?_
        refine ⟨_, (by simp only [List.getElem?_toArray, List.getElem?_cons_succ, List.getElem?_cons_zero]; rfl), by rfl, fun K hK => ?_⟩
        go_simp
        refine (apply_ne _ _ _ _ _ _ _ cs (cs ++ [⟨ck, ⟨ct, cr⟩⟩]) u5 HSA.out (snoc_ne cs _) (fun W hW => HDA.out W (hE.out.trans hW))).mono ?_
        rintro e u6 ⟨rfl, hb⟩
        have hX5 : Ext wd u6 := Ext.trans hE.out hb
        have hT5 := HT.out.below hb
        have hL5 := Nat.lt_of_lt_of_le HDL.out hb.size
        have hR5 := Nat.lt_of_lt_of_le HRL.out hb.size
        have hD5 : Sl (fun b => b = bl) u6 3 (.slice none 0 0) [] := Sl.nil _ _ _
        have hS5 := (HSA.out.same (Same.below hb)).mono (T := (· < u6.heap.size)) fun b (hb' : b < u5.heap.size) => Nat.lt_of_lt_of_le hb' hb.size
        have hP5 := HP.out.below hb
        refine hK.out _ _ hX5 ?_
        clear hK hb
        have hE := Lib.hid hX5
        have HT := Lib.hid hT5
        have HRL := Lib.hid hR5
        have HD := Lib.hid hD5
        have HDL := Lib.hid hL5
        have HSA := Lib.hid hS5
        have HP := Lib.hid hP5
        clear hP5
        clear hX5 hT5 hR5 hL5 hD5 hS5
        ((refine WalkN.take 9 _ ?_ (by simp only [List.getElem?_toArray, List.getElem?_cons_succ, List.getElem?_cons_zero]; rfl) (by kernel_rfl) (by kernel_rfl) (by rfl) (fun W hW => ?_) ?_; rotate_left; · (go_simp; try with_reducible rfl)); simp only [Act.put, List.setIfInBounds_toArray, List.set_cons_zero, List.set_cons_succ])
        ((refine WalkN.take 10 _ ?_ (by simp only [List.getElem?_toArray, List.getElem?_cons_succ, List.getElem?_cons_zero]; rfl) (by kernel_rfl) (by kernel_rfl) (by rfl) (fun W hW => ?_) ?_; rotate_left; · (go_simp; try with_reducible rfl)); simp only [Act.put, List.setIfInBounds_toArray, List.set_cons_zero, List.set_cons_succ])
        ((refine WalkN.take 11 _ ?_ (by simp only [List.getElem?_toArray, List.getElem?_cons_succ, List.getElem?_cons_zero]; rfl) (by kernel_rfl) (by kernel_rfl) (by rfl) (fun W hW => ?_) ?_; rotate_left; · (go_simp; try with_reducible rfl)); simp only [Act.put, List.setIfInBounds_toArray, List.set_cons_zero, List.set_cons_succ])
        refine WalkN.one 13 (by kernel_rfl) ?_
        refine ⟨_, (by simp only [List.getElem?_toArray, List.getElem?_cons_succ, List.getElem?_cons_zero]; rfl), by rfl, fun K hK => ?_⟩
        have h6 := HP.out.cells
        have f6 := HP.out.free
        go_simp
        have hX6 : Below wd.heap.size wd (u6.setCell ⟨bp, 0, none⟩ (.slice none 0 0)) := Below.setCell hE.out HPB.out _
        refine hK.out _ _ hX6 ?_
        clear hK h6 f6
        generalize u6.setCell ⟨bp, 0, none⟩ (.slice none 0 0) = u7 at *
        have hE := Lib.hid (show Ext wd u7 from hX6)
        clear hX6
        ((refine WalkN.take 14 _ ?_ (by simp only [List.getElem?_toArray, List.getElem?_cons_succ, List.getElem?_cons_zero]; rfl) (by kernel_rfl) (by kernel_rfl) (by rfl) (fun W hW => ?_) ?_; rotate_left; · (go_simp; try with_reducible rfl)); simp only [Act.put, List.setIfInBounds_toArray, List.set_cons_zero, List.set_cons_succ])
        refine WalkN.done (by kernel_rfl) ?_
        have HA7 := Lib.hid (HAd.out.below hE.out)
        have HU7 := Lib.hid (HUd.out.below hE.out)
        have HX7 := Lib.hid (show Ext w u7 from HXd.out.trans hE.out)
        have HD7 := Lib.hid (diff_ok us ts _ _ u7 (HVd.out.up hE.out) (HTd.out.up hE.out) HFU.out.sok HFS.out.sok HFU.out.chk HFS.out.chk)
        have a7 := HA7.out.cells
        have u7 := HU7.out.cells
        clear HAd HUd HCd HXd HTd HVd HLd HDA HSA hE HT HD HP HRL HDL HN HPB
        go_wp2_with fail
        refine HD7.out.mono ?_
        rintro e w8 ⟨v9, cs9, rfl, -, hp9, ho9, hb9⟩
        obtain ⟨ao9, n9, c9, rfl, hn9, -, -⟩ := ho9.sl.len
        obtain rfl : n9 = cs.length := by
          have h1 := hp9.length_eq
          have h2 := HN8.out.2.length_eq
          have h3 := diff_len2 (Nms.plain HFS.out.chk) (Nms.plain HFU.out.chk)
          rw [chcs_length] at hn9
          omega
        have HX8 := Lib.hid (show Ext w w8 from HX7.out.trans hb9)
        clear hp9 ho9 hb9 hn9 HD7 a7 u7 HA7 HU7 HX7
        go_wp2_with fail
        go_ret
        exact ⟨rfl, HX8.out⟩
      · refine ⟨_, (by simp only [List.getElem?_toArray, List.getElem?_cons_succ, List.getElem?_cons_zero]; rfl), by rfl, fun K hK => ?_⟩
        go_simp
        obtain ⟨bl, hbl⟩ : ∃ x, x = u2.heap.size := ⟨_, rfl⟩
        rw [← hbl]
        have hA2 := Ext.alloc u2 (.cells #[.int .i64 ck, .string ct, .string cr] 63)
        have hO2 : Sl (fun b => b = bl) (u2.alloc (.cells #[.int .i64 ck, .string ct, .string cr] 63)) 3 (.slice (some ⟨bl, 0, none⟩) 1 1) (chcs [⟨ck, ⟨ct, cr⟩⟩]) := by rw [hbl]; exact Sl.made u2 (fun b => b = u2.heap.size) 3 1 63 #[.int .i64 ck, .string ct, .string cr] rfl (by decide) rfl
        have hX2 := Ext.trans hE.out hA2
        have hT2 := HT.out.below hA2
        have hR2 := Nat.lt_of_lt_of_le HRL.out hA2.size
        have HN := Lib.hid (show br ≠ bl from by have := HRL.out; omega)
        have hP2 := HP.out.below hA2
        have HDL := Lib.hid (show bl < (u2.alloc (.cells #[.int .i64 ck, .string ct, .string cr] 63)).heap.size from by rw [hbl]; simp)
        refine hK.out _ _ hX2 ?_
        clear hK hbl hA2
        generalize u2.alloc (.cells #[.int .i64 ck, .string ct, .string cr] 63) = u3 at *
        have hE := Lib.hid hX2
        have HD := Lib.hid hO2
        clear hO2 hX2
        have HT := Lib.hid hT2
        have HRL := Lib.hid hR2
        clear hT2 hR2
        have HP := Lib.hid hP2
        clear hP2
        refine WalkN.one 3 (by kernel_rfl) ?_
        refine ⟨_, (by simp only [List.getElem?_toArray, List.getElem?_cons_succ, List.getElem?_cons_zero]; rfl), by rfl, fun K hK => ?_⟩
        refine wp_own chT (.tmp 58) (.tmp 59) rfl rfl HT.out rfl (HLd.out.same (Same.below hE.out)) (chcs_one _) (by have := HLC.out; rw [chcs_length, List.length_nil]; omega) (by have := HLC.out; rw [chcs_length, List.length_nil]; omega) hE.out.size (fun v3 u4 hown hb hg => ?_)
        have hX3 : Ext wd u4 := Below.trans hE.out hb
        have hD3 := HD.out.same (w' := u4) fun x hx => hg.block x (by have := HDL.out; subst hx; exact this) (fun h => by subst hx; exact HN.out (Option.some.inj (show some x = some br from h)).symm)
        have hL3 := Nat.lt_of_lt_of_le HDL.out hg.size
        have hP3 := HP.out.aside HT.out (by decide) hg
        have hR3 := Nat.lt_of_lt_of_le HRL.out hg.size
        refine hK.out _ _ hX3 ?_
        clear hK
        simp only [Act.put, List.setIfInBounds_toArray, List.set_cons_zero, List.set_cons_succ]
        have hE := Lib.hid hX3
        have HT := Lib.hid hown
        have HRL := Lib.hid hR3
        have HD := Lib.hid hD3
        have HDL := Lib.hid hL3
        clear hD3 hL3
        have HP := Lib.hid hP3
        clear hP3
        clear hown hb hg hX3 hR3
        refine WalkN.one 6 (by kernel_rfl) ?_
        refine ⟨_, (by simp only [List.getElem?_toArray, List.getElem?_cons_succ, List.getElem?_cons_zero]; rfl), by rfl, fun K hK => ?_⟩
        refine wp_own chT (.tmp 60) (.tmp 62) rfl rfl HT.out rfl HD.out (chcs_one _) (by have := HLC.out; rw [List.nil_append, chcs_length, chcs_length]; simp; omega) (by have := HLC.out; rw [List.nil_append, chcs_length, chcs_length]; simp; omega) hE.out.size (fun v4 u5 hown hb hg => ?_)
        have hX4 : Ext wd u5 := Below.trans hE.out hb
        have hP4 := HP.out.aside HT.out (by decide) hg
        have HSA := Lib.hid (show Sl (· < u5.heap.size) u5 3 v4 (chcs (cs ++ [⟨ck, ⟨ct, cr⟩⟩])) from by
          have := hown.sl
          rw [List.nil_append, ← chcs_append] at this
          exact this.mono fun b hb => hb.2)
        have hL4 := Nat.lt_of_lt_of_le HDL.out hg.size
        have hR4 := Nat.lt_of_lt_of_le HRL.out hg.size
        have hD4 : Sl (fun b => b = bl) u5 3 (.slice none 0 0) [] := Sl.nil _ _ _
        refine hK.out _ _ hX4 ?_
        clear hK
        simp only [Act.put, List.setIfInBounds_toArray, List.set_cons_zero, List.set_cons_succ]
        have hE := Lib.hid hX4
        have HT := Lib.hid hown
        have HRL := Lib.hid hR4
        have HD := Lib.hid hD4
        have HDL := Lib.hid hL4
        have HP := Lib.hid hP4
        clear hP4
        clear hown hb hg hX4 hR4 hL4 hD4
        refine WalkN.one 8 (by kernel_rfl) ?_
        refine ⟨_, (by simp only [List.getElem?_toArray, List.getElem?_cons_succ, List.getElem?_cons_zero]; rfl), by rfl, fun K hK => ?_⟩
        go_simp
        refine (apply_ne _ _ _ _ _ _ _ cs (cs ++ [⟨ck, ⟨ct, cr⟩⟩]) u5 HSA.out (snoc_ne cs _) (fun W hW => HDA.out W (hE.out.trans hW))).mono ?_
        rintro e u6 ⟨rfl, hb⟩
        have hX5 : Ext wd u6 := Ext.trans hE.out hb
        have hT5 := HT.out.below hb
        have hL5 := Nat.lt_of_lt_of_le HDL.out hb.size
        have hR5 := Nat.lt_of_lt_of_le HRL.out hb.size
        have hD5 : Sl (fun b => b = bl) u6 3 (.slice none 0 0) [] := Sl.nil _ _ _
        have hS5 := (HSA.out.same (Same.below hb)).mono (T := (· < u6.heap.size)) fun b (hb' : b < u5.heap.size) => Nat.lt_of_lt_of_le hb' hb.size
        have hP5 := HP.out.below hb
        refine hK.out _ _ hX5 ?_
        clear hK hb
        have hE := Lib.hid hX5
        have HT := Lib.hid hT5
        have HRL := Lib.hid hR5
        have HD := Lib.hid hD5
        have HDL := Lib.hid hL5
        have HSA := Lib.hid hS5
        have HP := Lib.hid hP5
        clear hP5
        clear hX5 hT5 hR5 hL5 hD5 hS5
        ((refine WalkN.take 9 _ ?_ (by simp only [List.getElem?_toArray, List.getElem?_cons_succ, List.getElem?_cons_zero]; rfl) (by kernel_rfl) (by kernel_rfl) (by rfl) (fun W hW => ?_) ?_; rotate_left; · (go_simp; try with_reducible rfl)); simp only [Act.put, List.setIfInBounds_toArray, List.set_cons_zero, List.set_cons_succ])
        ((refine WalkN.take 10 _ ?_ (by simp only [List.getElem?_toArray, List.getElem?_cons_succ, List.getElem?_cons_zero]; rfl) (by kernel_rfl) (by kernel_rfl) (by rfl) (fun W hW => ?_) ?_; rotate_left; · (go_simp; try with_reducible rfl)); simp only [Act.put, List.setIfInBounds_toArray, List.set_cons_zero, List.set_cons_succ])
        ((refine WalkN.take 11 _ ?_ (by simp only [List.getElem?_toArray, List.getElem?_cons_succ, List.getElem?_cons_zero]; rfl) (by kernel_rfl) (by kernel_rfl) (by rfl) (fun W hW => ?_) ?_; rotate_left; · (go_simp; try with_reducible rfl)); simp only [Act.put, List.setIfInBounds_toArray, List.set_cons_zero, List.set_cons_succ])
        refine WalkN.one 13 (by kernel_rfl) ?_
        refine ⟨_, (by simp only [List.getElem?_toArray, List.getElem?_cons_succ, List.getElem?_cons_zero]; rfl), by rfl, fun K hK => ?_⟩
        have h6 := HP.out.cells
        have f6 := HP.out.free
        go_simp
        have hX6 : Below wd.heap.size wd (u6.setCell ⟨bp, 0, none⟩ (.slice none 0 0)) := Below.setCell hE.out HPB.out _
        refine hK.out _ _ hX6 ?_
        clear hK h6 f6
        generalize u6.setCell ⟨bp, 0, none⟩ (.slice none 0 0) = u7 at *
        have hE := Lib.hid (show Ext wd u7 from hX6)
        clear hX6
        ((refine WalkN.take 14 _ ?_ (by simp only [List.getElem?_toArray, List.getElem?_cons_succ, List.getElem?_cons_zero]; rfl) (by kernel_rfl) (by kernel_rfl) (by rfl) (fun W hW => ?_) ?_; rotate_left; · (go_simp; try with_reducible rfl)); simp only [Act.put, List.setIfInBounds_toArray, List.set_cons_zero, List.set_cons_succ])
        refine WalkN.done (by kernel_rfl) ?_
        have HA7 := Lib.hid (HAd.out.below hE.out)
        have HU7 := Lib.hid (HUd.out.below hE.out)
        have HX7 := Lib.hid (show Ext w u7 from HXd.out.trans hE.out)
        have HD7 := Lib.hid (diff_ok us ts _ _ u7 (HVd.out.up hE.out) (HTd.out.up hE.out) HFU.out.sok HFS.out.sok HFU.out.chk HFS.out.chk)
        have a7 := HA7.out.cells
        have u7 := HU7.out.cells
        clear HAd HUd HCd HXd HTd HVd HLd HDA HSA hE HT HD HP HRL HDL HN HPB
        go_wp2_with fail
        refine HD7.out.mono ?_
        rintro e w8 ⟨v9, cs9, rfl, -, hp9, ho9, hb9⟩
        obtain ⟨ao9, n9, c9, rfl, hn9, -, -⟩ := ho9.sl.len
        obtain rfl : n9 = cs.length := by
          have h1 := hp9.length_eq
          have h2 := HN8.out.2.length_eq
          have h3 := diff_len2 (Nms.plain HFS.out.chk) (Nms.plain HFU.out.chk)
          rw [chcs_length] at hn9
          omega
        have HX8 := Lib.hid (show Ext w w8 from HX7.out.trans hb9)
        clear hp9 ho9 hb9 hn9 HD7 a7 u7 HA7 HU7 HX7
        go_wp2_with fail
        go_ret
        exact ⟨rfl, HX8.out⟩
    · refine ⟨_, (by simp only [List.getElem?_toArray, List.getElem?_cons_succ, List.getElem?_cons_zero]; rfl), by rfl, fun K hK => ?_⟩
      go_simp
      obtain ⟨bl, hbl⟩ : ∃ x, x = u1.heap.size := ⟨_, rfl⟩
      rw [← hbl]
      have hA1 := Ext.alloc u1 (.cells #[.int .i64 ck, .string ct, .string cr] 63)
      have hO1 : Sl (fun b => b = bl) (u1.alloc (.cells #[.int .i64 ck, .string ct, .string cr] 63)) 3 (.slice (some ⟨bl, 0, none⟩) 1 1) (chcs [⟨ck, ⟨ct, cr⟩⟩]) := by rw [hbl]; exact Sl.made u1 (fun b => b = u1.heap.size) 3 1 63 #[.int .i64 ck, .string ct, .string cr] rfl (by decide) rfl
      have hX1 := Ext.trans hE.out hA1
      have hP1 := HP.out.below hA1
      have HDL := Lib.hid (show bl < (u1.alloc (.cells #[.int .i64 ck, .string ct, .string cr] 63)).heap.size from by rw [hbl]; simp)
      refine hK.out _ _ hX1 ?_
      clear hK hbl hA1
      generalize u1.alloc (.cells #[.int .i64 ck, .string ct, .string cr] 63) = u2 at *
      have hE := Lib.hid hX1
      have HD := Lib.hid hO1
      clear hO1 hX1
      have HP := Lib.hid hP1
      clear hP1
      refine WalkN.one 1 (by kernel_rfl) ?_
      refine ⟨_, (by simp only [List.getElem?_toArray, List.getElem?_cons_succ, List.getElem?_cons_zero]; rfl), by rfl, fun K hK => ?_⟩
      go_simp
      obtain ⟨br, hbr⟩ : ∃ x, x = u2.heap.size := ⟨_, rfl⟩
      rw [← hbr]
      have hA2 := Ext.alloc u2 (.cells #[] 63)
      have hO2 : Own (u2.alloc (.cells #[] 63)) wd.heap.size 63 3 (.slice (some ⟨br, 0, none⟩) 0 0) [] := by rw [hbr]; exact Own.made u2 hE.out.size 63 3
      have hX2 := Ext.trans hE.out hA2
      have hD2 := HD.out.same (w' := u2.alloc (.cells #[] 63)) fun x hx => hA2.block x (by have := HDL.out; subst hx; exact this)
      have hL2 := Nat.lt_of_lt_of_le HDL.out hA2.size
      have HN := Lib.hid (show br ≠ bl from by have := HDL.out; omega)
      have hP2 := HP.out.below hA2
      have HRL := Lib.hid (show br < (u2.alloc (.cells #[] 63)).heap.size from by rw [hbr]; simp)
      refine hK.out _ _ hX2 ?_
      clear hK hbr hA2
      generalize u2.alloc (.cells #[] 63) = u3 at *
      have hE := Lib.hid hX2
      have HT := Lib.hid hO2
      clear hO2 hX2
      have HD := Lib.hid hD2
      have HDL := Lib.hid hL2
      clear hD2 hL2
      have HP := Lib.hid hP2
      clear hP2
      refine WalkN.one 3 (by kernel_rfl) ?_
      refine ⟨_, (by simp only [List.getElem?_toArray, List.getElem?_cons_succ, List.getElem?_cons_zero]; rfl), by rfl, fun K hK => ?_⟩
      refine wp_own chT (.tmp 58) (.tmp 59) rfl rfl HT.out rfl (HLd.out.same (Same.below hE.out)) (chcs_one _) (by have := HLC.out; rw [chcs_length, List.length_nil]; omega) (by have := HLC.out; rw [chcs_length, List.length_nil]; omega) hE.out.size (fun v3 u4 hown hb hg => ?_)
      have hX3 : Ext wd u4 := Below.trans hE.out hb
      have hD3 := HD.out.same (w' := u4) fun x hx => hg.block x (by have := HDL.out; subst hx; exact this) (fun h => by subst hx; exact HN.out (Option.some.inj (show some x = some br from h)).symm)
      have hL3 := Nat.lt_of_lt_of_le HDL.out hg.size
      have hP3 := HP.out.aside HT.out (by decide) hg
      have hR3 := Nat.lt_of_lt_of_le HRL.out hg.size
      refine hK.out _ _ hX3 ?_
      clear hK
      simp only [Act.put, List.setIfInBounds_toArray, List.set_cons_zero, List.set_cons_succ]
      have hE := Lib.hid hX3
      have HT := Lib.hid hown
      have HRL := Lib.hid hR3
      have HD := Lib.hid hD3
      have HDL := Lib.hid hL3
      clear hD3 hL3
      have HP := Lib.hid hP3
      clear hP3
      clear hown hb hg hX3 hR3
      refine WalkN.one 6 (by kernel_rfl) ?_
      refine ⟨_, (by simp only [List.getElem?_toArray, List.getElem?_cons_succ, List.getElem?_cons_zero]; rfl), by rfl, fun K hK => ?_⟩
      refine wp_own chT (.tmp 60) (.tmp 62) rfl rfl HT.out rfl HD.out (chcs_one _) (by have := HLC.out; rw [List.nil_append, chcs_length, chcs_length]; simp; omega) (by have := HLC.out; rw [List.nil_append, chcs_length, chcs_length]; simp; omega) hE.out.size (fun v4 u5 hown hb hg => ?_)
      have hX4 : Ext wd u5 := Below.trans hE.out hb
      have hP4 := HP.out.aside HT.out (by decide) hg
      have HSA := Lib.hid (show Sl (· < u5.heap.size) u5 3 v4 (chcs (cs ++ [⟨ck, ⟨ct, cr⟩⟩])) from by
        have := hown.sl
        rw [List.nil_append, ← chcs_append] at this
        exact this.mono fun b hb => hb.2)
      have hL4 := Nat.lt_of_lt_of_le HDL.out hg.size
      have hR4 := Nat.lt_of_lt_of_le HRL.out hg.size
      have hD4 : Sl (fun b => b = bl) u5 3 (.slice none 0 0) [] := Sl.nil _ _ _
      refine hK.out _ _ hX4 ?_
      clear hK
      simp only [Act.put, List.setIfInBounds_toArray, List.set_cons_zero, List.set_cons_succ]
      have hE := Lib.hid hX4
      have HT := Lib.hid hown
      have HRL := Lib.hid hR4
      have HD := Lib.hid hD4
      have HDL := Lib.hid hL4
      have HP := Lib.hid hP4
      clear hP4
      clear hown hb hg hX4 hR4 hL4 hD4
      refine WalkN.one 8 (by kernel_rfl) ?_
      refine ⟨_, (by simp only [List.getElem?_toArray, List.getElem?_cons_succ, List.getElem?_cons_zero]; rfl), by rfl, fun K hK => ?_⟩
      go_simp
      refine (apply_ne _ _ _ _ _ _ _ cs (cs ++ [⟨ck, ⟨ct, cr⟩⟩]) u5 HSA.out (snoc_ne cs _) (fun W hW => HDA.out W (hE.out.trans hW))).mono ?_
      rintro e u6 ⟨rfl, hb⟩
      have hX5 : Ext wd u6 := Ext.trans hE.out hb
      have hT5 := HT.out.below hb
      have hL5 := Nat.lt_of_lt_of_le HDL.out hb.size
      have hR5 := Nat.lt_of_lt_of_le HRL.out hb.size
      have hD5 : Sl (fun b => b = bl) u6 3 (.slice none 0 0) [] := Sl.nil _ _ _
      have hS5 := (HSA.out.same (Same.below hb)).mono (T := (· < u6.heap.size)) fun b (hb' : b < u5.heap.size) => Nat.lt_of_lt_of_le hb' hb.size
      have hP5 := HP.out.below hb
      refine hK.out _ _ hX5 ?_
      clear hK hb
      have hE := Lib.hid hX5
      have HT := Lib.hid hT5
      have HRL := Lib.hid hR5
      have HD := Lib.hid hD5
      have HDL := Lib.hid hL5
      have HSA := Lib.hid hS5
      have HP := Lib.hid hP5
      clear hP5
      clear hX5 hT5 hR5 hL5 hD5 hS5
      ((refine WalkN.take 9 _ ?_ (by simp only [List.getElem?_toArray, List.getElem?_cons_succ, List.getElem?_cons_zero]; rfl) (by kernel_rfl) (by kernel_rfl) (by rfl) (fun W hW => ?_) ?_; rotate_left; · (go_simp; try with_reducible rfl)); simp only [Act.put, List.setIfInBounds_toArray, List.set_cons_zero, List.set_cons_succ])
      ((refine WalkN.take 10 _ ?_ (by simp only [List.getElem?_toArray, List.getElem?_cons_succ, List.getElem?_cons_zero]; rfl) (by kernel_rfl) (by kernel_rfl) (by rfl) (fun W hW => ?_) ?_; rotate_left; · (go_simp; try with_reducible rfl)); simp only [Act.put, List.setIfInBounds_toArray, List.set_cons_zero, List.set_cons_succ])
      ((refine WalkN.take 11 _ ?_ (by simp only [List.getElem?_toArray, List.getElem?_cons_succ, List.getElem?_cons_zero]; rfl) (by kernel_rfl) (by kernel_rfl) (by rfl) (fun W hW => ?_) ?_; rotate_left; · (go_simp; try with_reducible rfl)); simp only [Act.put, List.setIfInBounds_toArray, List.set_cons_zero, List.set_cons_succ])
      refine WalkN.one 13 (by kernel_rfl) ?_
      refine ⟨_, (by simp only [List.getElem?_toArray, List.getElem?_cons_succ, List.getElem?_cons_zero]; rfl), by rfl, fun K hK => ?_⟩
      have h6 := HP.out.cells
      have f6 := HP.out.free
      go_simp
      have hX6 : Below wd.heap.size wd (u6.setCell ⟨bp, 0, none⟩ (.slice none 0 0)) := Below.setCell hE.out HPB.out _
      refine hK.out _ _ hX6 ?_
      clear hK h6 f6
      generalize u6.setCell ⟨bp, 0, none⟩ (.slice none 0 0) = u7 at *
      have hE := Lib.hid (show Ext wd u7 from hX6)
      clear hX6
      ((refine WalkN.take 14 _ ?_ (by simp only [List.getElem?_toArray, List.getElem?_cons_succ, List.getElem?_cons_zero]; rfl) (by kernel_rfl) (by kernel_rfl) (by rfl) (fun W hW => ?_) ?_; rotate_left; · (go_simp; try with_reducible rfl)); simp only [Act.put, List.setIfInBounds_toArray, List.set_cons_zero, List.set_cons_succ])
      refine WalkN.done (by kernel_rfl) ?_
      have HA7 := Lib.hid (HAd.out.below hE.out)
      have HU7 := Lib.hid (HUd.out.below hE.out)
      have HX7 := Lib.hid (show Ext w u7 from HXd.out.trans hE.out)
      have HD7 := Lib.hid (diff_ok us ts _ _ u7 (HVd.out.up hE.out) (HTd.out.up hE.out) HFU.out.sok HFS.out.sok HFU.out.chk HFS.out.chk)
      have a7 := HA7.out.cells
      have u7 := HU7.out.cells
      clear HAd HUd HCd HXd HTd HVd HLd HDA HSA hE HT HD HP HRL HDL HN HPB
      go_wp2_with fail
      refine HD7.out.mono ?_
      rintro e w8 ⟨v9, cs9, rfl, -, hp9, ho9, hb9⟩
      obtain ⟨ao9, n9, c9, rfl, hn9, -, -⟩ := ho9.sl.len
      obtain rfl : n9 = cs.length := by
        have h1 := hp9.length_eq
        have h2 := HN8.out.2.length_eq
        have h3 := diff_len2 (Nms.plain HFS.out.chk) (Nms.plain HFU.out.chk)
        rw [chcs_length] at hn9
        omega
      have HX8 := Lib.hid (show Ext w w8 from HX7.out.trans hb9)
      clear hp9 ho9 hb9 hn9 HD7 a7 u7 HA7 HU7 HX7
      go_wp2_with fail
      go_ret
      exact ⟨rfl, HX8.out⟩

end Go.Proofs.Ytipddhcfcehcaaa
