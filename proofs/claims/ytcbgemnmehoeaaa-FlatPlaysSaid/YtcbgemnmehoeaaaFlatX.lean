/- Two flats beside one another; the walk of FlatOrder. No condition: lemmas. -/
import Derived.Test.YtcbgemnmehoeaaaFlatW
namespace Go.Proofs.Ytcbgemnmehoeaaa
open Go Go.RowKit Go.Maps

/-- Two flats, apart. -/
structure Two (n0 : Nat) (w0 w : World) (Ba : Nat) (fa : FlS) (Bb : Nat) (fb : FlS) : Prop where
  a : FlatG w Ba fa
  b : FlatG w Bb fb
  fa_ : ∀ x ∈ footB Ba fa, n0 ≤ x
  fb_ : ∀ x ∈ footB Bb fb, n0 ≤ x
  dis : ∀ x ∈ footB Ba fa, x ∉ footB Bb fb
  below : Below n0 w0 w

section
variable {n0 : Nat} {w0 w w' : World} {Ba Bb : Nat} {fa fb f' : FlS}
theorem Two.up (h : Two n0 w0 w Ba fa Bb fb) (hn : n0 ≤ w0.heap.size) (hb : Below w.heap.size w w') : Two n0 w0 w' Ba fa Bb fb :=
  ⟨h.a.below hb, h.b.below hb, h.fa_, h.fb_, h.dis, h.below.trans (hb.mono (by have := h.below.size; omega))⟩
theorem Two.stepA (h : Two n0 w0 w Ba fa Bb fb) (hn : n0 ≤ w0.heap.size) (hg : FlatG w' Ba f') (hk : Kept (fun b => b < w.heap.size ∧ b ∉ footB Ba fa) w w') (hf : ∀ x ∈ footB Ba f', x ∈ footB Ba fa ∨ w.heap.size ≤ x) : Two n0 w0 w' Ba f' Bb fb :=
  ⟨hg, h.b.same fun x hx => hk.block x ⟨h.b.at_.lt x hx, fun hy => h.dis x hy hx⟩, fun x hx => by
    rcases hf x hx with k | k
    · exact h.fa_ x k
    · have := h.below.size; omega, h.fb_, fun x hx hy => by
    rcases hf x hx with k | k
    · exact h.dis x k hy
    · exact absurd (h.b.at_.lt x hy) (Nat.not_lt.2 k), h.below.trans (hk.below fun b hb => ⟨by have := h.below.size; omega, fun hx => by have := h.fa_ b hx; omega⟩)⟩
theorem Two.stepB (h : Two n0 w0 w Ba fa Bb fb) (hn : n0 ≤ w0.heap.size) (hg : FlatG w' Bb f') (hk : Kept (fun b => b < w.heap.size ∧ b ∉ footB Bb fb) w w') (hf : ∀ x ∈ footB Bb f', x ∈ footB Bb fb ∨ w.heap.size ≤ x) : Two n0 w0 w' Ba fa Bb f' :=
  ⟨h.a.same fun x hx => hk.block x ⟨h.a.at_.lt x hx, fun hy => h.dis x hx hy⟩, hg, h.fa_, fun x hx => by
    rcases hf x hx with k | k
    · exact h.fb_ x k
    · have := h.below.size; omega, fun x hx hy => by
    rcases hf x hy with k | k
    · exact h.dis x hx k
    · exact absurd (h.a.at_.lt x hx) (Nat.not_lt.2 k), h.below.trans (hk.below fun b hb => ⟨by have := h.below.size; omega, fun hx => by have := h.fb_ b hx; omega⟩)⟩
end

theorem FlatAt.notFootBlk {w : World} {B : Nat} {f : FlS} (h : FlatAt w B f) {b : Nat} {cs : Array Value} {t : TypeId} (hB : Blk w b cs t) (ht : t ≠ 60) : b ∉ footB B f := fun hx => by
  rcases List.mem_cons.1 hx with rfl | hx
  · have h1 := h.F
    unfold Blk at h1 hB
    rw [h1] at hB
    injection hB with hB
    injection hB with _ hB _
    exact ht hB.symm
  · exact h.notBlk hB hx

/-- Tuples of the acts, that may be. -/
def InL (l : List Act31) (T : List Tup) : Prop := ∀ t ∈ T, chkT t = true ∧ ∃ a ∈ l, a.2 = t
/-- All that may be, up to a number. -/
def AllL (l : List Act31) (T : List Tup) (i : Nat) : Prop := ∀ j (hj : j < l.length), j < i → chkT l[j].2 = true → l[j].2 ∈ T
theorem InL.nil (l : List Act31) : InL l [] := fun t ht => by simp at ht
theorem InL.add {l : List Act31} {T : List Tup} (h : InL l T) {a : Act31} (ha : a ∈ l) : InL l (addL T a.2) := by
  intro t ht
  unfold addL at ht
  split at ht
  · rename_i hc
    rcases List.mem_append.1 ht with ht | ht
    · exact h t ht
    · obtain rfl : t = a.2 := by simpa using ht
      simp only [Bool.and_eq_true] at hc
      exact ⟨hc.1, a, ha, rfl⟩
  · exact h t ht
theorem AllL.add {l : List Act31} {T : List Tup} {i : Nat} (h : AllL l T i) (hi : i < l.length) : AllL l (addL T l[i].2) (i + 1) := by
  intro j hj hji hc
  by_cases e : j = i
  · subst e; exact addL_self hc
  · exact addL_sub _ _ _ (h j hj (by omega) hc)
theorem AllL.keep {l : List Act31} {T : List Tup} {i : Nat} (h : AllL l T i) (t : Tup) : AllL l (addL T t) i := fun j hj hji hc => addL_sub _ _ _ (h j hj hji hc)
theorem sets_same {l : List Act31} {T T' : List Tup} (h : InL l T) (ha : AllL l T l.length) (h' : InL l T') (ha' : AllL l T' l.length) (t : Tup) : t ∈ T ↔ t ∈ T' := by
  constructor
  · intro ht
    obtain ⟨hc, a, hal, rfl⟩ := h t ht
    obtain ⟨j, hj, rfl⟩ := List.getElem_of_mem hal
    exact ha' j hj hj hc
  · intro ht
    obtain ⟨hc, a, hal, rfl⟩ := h' t ht
    obtain ⟨j, hj, rfl⟩ := List.getElem_of_mem hal
    exact ha j hj hj hc
theorem erase_same {T T' : List Tup} (hn : T.Nodup) (hn' : T'.Nodup) (h : ∀ t, t ∈ T ↔ t ∈ T') (a t : Tup) : t ∈ T.erase a ↔ t ∈ T'.erase a := by
  rw [hn.mem_erase_iff, hn'.mem_erase_iff, h t]
theorem dropN_same {T T' : List Tup} (h : ∀ t, t ∈ T ↔ t ∈ T') (a : Tup) : dropN T' a = dropN T a := by
  unfold dropN
  by_cases k : a ∈ T
  · rw [if_pos k, if_pos ((h a).1 k)]
  · rw [if_neg k, if_neg (fun hk => k ((h a).2 hk))]
theorem length_same {T T' : List Tup} (hn : T.Nodup) (hn' : T'.Nodup) (h : ∀ t, t ∈ T ↔ t ∈ T') : T.length = T'.length :=
  Nat.le_antisymm (nodup_le hn fun x hx => (h x).1 hx) (nodup_le hn' fun x hx => (h x).2 hx)
theorem inn_same {wa wb : World} {Ba Bb : Nat} {fa fb : FlS} (ha : FlatG wa Ba fa) (hb : FlatG wb Bb fb) (h : ∀ t, t ∈ fa.T ↔ t ∈ fb.T) (x y : P3) : y ∈ inn fa.M x ↔ y ∈ inn fb.M x := by
  rw [ha.good.mem, hb.good.mem]
  exact der_congr h x y

set_option maxRecDepth 100000 in
set_option maxHeartbeats 8000000 in
theorem orderLaw_any (v : Value) (l : List Act31) (q : Nat) (hq : q < 256) (w : World) (h : Sl (· < w.heap.size) w 7 v (l.flatMap aC)) (hok : ∀ a ∈ l, a.2.Ok) : Calls Try.prog 5 #[v, .int .u8 q] w fun e w' => e = .returned (.bool true) ∧ Below w.heap.size w w' := by
  have HFI := Lib.hid (fixed_any w)
  have HSL := Lib.hid h
  obtain ⟨ao, c, rfl, hlc, hcm, hcell⟩ := acts_rows h
  have HC := Lib.hid hcell
  have HOK := Lib.hid hok
  clear hcell h hok
  go_enter Try.func5, Try.ntmps5
  go_wp2_with fail
  refine HFI.out.mono ?_
  rintro e w1 ⟨rfl, hb1⟩
  have HFW := Lib.hid (few_any _ l w1 (HSL.out.up hb1))
  have HB1 := Lib.hid hb1
  clear hb1 HFI
  go_wp2_with fail
  refine HFW.out.mono ?_
  rintro e w2 ⟨rfl, hb2⟩
  have HB2 := Lib.hid (HB1.out.trans (hb2.mono HB1.out.size))
  clear hb2 HFW HB1
  rcases hfw : fewA l with _ | _
  · clear hfw
    go_wp2_with fail
    go_ret
    exact ⟨rfl, HB2.out⟩
  have HL := Lib.hid (fewA_len hfw)
  clear hfw
  by_cases hl0 : l.length = 0
  · have hl1 : ((l.length : Int) == 0) = true := by rw [beq_iff_eq]; omega
    clear hl0
    go_wp2_with fail
    go_ret
    exact ⟨rfl, HB2.out⟩
  have hlp : 0 < l.length := by omega
  have hn0 : ((l.length : Int) == 0) = false := by rw [beq_eq_false_iff_ne]; omega
  clear hl0
  go_wp2_with fail
  refine (new_any w2).mono ?_
  rintro e w3 ⟨Ba, fa0, rfl, hTa, hGa, hb3, hfa⟩
  go_wp2_with fail
  refine (new_any w3).mono ?_
  rintro e w4 ⟨Bb, fb0, rfl, hTb, hGb, hb4, hfb⟩
  have HT0 := Lib.hid (show Two w.heap.size w w4 Ba fa0 Bb fb0 from ⟨hGa.below hb4, hGb, fun x hx => by have := HB2.out.size; have := hfa x hx; omega, fun x hx => by have := HB2.out.size; have := hb3.size; have := hfb x hx; omega, fun x hx hy => by have := hGa.at_.lt x hx; have := hfb x hy; omega, (HB2.out.trans (hb3.mono HB2.out.size)).trans (hb4.mono (by have := HB2.out.size; have := hb3.size; omega))⟩)
  have HTA := Lib.hid hTa
  have HTB := Lib.hid hTb
  clear hTa hGa hb3 hfa hTb hGb hb4 hfb HB2
  go_wp2_with fail
  rw [show (q : Int) % (l.length : Int) = ((q % l.length : Nat) : Int) from by simp]
  have hkl : q % l.length < l.length := Nat.mod_lt _ hlp
  generalize q % l.length = k0 at *
  go_loopw [36] (fun ii wr => ∃ (i : Nat) (fa fb : FlS), i ≤ l.length ∧ ii = .int .i64 i ∧ Two w.heap.size w wr Ba fa Bb fb ∧ InL l fa.T ∧ AllL l fa.T i ∧ fa.T.length ≤ i ∧ InL l fb.T ∧ fb.T.length ≤ i) (fun ii _ => l.length - (intOf ii).toNat)
  case atStart => exact ⟨0, fa0, fb0, by omega, rfl, HT0.out, by rw [HTA.out]; exact InL.nil l, fun j hj h => absurd h (by omega), by rw [HTA.out]; exact Nat.le_refl _, by rw [HTB.out]; exact InL.nil l, by rw [HTB.out]; exact Nat.le_refl _⟩
  case round =>
    obtain ⟨i, fa, fb, hi, rfl, hT, hia, haa, hla, hib, hlb⟩ := hrel
    have HIA := Lib.hid hia
    have HAA := Lib.hid haa
    have HLA := Lib.hid hla
    have HIB := Lib.hid hib
    have HLB := Lib.hid hlb
    clear HT0 HTA HTB hia haa hla hib hlb
    by_cases hlt : i < l.length
    · have hml : (i * 7 + k0) % l.length < l.length := Nat.mod_lt _ hlp
      have hll := HL.out
      have hw1 : wrap64 ((i : Int) * 7) = (i : Int) * 7 := by unfold wrap64; omega
      have hw2 : wrap64 ((i : Int) * 7 + (k0 : Int)) = (i : Int) * 7 + (k0 : Int) := by unfold wrap64; omega
      have hmod : ((i : Int) * 7 + (k0 : Int)).tmod (l.length : Int) = (((i * 7 + k0) % l.length : Nat) : Int) := by
        rw [Int.tmod_eq_emod_of_nonneg (by omega)]; simp
      clear hll
      obtain ⟨b2, off2, e2, hb2, x0, x1, x2, x3, x4, x5, x6⟩ := HC.out _ hml
      obtain ⟨b, off, rfl, hb, c0, c1, c2, c3, c4, c5, c6⟩ := HC.out i hlt
      obtain ⟨rfl, rfl⟩ : b = b2 ∧ off = off2 := by injection e2 with e2; injection e2 with e3 e4 _; exact ⟨e3, e4⟩
      clear e2
      have hok := HOK.out _ (List.getElem_mem hlt)
      have hok2 := HOK.out _ (List.getElem_mem hml)
      have HIA2 := Lib.hid (HIA.out.add (List.getElem_mem hlt))
      have HAA2 := Lib.hid (HAA.out.add hlt)
      have HIB2 := Lib.hid (HIB.out.add (List.getElem_mem hml))
      have d0 := (Below.cell hT.below (p := ⟨b, off + i * 7, none⟩) hb).trans c0
      have d1 := (Below.cell hT.below (p := ⟨b, off + i * 7 + 1, none⟩) hb).trans c1
      have d2 := (Below.cell hT.below (p := ⟨b, off + i * 7 + 2, none⟩) hb).trans c2
      have d3 := (Below.cell hT.below (p := ⟨b, off + i * 7 + 3, none⟩) hb).trans c3
      have d4 := (Below.cell hT.below (p := ⟨b, off + i * 7 + 4, none⟩) hb).trans c4
      have d5 := (Below.cell hT.below (p := ⟨b, off + i * 7 + 5, none⟩) hb).trans c5
      have d6 := (Below.cell hT.below (p := ⟨b, off + i * 7 + 6, none⟩) hb).trans c6
      have y0 := (Below.cell hT.below (p := ⟨b, off + ((i * 7 + k0) % l.length) * 7, none⟩) hb).trans x0
      have y1 := (Below.cell hT.below (p := ⟨b, off + ((i * 7 + k0) % l.length) * 7 + 1, none⟩) hb).trans x1
      have y2 := (Below.cell hT.below (p := ⟨b, off + ((i * 7 + k0) % l.length) * 7 + 2, none⟩) hb).trans x2
      have y3 := (Below.cell hT.below (p := ⟨b, off + ((i * 7 + k0) % l.length) * 7 + 3, none⟩) hb).trans x3
      have y4 := (Below.cell hT.below (p := ⟨b, off + ((i * 7 + k0) % l.length) * 7 + 4, none⟩) hb).trans x4
      have y5 := (Below.cell hT.below (p := ⟨b, off + ((i * 7 + k0) % l.length) * 7 + 5, none⟩) hb).trans x5
      have y6 := (Below.cell hT.below (p := ⟨b, off + ((i * 7 + k0) % l.length) * 7 + 6, none⟩) hb).trans x6
      have HX := Lib.hid (show ∀ W : World, Below w.heap.size w W → W.cell? ⟨b, off + ((i * 7 + k0) % l.length) * 7 + 1, none⟩ = some (.string l[(i * 7 + k0) % l.length].2.o.t) ∧ W.cell? ⟨b, off + ((i * 7 + k0) % l.length) * 7 + 2, none⟩ = some (.string l[(i * 7 + k0) % l.length].2.o.i) ∧ W.cell? ⟨b, off + ((i * 7 + k0) % l.length) * 7 + 3, none⟩ = some (.string l[(i * 7 + k0) % l.length].2.o.r) ∧
        W.cell? ⟨b, off + ((i * 7 + k0) % l.length) * 7 + 4, none⟩ = some (.string l[(i * 7 + k0) % l.length].2.s.t) ∧ W.cell? ⟨b, off + ((i * 7 + k0) % l.length) * 7 + 5, none⟩ = some (.string l[(i * 7 + k0) % l.length].2.s.i) ∧ W.cell? ⟨b, off + ((i * 7 + k0) % l.length) * 7 + 6, none⟩ = some (.string l[(i * 7 + k0) % l.length].2.s.r) from fun W hW =>
          ⟨(Below.cell hW (p := ⟨b, off + ((i * 7 + k0) % l.length) * 7 + 1, none⟩) hb).trans x1, (Below.cell hW (p := ⟨b, off + ((i * 7 + k0) % l.length) * 7 + 2, none⟩) hb).trans x2, (Below.cell hW (p := ⟨b, off + ((i * 7 + k0) % l.length) * 7 + 3, none⟩) hb).trans x3, (Below.cell hW (p := ⟨b, off + ((i * 7 + k0) % l.length) * 7 + 4, none⟩) hb).trans x4, (Below.cell hW (p := ⟨b, off + ((i * 7 + k0) % l.length) * 7 + 5, none⟩) hb).trans x5, (Below.cell hW (p := ⟨b, off + ((i * 7 + k0) % l.length) * 7 + 6, none⟩) hb).trans x6⟩)
      clear c0 c1 c2 c3 c4 c5 c6 x0 x1 x2 x3 x4 x5 x6 y0 y1 y2 y3 y4 y5 y6
      generalize l[i] = a at *
      generalize l[(i * 7 + k0) % l.length] = a2 at *
      generalize (i * 7 + k0) % l.length = m at *
      obtain ⟨ad, ⟨⟨ot, oi, or_⟩, ⟨st, si, sr⟩⟩⟩ := a
      obtain ⟨ad2, ⟨⟨pt, pi, pr⟩, ⟨ut, ui, ur⟩⟩⟩ := a2
      dsimp only at *
      have HA := Lib.hid (add_any wr Ba fa ⟨⟨ot, oi, or_⟩, ⟨st, si, sr⟩⟩ hT.a hok (by have := HLA.out; have := HL.out; omega))
      unfold tV at HA
      dsimp only at HA
      have HT := Lib.hid hT
      clear hT hok
      go_wp2_with fail
      refine HA.out.mono ?_
      rintro e w5 ⟨rfl, fa', hG', hT', hk', hf'⟩
      have hT5 := HT.out.stepA (Nat.le_refl _) hG' hk' hf'
      obtain ⟨x1, x2, x3, x4, x5, x6⟩ := HX.out w5 hT5.below
      have HA5 := Lib.hid (show InL l fa'.T from by rw [hT']; exact HIA2.out)
      have HL5 := Lib.hid (show AllL l fa'.T (i + 1) from by rw [hT']; exact HAA2.out)
      have HN5 := Lib.hid (show fa'.T.length ≤ i + 1 from by rw [hT']; exact Nat.le_trans (addL_length _ _) (Nat.succ_le_succ HLA.out))
      have HB := Lib.hid (add_any w5 Bb fb ⟨⟨pt, pi, pr⟩, ⟨ut, ui, ur⟩⟩ hT5.b hok2 (by have := HLB.out; have := HL.out; omega))
      unfold tV at HB
      dsimp only at HB
      have HT5 := Lib.hid hT5
      clear HA HT hT' hG' hk' hf' hT5 d0 d1 d2 d3 d4 d5 d6 hok2
      go_wp2_with fail
      refine HB.out.mono ?_
      rintro e w6 ⟨rfl, fb', hG', hT', hk', hf'⟩
      have HT6 := Lib.hid (HT5.out.stepB (Nat.le_refl _) hG' hk' hf')
      have HB6 := Lib.hid (show InL l fb'.T from by rw [hT']; exact HIB2.out)
      have HM6 := Lib.hid (show fb'.T.length ≤ i + 1 from by rw [hT']; exact Nat.le_trans (addL_length _ _) (Nat.succ_le_succ HLB.out))
      clear HB HT5 hT' hG' hk' hf' x1 x2 x3 x4 x5 x6 hmod hml hw1 hw2
      go_wp2_with fail
      go_roundw
      case rel => exact ⟨i + 1, fa', fb', by omega, by go_num, HT6.out, HA5.out, HL5.out, HN5.out, HB6.out, HM6.out⟩
      case measure => simp [intOf]; omega
    · obtain rfl : i = l.length := by omega
      have HTL := Lib.hid hT
      clear hT hlt hi
      go_wp2_with fail
      go_loopw [62] (fun ii wr => ∃ (i : Nat) (fb : FlS), i ≤ l.length ∧ ii = .int .i64 i ∧ Two w.heap.size w wr Ba fa Bb fb ∧ InL l fb.T ∧ AllL l fb.T i ∧ fb.T.length ≤ l.length + i) (fun ii _ => l.length - (intOf ii).toNat)
      case atStart => exact ⟨0, fb, by omega, rfl, HTL.out, HIB.out, fun j hj h => absurd h (by omega), HLB.out⟩
      case round =>
        obtain ⟨i, fb, hi, rfl, hT, hib, hab, hlb⟩ := hrel
        clear HIB HLB HTL
        have HIB := Lib.hid hib
        have HAB := Lib.hid hab
        have HLB := Lib.hid hlb
        clear hib hab hlb
        by_cases hlt : i < l.length
        · obtain ⟨b, off, rfl, hb, c0, c1, c2, c3, c4, c5, c6⟩ := HC.out i hlt
          have d0 := (Below.cell hT.below (p := ⟨b, off + i * 7, none⟩) hb).trans c0
          have d1 := (Below.cell hT.below (p := ⟨b, off + i * 7 + 1, none⟩) hb).trans c1
          have d2 := (Below.cell hT.below (p := ⟨b, off + i * 7 + 2, none⟩) hb).trans c2
          have d3 := (Below.cell hT.below (p := ⟨b, off + i * 7 + 3, none⟩) hb).trans c3
          have d4 := (Below.cell hT.below (p := ⟨b, off + i * 7 + 4, none⟩) hb).trans c4
          have d5 := (Below.cell hT.below (p := ⟨b, off + i * 7 + 5, none⟩) hb).trans c5
          have d6 := (Below.cell hT.below (p := ⟨b, off + i * 7 + 6, none⟩) hb).trans c6
          have hok := HOK.out _ (List.getElem_mem hlt)
          have HIB2 := Lib.hid (HIB.out.add (List.getElem_mem hlt))
          have HAB2 := Lib.hid (HAB.out.add hlt)
          clear c0 c1 c2 c3 c4 c5 c6 hb
          generalize l[i] = a at *
          obtain ⟨ad, ⟨⟨ot, oi, or_⟩, ⟨st, si, sr⟩⟩⟩ := a
          dsimp only at *
          have hT1 := hT.up (Nat.le_refl _) ((Below.refl _ _).alloc (Nat.le_refl _) (.cells #[.bool ad, .string ot, .string oi, .string or_, .string st, .string si, .string sr] 34))
          have hB1 := Blk.made wr #[.bool ad, .string ot, .string oi, .string or_, .string st, .string si, .string sr] 34
          have hbk := hB1.cells
          have HT1 := Lib.hid hT1
          have HBA := Lib.hid hB1
          have HO := Lib.hid hok
          have HA := Lib.hid (add_any (wr.alloc (.cells #[.bool ad, .string ot, .string oi, .string or_, .string st, .string si, .string sr] 34)) Bb fb ⟨⟨ot, oi, or_⟩, ⟨st, si, sr⟩⟩ hT1.b hok (by have := HLB.out; have := HL.out; omega))
          unfold tV at HA
          dsimp only at HA
          clear hT1 hT hB1 hok
          go_wp2_with fail
          refine HA.out.mono ?_
          rintro e w6 ⟨rfl, fb', hG', hT', hk', hf'⟩
          have HT6 := Lib.hid (HT1.out.stepB (Nat.le_refl _) hG' hk' hf')
          have HB6 := Lib.hid (show InL l fb'.T from by rw [hT']; exact HIB2.out)
          have HC6 := Lib.hid (show AllL l fb'.T (i + 1) from by rw [hT']; exact HAB2.out)
          have HM6 := Lib.hid (show fb'.T.length ≤ l.length + (i + 1) from by rw [hT']; exact Nat.le_trans (addL_length _ _) (Nat.succ_le_succ HLB.out))
          clear HA HT1 hT' hG' hk' hf' hbk d0 d1 d2 d3 d4 d5 d6
          go_wp2_with fail
          go_roundw
          case rel => exact ⟨i + 1, fb', by omega, by go_num, HT6.out, HB6.out, HC6.out, HM6.out⟩
          case measure => simp [intOf]; omega
        · obtain rfl : i = l.length := by omega
          have HTL := Lib.hid hT
          have HSM := Lib.hid (sets_same HIA.out HAA.out HIB.out HAB.out)
          clear hT hlt hi HIA HAA HIB HAB HLA HLB
          go_wp2_with fail
          go_loopw [73] (fun ii wr => ∃ (i : Nat) (fa fb : FlS), i ≤ l.length ∧ ii = .int .i64 i ∧ Two w.heap.size w wr Ba fa Bb fb ∧ ∀ t, t ∈ fa.T ↔ t ∈ fb.T) (fun ii _ => l.length - (intOf ii).toNat)
          case atStart => exact ⟨0, fa, fb, by omega, rfl, HTL.out, HSM.out⟩
          case round =>
            obtain ⟨i, fa, fb, hi, rfl, hT, hsm⟩ := hrel
            clear HTL HSM
            have HSM := Lib.hid hsm
            clear hsm
            by_cases hlt : i < l.length
            · obtain ⟨b, off, rfl, hb, c0, c1, c2, c3, c4, c5, c6⟩ := HC.out i hlt
              have d0 := (Below.cell hT.below (p := ⟨b, off + i * 7, none⟩) hb).trans c0
              have d1 := (Below.cell hT.below (p := ⟨b, off + i * 7 + 1, none⟩) hb).trans c1
              have d2 := (Below.cell hT.below (p := ⟨b, off + i * 7 + 2, none⟩) hb).trans c2
              have d3 := (Below.cell hT.below (p := ⟨b, off + i * 7 + 3, none⟩) hb).trans c3
              have d4 := (Below.cell hT.below (p := ⟨b, off + i * 7 + 4, none⟩) hb).trans c4
              have d5 := (Below.cell hT.below (p := ⟨b, off + i * 7 + 5, none⟩) hb).trans c5
              have d6 := (Below.cell hT.below (p := ⟨b, off + i * 7 + 6, none⟩) hb).trans c6
              have hok := HOK.out _ (List.getElem_mem hlt)
              clear c0 c1 c2 c3 c4 c5 c6 hb
              generalize l[i] = a at *
              obtain ⟨ad, ⟨⟨ot, oi, or_⟩, ⟨st, si, sr⟩⟩⟩ := a
              dsimp only at *
              have hT1 := hT.up (Nat.le_refl _) ((Below.refl _ _).alloc (Nat.le_refl _) (.cells #[.bool ad, .string ot, .string oi, .string or_, .string st, .string si, .string sr] 34))
              have hB1 := Blk.made wr #[.bool ad, .string ot, .string oi, .string or_, .string st, .string si, .string sr] 34
              have hbk := hB1.cells
              have HT1 := Lib.hid hT1
              have HBA := Lib.hid hB1
              have HO := Lib.hid hok
              rcases ad with _ | _
              · clear hT hT1 hB1 hok HBA
                go_wp2_with fail
                go_roundw
                case rel => exact ⟨i + 1, fa, fb, by omega, by go_num, HT1.out, HSM.out⟩
                case measure => simp [intOf]; omega
              have HA := Lib.hid (drop_any (wr.alloc (.cells #[.bool true, .string ot, .string oi, .string or_, .string st, .string si, .string sr] 34)) Ba fa ⟨⟨ot, oi, or_⟩, ⟨st, si, sr⟩⟩ hT1.a hok)
              unfold tV at HA
              dsimp only at HA
              clear hT hT1 hB1 hok
              go_wp2_with fail
              refine HA.out.mono ?_
              rintro e w6 ⟨rfl, fa', hG', hT', hk', hf'⟩
              have hT6 := HT1.out.stepA (Nat.le_refl _) hG' hk' hf'
              have hBA6 := hk'.blk HBA.out ⟨HBA.out.lt, fun hx => HT1.out.a.at_.notFootBlk HBA.out (by decide) hx⟩
              have cB6 := hBA6.cells
              have HD := Lib.hid (drop_any w6 Bb fb ⟨⟨ot, oi, or_⟩, ⟨st, si, sr⟩⟩ hT6.b HO.out)
              rw [dropN_same HSM.out] at HD
              unfold tV at HD
              dsimp only at HD
              have HT6 := Lib.hid hT6
              have HSE := Lib.hid (erase_same HT1.out.a.nodup HT1.out.b.nodup HSM.out ⟨⟨ot, oi, or_⟩, ⟨st, si, sr⟩⟩)
              have HE6 := Lib.hid hT'
              clear HA HT1 hT' hG' hk' hf' hbk d0 d1 d2 d3 d4 d5 d6 hT6 hBA6 HBA
              go_wp2_with fail
              refine HD.out.mono ?_
              rintro e w7 ⟨rfl, fb', hG', hT', hk', hf'⟩
              have HT7 := Lib.hid (HT6.out.stepB (Nat.le_refl _) hG' hk' hf')
              have HS7 := Lib.hid (show ∀ t, t ∈ fa'.T ↔ t ∈ fb'.T from fun t => by rw [HE6.out, hT']; exact HSE.out t)
              clear HD HT6 hT' hG' hk' hf' cB6 HE6 HSE
              go_wp2_with fail
              go_roundw
              case rel => exact ⟨i + 1, fa', fb', by omega, by go_num, HT7.out, HS7.out⟩
              case measure => simp [intOf]; omega
            · obtain rfl : i = l.length := by omega
              have HTL := Lib.hid hT
              clear hT hlt hi
              go_wp2_with fail
              go_loopw [92] (fun ii wr => ∃ i : Nat, i ≤ l.length ∧ ii = .int .i64 i ∧ Two w.heap.size w wr Ba fa Bb fb) (fun ii _ => l.length - (intOf ii).toNat)
              case atStart => exact ⟨0, by omega, rfl, HTL.out⟩
              case round =>
                obtain ⟨i, hi, rfl, hT⟩ := hrel
                clear HTL
                by_cases hlt : i < l.length
                · obtain ⟨b, off, rfl, hb, c0, c1, c2, c3, c4, c5, c6⟩ := HC.out i hlt
                  have d0 := (Below.cell hT.below (p := ⟨b, off + i * 7, none⟩) hb).trans c0
                  have d1 := (Below.cell hT.below (p := ⟨b, off + i * 7 + 1, none⟩) hb).trans c1
                  have d2 := (Below.cell hT.below (p := ⟨b, off + i * 7 + 2, none⟩) hb).trans c2
                  have d3 := (Below.cell hT.below (p := ⟨b, off + i * 7 + 3, none⟩) hb).trans c3
                  have d4 := (Below.cell hT.below (p := ⟨b, off + i * 7 + 4, none⟩) hb).trans c4
                  have d5 := (Below.cell hT.below (p := ⟨b, off + i * 7 + 5, none⟩) hb).trans c5
                  have d6 := (Below.cell hT.below (p := ⟨b, off + i * 7 + 6, none⟩) hb).trans c6
                  have hok := HOK.out _ (List.getElem_mem hlt)
                  clear c0 c1 c2 c3 c4 c5 c6 hb
                  generalize l[i] = a at *
                  obtain ⟨ad, ⟨⟨ot, oi, or_⟩, ⟨st, si, sr⟩⟩⟩ := a
                  dsimp only at *
                  have hT1 := hT.up (Nat.le_refl _) ((Below.refl _ _).alloc (Nat.le_refl _) (.cells #[.bool ad, .string ot, .string oi, .string or_, .string st, .string si, .string sr] 34))
                  have hB1 := Blk.made wr #[.bool ad, .string ot, .string oi, .string or_, .string st, .string si, .string sr] 34
                  have hbk := hB1.cells
                  have HT1 := Lib.hid hT1
                  have HBA := Lib.hid hB1
                  have HO := Lib.hid hok
                  clear hT hT1 hok
                  go_wp2_with fail
                  have hT2 := HT1.out.up (Nat.le_refl _) ((Below.refl _ _).alloc (Nat.le_refl _) (.cells #[.string ot, .string oi, .string or_] 37))
                  have hA2 := hB1.alloc (.cells #[.string ot, .string oi, .string or_] 37)
                  have hP2 := Blk.made' (w := wr.alloc (.cells #[.bool ad, .string ot, .string oi, .string or_, .string st, .string si, .string sr] 34)) (B := wr.heap.size + 1) (by simp) #[.string ot, .string oi, .string or_] 37
                  obtain ⟨wd, hwd⟩ : ∃ wd, wd = ((wr.alloc (.cells #[.bool ad, .string ot, .string oi, .string or_, .string st, .string si, .string sr] 34)).alloc (.cells #[.string ot, .string oi, .string or_] 37)).drew := ⟨_, rfl⟩
                  have hTd := hT2.up (Nat.le_refl _) (Below.refl _ _).drew
                  have hAd := hA2.drew
                  have hPd := hP2.drew
                  rw [← hwd] at hTd hAd hPd
                  refine region_walkN (Ext wd) (by rw [← hwd]; exact Ext.refl _) (by kernel_rfl) (by kernel_rfl) (fun _ _ d _ _ h => by cases d <;> exact h) ?_
                  rw [← hwd]
                  clear hwd hT2 hA2 hP2 hbk hB1 HBA HT1 d0 d1 d2 d3 d4 d5 d6
                  have h1 : ∀ W, Ext wd W → ∀ i, W.cell? ⟨wr.heap.size, i, none⟩ = (#[.bool ad, .string ot, .string oi, .string or_, .string st, .string si, .string sr] : Array Value)[i]? := fun W h => (hAd.below h).cells
                  have h2 : ∀ W, Ext wd W → ∀ i, W.cell? ⟨wr.heap.size + 1, i, none⟩ = (#[.string ot, .string oi, .string or_] : Array Value)[i]? := fun W h => (hPd.below h).cells
                  have HTO := Lib.hid (TK.of_ok HO.out)
                  have HM := Lib.hid (members_any wd Ba fa ⟨ot, oi, or_⟩ hTd.a HTO.out.o)
                  unfold pV at HM
                  dsimp only at HM
                  have HTD := Lib.hid hTd
                  clear hTd
                  ((refine WalkN.take 0 _ ?_ (by simp only [List.getElem?_toArray, List.getElem?_cons_zero]; rfl) (by kernel_rfl) (by kernel_rfl) (by rfl) (fun W hW => ?_) ?_; rotate_left; · (go_simp; try with_reducible rfl)); simp only [Act.put, List.setIfInBounds_toArray, List.set_cons_zero, List.set_cons_succ]); ((refine WalkN.take 1 _ ?_ (by simp only [List.getElem?_toArray, List.getElem?_cons_succ, List.getElem?_cons_zero]; rfl) (by kernel_rfl) (by kernel_rfl) (by rfl) (fun W hW => ?_) ?_; rotate_left; · (go_simp; try with_reducible rfl)); simp only [Act.put, List.setIfInBounds_toArray, List.set_cons_zero, List.set_cons_succ]); ((refine WalkN.take 3 _ ?_ (by simp only [List.getElem?_toArray, List.getElem?_cons_succ, List.getElem?_cons_zero]; rfl) (by kernel_rfl) (by kernel_rfl) (by rfl) (fun W hW => ?_) ?_; rotate_left; · (go_simp; try with_reducible rfl)); simp only [Act.put, List.setIfInBounds_toArray, List.set_cons_zero, List.set_cons_succ]); ((refine WalkN.take 4 _ ?_ (by simp only [List.getElem?_toArray, List.getElem?_cons_succ, List.getElem?_cons_zero]; rfl) (by kernel_rfl) (by kernel_rfl) (by rfl) (fun W hW => ?_) ?_; rotate_left; · (go_simp; try with_reducible rfl)); simp only [Act.put, List.setIfInBounds_toArray, List.set_cons_zero, List.set_cons_succ])
                  refine WalkN.one 2 (by kernel_rfl) ?_
                  refine ⟨_, (by simp only [List.getElem?_toArray, List.getElem?_cons_succ, List.getElem?_cons_zero]; rfl), by rfl, fun K hK => ?_⟩
                  go_simp
                  refine HM.out.mono ?_
                  rintro e w3 ⟨va, sa, rfl, hpa, hua, hoa, hba⟩
                  refine hK.out _ _ hba ?_
                  clear hK HM
                  have hT3 := HTD.out.up (Nat.le_refl _) hba
                  have HM := Lib.hid (members_any w3 Bb fb ⟨ot, oi, or_⟩ hT3.b HTO.out.o)
                  unfold pV at HM
                  dsimp only at HM
                  refine WalkN.one 5 (by kernel_rfl) ?_
                  refine ⟨_, (by simp only [List.getElem?_toArray, List.getElem?_cons_succ, List.getElem?_cons_zero]; rfl), by rfl, fun K hK => ?_⟩
                  go_simp
                  refine HM.out.mono ?_
                  rintro e w4 ⟨vb, sb, rfl, hpb, hub, hob, hbb⟩
                  refine hK.out _ _ (hba.trans (hbb.mono hba.size)) ?_
                  clear hK HM
                  have hE4 : Ext wd w4 := hba.trans (hbb.mono hba.size)
                  have hT4 := hT3.up (Nat.le_refl _) hbb
                  obtain rfl : sa = sb := upP_unique hua hub fun x => by rw [hpa.mem_iff, hpb.mem_iff]; exact inn_same HTD.out.a HTD.out.b HSM.out _ _
                  have HS := Lib.hid (sameS_any va vb sa w4 (hoa.below hbb).slU hob.slU)
                  refine WalkN.one 6 (by kernel_rfl) ?_
                  refine ⟨_, (by simp only [List.getElem?_toArray, List.getElem?_cons_succ, List.getElem?_cons_zero]; rfl), by rfl, fun K hK => ?_⟩
                  go_simp
                  refine HS.out.mono ?_
                  rintro e w5 ⟨rfl, hb5⟩
                  have hE5 : Ext wd w5 := hE4.trans hb5
                  refine hK.out _ _ hE5 ?_
                  clear hK HS
                  have hT5 := hT4.up (Nat.le_refl _) hb5
                  ((refine WalkN.take 7 _ ?_ (by simp only [List.getElem?_toArray, List.getElem?_cons_succ, List.getElem?_cons_zero]; rfl) (by kernel_rfl) (by kernel_rfl) (by rfl) (fun W hW => ?_) ?_; rotate_left; · (go_simp; try with_reducible rfl)); simp only [Act.put, List.setIfInBounds_toArray, List.set_cons_zero, List.set_cons_succ]); ((refine WalkN.take 8 _ ?_ (by simp only [List.getElem?_toArray, List.getElem?_cons_succ, List.getElem?_cons_zero]; rfl) (by kernel_rfl) (by kernel_rfl) (by rfl) (fun W hW => ?_) ?_; rotate_left; · (go_simp; try with_reducible rfl)); simp only [Act.put, List.setIfInBounds_toArray, List.set_cons_zero, List.set_cons_succ]); ((refine WalkN.take 9 _ ?_ (by simp only [List.getElem?_toArray, List.getElem?_cons_succ, List.getElem?_cons_zero]; rfl) (by kernel_rfl) (by kernel_rfl) (by rfl) (fun W hW => ?_) ?_; rotate_left; · (go_simp; try with_reducible rfl)); simp only [Act.put, List.setIfInBounds_toArray, List.set_cons_zero, List.set_cons_succ]); ((refine WalkN.take 10 _ ?_ (by simp only [List.getElem?_toArray, List.getElem?_cons_succ, List.getElem?_cons_zero]; rfl) (by kernel_rfl) (by kernel_rfl) (by rfl) (fun W hW => ?_) ?_; rotate_left; · (go_simp; try with_reducible rfl)); simp only [Act.put, List.setIfInBounds_toArray, List.set_cons_zero, List.set_cons_succ]); ((refine WalkN.take 11 _ ?_ (by simp only [List.getElem?_toArray, List.getElem?_cons_succ, List.getElem?_cons_zero]; rfl) (by kernel_rfl) (by kernel_rfl) (by rfl) (fun W hW => ?_) ?_; rotate_left; · (go_simp; try with_reducible rfl)); simp only [Act.put, List.setIfInBounds_toArray, List.set_cons_zero, List.set_cons_succ]); ((refine WalkN.take 12 _ ?_ (by simp only [List.getElem?_toArray, List.getElem?_cons_succ, List.getElem?_cons_zero]; rfl) (by kernel_rfl) (by kernel_rfl) (by rfl) (fun W hW => ?_) ?_; rotate_left; · (go_simp; try with_reducible rfl)); simp only [Act.put, List.setIfInBounds_toArray, List.set_cons_zero, List.set_cons_succ]); ((refine WalkN.take 14 _ ?_ (by simp only [List.getElem?_toArray, List.getElem?_cons_succ, List.getElem?_cons_zero]; rfl) (by kernel_rfl) (by kernel_rfl) (by rfl) (fun W hW => ?_) ?_; rotate_left; · (go_simp; try with_reducible rfl)); simp only [Act.put, List.setIfInBounds_toArray, List.set_cons_zero, List.set_cons_succ]); ((refine WalkN.take 15 _ ?_ (by simp only [List.getElem?_toArray, List.getElem?_cons_succ, List.getElem?_cons_zero]; rfl) (by kernel_rfl) (by kernel_rfl) (by rfl) (fun W hW => ?_) ?_; rotate_left; · (go_simp; try with_reducible rfl)); simp only [Act.put, List.setIfInBounds_toArray, List.set_cons_zero, List.set_cons_succ]); ((refine WalkN.take 16 _ ?_ (by simp only [List.getElem?_toArray, List.getElem?_cons_succ, List.getElem?_cons_zero]; rfl) (by kernel_rfl) (by kernel_rfl) (by rfl) (fun W hW => ?_) ?_; rotate_left; · (go_simp; try with_reducible rfl)); simp only [Act.put, List.setIfInBounds_toArray, List.set_cons_zero, List.set_cons_succ]); ((refine WalkN.take 17 _ ?_ (by simp only [List.getElem?_toArray, List.getElem?_cons_succ, List.getElem?_cons_zero]; rfl) (by kernel_rfl) (by kernel_rfl) (by rfl) (fun W hW => ?_) ?_; rotate_left; · (go_simp; try with_reducible rfl)); simp only [Act.put, List.setIfInBounds_toArray, List.set_cons_zero, List.set_cons_succ])
                  have HM := Lib.hid (points_any w5 Ba fa ⟨st, si, sr⟩ hT5.a.at_ HTO.out.s (hT5.a.points_few _))
                  unfold pV at HM
                  dsimp only at HM
                  refine WalkN.one 13 (by kernel_rfl) ?_
                  refine ⟨_, (by simp only [List.getElem?_toArray, List.getElem?_cons_succ, List.getElem?_cons_zero]; rfl), by rfl, fun K hK => ?_⟩
                  go_simp
                  refine HM.out.mono ?_
                  rintro e w6 ⟨vc, sc, rfl, hpc, huc, hoc, hbc⟩
                  have hE6 : Ext wd w6 := hE5.trans hbc
                  refine hK.out _ _ hE6 ?_
                  clear hK HM
                  have hT6 := hT5.up (Nat.le_refl _) hbc
                  have HM := Lib.hid (points_any w6 Bb fb ⟨st, si, sr⟩ hT6.b.at_ HTO.out.s (hT6.b.points_few _))
                  unfold pV at HM
                  dsimp only at HM
                  refine WalkN.one 18 (by kernel_rfl) ?_
                  refine ⟨_, (by simp only [List.getElem?_toArray, List.getElem?_cons_succ, List.getElem?_cons_zero]; rfl), by rfl, fun K hK => ?_⟩
                  go_simp
                  refine HM.out.mono ?_
                  rintro e w7 ⟨ve, se, rfl, hpe, hue, hoe, hbe⟩
                  have hE7 : Ext wd w7 := hE6.trans hbe
                  refine hK.out _ _ hE7 ?_
                  clear hK HM
                  have hT7 := hT6.up (Nat.le_refl _) hbe
                  obtain rfl : sc = se := upP_unique huc hue fun x => by rw [hpc x, hpe x]; exact inn_same HTD.out.a HTD.out.b HSM.out _ _
                  have HS := Lib.hid (sameP_any vc ve sc w7 (hoc.below hbe).slU hoe.slU)
                  refine WalkN.one 19 (by kernel_rfl) ?_
                  refine ⟨_, (by simp only [List.getElem?_toArray, List.getElem?_cons_succ, List.getElem?_cons_zero]; rfl), by rfl, fun K hK => ?_⟩
                  go_simp
                  refine HS.out.mono ?_
                  rintro e w8 ⟨rfl, hb8⟩
                  have hE8 : Ext wd w8 := hE7.trans hb8
                  refine hK.out _ _ hE8 ?_
                  clear hK HS
                  have HT8 := Lib.hid (hT7.up (Nat.le_refl _) hb8)
                  ((refine WalkN.take 20 _ ?_ (by simp only [List.getElem?_toArray, List.getElem?_cons_succ, List.getElem?_cons_zero]; rfl) (by kernel_rfl) (by kernel_rfl) (by rfl) (fun W hW => ?_) ?_; rotate_left; · (go_simp; try with_reducible rfl)); simp only [Act.put, List.setIfInBounds_toArray, List.set_cons_zero, List.set_cons_succ]); ((refine WalkN.take 21 _ ?_ (by simp only [List.getElem?_toArray, List.getElem?_cons_succ, List.getElem?_cons_zero]; rfl) (by kernel_rfl) (by kernel_rfl) (by rfl) (fun W hW => ?_) ?_; rotate_left; · (go_simp; try with_reducible rfl)); simp only [Act.put, List.setIfInBounds_toArray, List.set_cons_zero, List.set_cons_succ])
                  refine WalkN.done (by kernel_rfl) ?_
                  clear hT3 hT4 hT5 hT6 hT7 hba hbb hb5 hbc hbe hb8 hE4 hE5 hE6 hE7 hE8 h1 h2 hoa hob hoc hoe hpa hpb hpc hpe hua hub huc hue hAd hPd
                  go_wp2_with fail
                  go_roundw
                  case rel => exact ⟨i + 1, by omega, by go_num, HT8.out⟩
                  case measure => simp [intOf]; omega
                · obtain rfl : i = l.length := by omega
                  have HLN := len_any wr Ba fa hT.a.at_
                  rw [length_same hT.a.nodup hT.b.nodup HSM.out] at HLN
                  have HLB := len_any wr Bb fb hT.b.at_
                  have H1 := Lib.hid HLN
                  have H2 := Lib.hid HLB
                  have HBL := Lib.hid hT.below
                  clear HLN HLB hT
                  go_wp2_with fail
                  refine H1.out.mono ?_
                  rintro e w7 ⟨rfl, rfl⟩
                  go_wp2_with fail
                  refine H2.out.mono ?_
                  rintro e w8 ⟨rfl, rfl⟩
                  go_wp2_with fail
                  go_ret
                  exact ⟨rfl, HBL.out⟩

end Go.Proofs.Ytcbgemnmehoeaaa
