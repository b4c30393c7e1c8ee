/- The document's Less and Put of references. The document's can. No condition: lemmas. -/
import Derived.Test.YtfhonficpccegaaZ19
import Derived.Test.YtfhonficpccegaaZ5
import Derived.Test.YtfhonficpccegaaZ6
import Derived.Test.YtfhonficpccegaaZ31
import Derived.Test.YtfhonficpccegaaZ29
namespace Go.Proofs.Ytfhonficpccegaa
open Go Go.RowKit Go.Maps

set_option maxRecDepth 100000 in
set_option maxHeartbeats 800000 in
theorem less06_any (a b : R2) (w : World) : Calls Try.prog 74 #[r2V a, r2V b] w fun e w' => e = .returned (.bool (ltR a b)) ∧ Below w.heap.size w w' := by
  obtain ⟨at_, ar⟩ := a
  obtain ⟨bt, br⟩ := b
  unfold r2V
  dsimp only
  have e1 := ByteArray.toList_eq at_
  have e2 := ByteArray.toList_eq bt
  have e3 := ByteArray.toList_eq ar
  have e4 := ByteArray.toList_eq br
  have HB := Lib.hid (show Below w.heap.size w ((w.alloc (Obj.cells #[Value.string at_, Value.string ar] 43)).alloc (Obj.cells #[Value.string bt, Value.string br] 43)) from ((Below.refl _ _).alloc (Nat.le_refl _) _).alloc (by simp) _)
  by_cases hk : at_ = bt
  · subst hk
    have HF := Lib.hid (show ltR ⟨at_, ar⟩ ⟨at_, br⟩ = ltS ar br from by unfold ltR; rw [if_pos rfl])
    go_enter Try.func74, Try.ntmps74
    go_wp2_with fail
    go_ret
    exact ⟨by rw [HF.out]; unfold ltS; rw [e3, e4]; rfl, HB.out⟩
  · have hkb := ba_beq' hk
    have HF := Lib.hid (show ltR ⟨at_, ar⟩ ⟨bt, br⟩ = ltS at_ bt from by unfold ltR; rw [if_neg hk])
    clear hk
    go_enter Try.func74, Try.ntmps74
    go_wp2_with fail
    go_ret
    exact ⟨by rw [HF.out]; unfold ltS; rw [e1, e2]; rfl, HB.out⟩

/-- A reference has been put into a row in order. -/
structure Ins (l : List R2) (r : R2) (l' : List R2) : Prop where
  up : UpR l'
  mem : ∀ x, x ∈ l' ↔ x = r ∨ x ∈ l
/-- In between. -/
structure PutI (l : List R2) (r : R2) (i : Nat) (d : Bool) (o : List R2) : Prop where
  len : o.length ≤ i + 1
  up : UpR o
  mem : ∀ x, x ∈ o ↔ (d = true ∧ x = r) ∨ x ∈ l.take i
  lt : ∀ x ∈ o, ∀ y ∈ l.drop i, ltR x y = true
  nd : d = false → ∀ x ∈ o, ltR x r = true
theorem UpR.snoc {o : List R2} {x : R2} (h : UpR o) (hx : ∀ y ∈ o, ltR y x = true) : UpR (o ++ [x]) :=
  List.pairwise_append.2 ⟨h, List.pairwise_singleton _ _, fun a ha b hb => by obtain rfl := List.mem_singleton.1 hb; exact hx a ha⟩
theorem PutI.start {l : List R2} (r : R2) : PutI l r 0 false [] := ⟨Nat.zero_le _, List.Pairwise.nil, fun x => by simp, fun x hx => (by cases hx), fun _ x hx => (by cases hx)⟩
theorem PutI.ins {l : List R2} {r : R2} {i : Nat} {o : List R2} (h : PutI l r i false o) (hu : UpR l) (hl : o.length ≤ i) (hr : ∀ y ∈ l.drop i, ltR r y = true) : PutI l r i true (o ++ [r]) :=
  ⟨by simp; omega, h.up.snoc (h.nd rfl), fun x => by
    rw [List.mem_append, h.mem x, List.mem_singleton]
    simp [or_comm], fun x hx y hy => by
    rcases List.mem_append.1 hx with hx | hx
    · exact h.lt x hx y hy
    · obtain rfl := List.mem_singleton.1 hx; exact hr y hy, fun e => (by cases e)⟩
theorem PutI.next {l : List R2} {r : R2} {i : Nat} {d : Bool} {o : List R2} (h : PutI l r i d o) (hu : UpR l) (hi : i < l.length) (hc : d = false → ltR l[i] r = true) : PutI l r (i + 1) d (o ++ [l[i]]) := by
  have hdr : l.drop i = l[i] :: l.drop (i + 1) := List.drop_eq_getElem_cons hi
  refine ⟨by have := h.len; simp; omega, h.up.snoc fun y hy => h.lt y hy _ (by rw [hdr]; exact List.mem_cons_self), fun x => ?_, fun x hx y hy => ?_, fun e x hx => ?_⟩
  · rw [List.mem_append, h.mem x, List.mem_singleton, List.take_succ_eq_append_getElem hi, List.mem_append, List.mem_singleton, or_assoc]
  · rcases List.mem_append.1 hx with hx | hx
    · exact h.lt x hx y (by rw [hdr]; exact List.mem_cons_of_mem _ hy)
    · obtain rfl := List.mem_singleton.1 hx
      have : UpR (l.drop i) := List.Pairwise.sublist (List.drop_sublist i l) hu
      rw [hdr] at this
      exact (List.pairwise_cons.1 this).1 y hy
  · rcases List.mem_append.1 hx with hx | hx
    · exact h.nd e x hx
    · obtain rfl := List.mem_singleton.1 hx; exact hc e
theorem PutI.fin {l : List R2} {r : R2} {d : Bool} {o : List R2} (h : PutI l r l.length d o) (hd : d = true) : Ins l r o := ⟨h.up, fun x => by rw [h.mem x, List.take_length]; simp [hd]⟩
theorem PutI.less_drop {l : List R2} {r : R2} {i : Nat} (hu : UpR l) (hi : i < l.length) (h : ltR r l[i] = true) : ∀ y ∈ l.drop i, ltR r y = true := fun y hy => by
  have hdr : l.drop i = l[i] :: l.drop (i + 1) := List.drop_eq_getElem_cons hi
  have : UpR (l.drop i) := List.Pairwise.sublist (List.drop_sublist i l) hu
  rw [hdr] at this hy
  rcases List.mem_cons.1 hy with rfl | hy
  · exact h
  · exact ltR_trans h ((List.pairwise_cons.1 this).1 y hy)

set_option maxRecDepth 100000 in
set_option maxHeartbeats 2000000 in
theorem put06_any {S : Nat → Prop} (v : Value) (l : List R2) (r : R2) (w : World) (hSw : ∀ b, S b → b < w.heap.size) (h : Sl S w 2 v (r2cs l)) (hu : UpR l) (hl : l.length ≤ 1000000000) : Calls Try.prog 38 #[v, r2V r] w fun e w' => ∃ v' l', e = .returned v' ∧ Ins l r l' ∧ l'.length ≤ l.length + 1 ∧ Sl (fun b => S b ∨ (w.heap.size ≤ b ∧ b < w'.heap.size)) w' 2 v' (r2cs l') ∧ Below w.heap.size w w' := by
  obtain ⟨ao, c, rfl, hlc, hcm, hcell⟩ := refs_rows h
  have HC := Lib.hid hcell
  have HSL := Lib.hid h
  have HU := Lib.hid hu
  have HL := Lib.hid hl
  have HSW := Lib.hid hSw
  obtain ⟨qt, qr⟩ := r
  have HQ := Lib.hid (Blk.made w #[.string qt, .string qr] 43)
  have HB0 := Lib.hid (Ext.alloc w (.cells #[.string qt, .string qr] 43))
  clear h hcell hu hl hSw
  unfold r2V
  dsimp only
  go_enter Try.func38, Try.ntmps38
  go_wp2_with fail
  obtain ⟨w1, hw1⟩ : ∃ w1, w1 = w.alloc (.cells #[.string qt, .string qr] 43) := ⟨_, rfl⟩
  rw [← hw1] at HQ HB0 ⊢
  clear hw1
  go_loopw [5, 6, 11] (fun ov dv ii wr => ∃ (i : Nat) (d : Bool) (o : List R2), i ≤ l.length ∧ dv = .bool d ∧ ii = .int .i64 i ∧ PutI l ⟨qt, qr⟩ i d o ∧ (d = false → o.length ≤ i) ∧ Own wr (w.heap.size + 1) 43 2 ov (r2cs o) ∧ Blk wr w.heap.size #[.string qt, .string qr] 43 ∧ Below w.heap.size w wr) (fun _ _ ii _ => l.length - (intOf ii).toNat)
  case atStart => exact ⟨0, false, [], by omega, rfl, rfl, PutI.start _, fun _ => Nat.le_refl _, Own.nil _ _ _ _, HQ.out, HB0.out⟩
  case round =>
    obtain ⟨i, d, o, hi, rfl, rfl, hpi, hol, hown, hq, hbel⟩ := hrel
    have HPI := Lib.hid hpi
    have HOL := Lib.hid hol
    have HOW := Lib.hid hown
    have HQR := Lib.hid hq
    have HBL := Lib.hid hbel
    have HON := Lib.hid (show o.length ≤ l.length + 1 from by have := hpi.len; omega)
    have HLL := Lib.hid HL.out
    clear hpi hol hown hq HQ HB0
    by_cases hlt : i < l.length
    · have HNX := fun (h : d = false → ltR l[i] ⟨qt, qr⟩ = true) => Lib.hid (HPI.out.next HU.out hlt h)
      have HIN := fun (e : d = false) (h : ltR ⟨qt, qr⟩ l[i] = true) => Lib.hid (show PutI l ⟨qt, qr⟩ (i + 1) true (o ++ [⟨qt, qr⟩] ++ [l[i]]) from PutI.next (PutI.ins (by have := HPI.out; rwa [e] at this) HU.out (HOL.out e) (PutI.less_drop HU.out hlt h)) HU.out hlt fun e => (by cases e))
      have HHIT := fun (h : l[i] = ⟨qt, qr⟩) => Lib.hid (show Ins l ⟨qt, qr⟩ l from ⟨HU.out, fun x => ⟨.inr, fun hx => hx.elim (fun e => by rw [e, ← h]; exact List.getElem_mem hlt) id⟩⟩)
      obtain ⟨b, off, rfl, hb, c0, c1⟩ := HC.out i hlt
      have d0 := (hbel.cell (p := ⟨b, off + i * 2, none⟩) (HSW.out b hb)).trans c0
      have d1 := (hbel.cell (p := ⟨b, off + i * 2 + 1, none⟩) (HSW.out b hb)).trans c1
      clear c0 c1 hbel
      generalize l[i] = x at *
      obtain ⟨xt, xr⟩ := x
      dsimp only at d0 d1
      have hE := Ext.alloc wr (.cells #[.string xt, .string xr] 43)
      have HX := Lib.hid (Blk.made wr #[.string xt, .string xr] 43)
      have HQX := Lib.hid (HQR.out.below hE)
      have HBX := Lib.hid (show Below w.heap.size w (wr.alloc (.cells #[.string xt, .string xr] 43)) from HBL.out.trans (hE.mono HBL.out.size))
      have HOX := Lib.hid (HOW.out.below hE)
      have HOB := Lib.hid (fun g hg => (HOW.out.block g hg).2)
      have HLS := Lib.hid (less06_any ⟨qt, qr⟩ ⟨xt, xr⟩ (wr.alloc (.cells #[.string xt, .string xr] 43)))
      have HSZ := Lib.hid (show w.heap.size + 1 ≤ wr.heap.size from HQR.out.lt)
      have hbx := HX.out.cells
      have hbq := HQX.out.cells
      have heq := fun W => r2_eql ⟨xt, xr⟩ ⟨qt, qr⟩ W
      unfold r2V at heq HLS
      dsimp only at heq HLS
      clear hE
      by_cases hm : (⟨xt, xr⟩ : R2) = ⟨qt, qr⟩
      · have HT := Lib.hid (HHIT hm).out
        rw [decide_eq_true hm] at heq
        clear HNX HIN HHIT hm
        go_wp2_with fail
        go_ret
        exact ⟨_, l, rfl, HT.out, Nat.le_succ _, (HSL.out.same ((Same.below HBX.out).mono HSW.out)).mono fun b hb => .inl hb, HBX.out⟩
      · rw [decide_eq_false hm] at heq
        cases d with
        | true =>
          have HN := Lib.hid (HNX (fun e => (by cases e))).out
          clear HNX HIN HHIT hm HLS HOL
          go_wp2_with (at_builtin; go_must (refine wpList_own_lit refsT rfl (.tmp 30) (.tmp 32) rfl rfl HOX.out (by first | rfl | (show Value.slice (some ⟨wr.heap.size + 1, 0, none⟩) 1 1 = _; simp)) rfl (by simp [Value.oneCell']) (by have := HON.out; have := HLL.out; rw [r2cs_length]; simp; omega) (by have := HON.out; have := HLL.out; rw [r2cs_length]; simp; omega) (by have := HSZ.out; simp; omega) ?_; intro v5 w5 hown5 hb5 hgr5; have HO5 := Lib.hid (show Own w5 (w.heap.size + 1) 43 2 v5 (r2cs (o ++ [⟨xt, xr⟩])) from by rw [r2cs_append]; exact hown5); have HQ5 := Lib.hid ((hb5.block _ (Nat.lt_succ_self _)).trans HQX.out); have HB5 := Lib.hid (HBX.out.trans (hb5.mono (Nat.le_succ _))); clear hown5 hb5 hgr5))
          go_roundw
          case rel => exact ⟨i + 1, true, _, by omega, rfl, by go_num, HN.out, fun e => (by cases e), HO5.out, HQ5.out, HB5.out⟩
          case measure => simp [intOf]; omega
        | false =>
          have HOLF := Lib.hid (HOL.out rfl)
          cases hg : ltR ⟨qt, qr⟩ ⟨xt, xr⟩ with
          | false =>
            have HN := Lib.hid (HNX (fun _ => ltR_total hg (Ne.symm hm))).out
            rw [hg] at HLS
            clear HNX HIN HHIT hm HOL hg
            go_wp2_with fail
            refine HLS.out.mono ?_
            rintro e w4 ⟨rfl, hb4⟩
            have hbx := (HX.out.below hb4).cells
            have HOX := Lib.hid (HOX.out.below hb4)
            have HQX := Lib.hid (HQX.out.below hb4)
            have HSZ := Lib.hid (show w.heap.size + 1 ≤ w4.heap.size from by have := HSZ.out; have := hb4.size; simp at this; omega)
            have HBX := Lib.hid (HBX.out.trans (hb4.mono HBX.out.size))
            clear hb4 HLS hbq
            go_wp2_with (at_builtin; go_must (refine wpList_own_lit refsT rfl (.tmp 30) (.tmp 32) rfl rfl HOX.out (by first | rfl | (show Value.slice (some ⟨w4.heap.size, 0, none⟩) 1 1 = _; simp)) rfl (by simp [Value.oneCell']) (by have := HON.out; have := HLL.out; rw [r2cs_length]; simp; omega) (by have := HON.out; have := HLL.out; rw [r2cs_length]; simp; omega) (by have := HSZ.out; simp; omega) ?_; intro v5 w5 hown5 hb5 hgr5; have HO5 := Lib.hid (show Own w5 (w.heap.size + 1) 43 2 v5 (r2cs (o ++ [⟨xt, xr⟩])) from by rw [r2cs_append]; exact hown5); have HQ5 := Lib.hid ((hb5.block _ (Nat.lt_succ_self _)).trans HQX.out); have HB5 := Lib.hid (HBX.out.trans (hb5.mono (Nat.le_succ _))); clear hown5 hb5 hgr5))
            go_roundw
            case rel => exact ⟨i + 1, false, _, by omega, rfl, by go_num, HN.out, fun _ => (by have := HOLF.out; simp; omega), HO5.out, HQ5.out, HB5.out⟩
            case measure => simp [intOf]; omega
          | true =>
            have HN := Lib.hid (HIN rfl hg).out
            rw [hg] at HLS
            clear HNX HIN HHIT hm HOL hg
            go_wp2_with fail
            refine HLS.out.mono ?_
            rintro e w4 ⟨rfl, hb4⟩
            have hbx := (HX.out.below hb4).cells
            have hbq := (HQX.out.below hb4).cells
            have HXL := Lib.hid (show wr.heap.size < w4.heap.size from by have := hb4.size; simp at this; omega)
            have HX4 := Lib.hid (HX.out.below hb4)
            have HOX := Lib.hid (HOX.out.below hb4)
            have HQX := Lib.hid (HQX.out.below hb4)
            have HSZ := Lib.hid (show w.heap.size + 1 ≤ w4.heap.size from by have := HSZ.out; have := hb4.size; simp at this; omega)
            have HBX := Lib.hid (HBX.out.trans (hb4.mono HBX.out.size))
            clear hb4 HLS
            go_wp2_with (at_builtin; first
              | (refine wpList_own_lit refsT rfl (.tmp 26) (.tmp 28) rfl rfl HOX.out rfl rfl (by simp [Value.oneCell']) (by have := HON.out; have := HLL.out; rw [r2cs_length]; simp; omega) (by have := HON.out; have := HLL.out; rw [r2cs_length]; simp; omega) (by have := HSZ.out; simp; omega) ?_; intro v5 w5 hown5 hb5 hgr5; have HO5 := Lib.hid (show Own w5 (w.heap.size + 1) 43 2 v5 (r2cs (o ++ [⟨qt, qr⟩])) from by rw [r2cs_append]; exact hown5); have HQ5 := Lib.hid (show Blk w5 w.heap.size #[.string qt, .string qr] 43 from (hb5.block _ (Nat.lt_succ_self _)).trans HQX.out); have HB5 := Lib.hid (HBX.out.trans (hb5.mono (Nat.le_succ _))); have hbx5 := (show Blk w5 wr.heap.size #[.string xt, .string xr] 43 from (hgr5.block _ HXL.out (fun e => (by have := HOB.out _ e.symm; omega))).trans HX4.out).cells; have HSZ5 := Lib.hid (show w.heap.size + 1 ≤ w5.heap.size from Nat.le_trans HSZ.out hgr5.size); clear hown5 hb5 hgr5 hbx hbq)
              | go_must (refine wpList_own_lit refsT rfl (.tmp 30) (.tmp 32) rfl rfl HO5.out rfl rfl (by simp [Value.oneCell']) (by have := HON.out; have := HLL.out; rw [r2cs_length, List.length_append]; simp; omega) (by have := HON.out; have := HLL.out; rw [r2cs_length, List.length_append]; simp; omega) HSZ5.out ?_; intro v6 w6 hown6 hb6 hgr6; have HO6 := Lib.hid (show Own w6 (w.heap.size + 1) 43 2 v6 (r2cs (o ++ [⟨qt, qr⟩] ++ [⟨xt, xr⟩])) from by rw [r2cs_append]; exact hown6); have HQ6 := Lib.hid ((hb6.block _ (Nat.lt_succ_self _)).trans HQ5.out); have HB6 := Lib.hid (HB5.out.trans (hb6.mono (Nat.le_succ _))); clear hown6 hb6 hgr6))
            go_roundw
            case rel => exact ⟨i + 1, true, _, by omega, rfl, by go_num, HN.out, fun e => (by cases e), HO6.out, HQ6.out, HB6.out⟩
            case measure => simp [intOf]; omega
    · obtain rfl : i = l.length := by omega
      have HQC := HQR.out.cells
      have HSZ := Lib.hid (show w.heap.size + 1 ≤ wr.heap.size from HQR.out.lt)
      cases d with
      | true =>
        have HF := Lib.hid (HPI.out.fin rfl)
        obtain ⟨ao5, k5, c5, rfl, -, -, -⟩ := HOW.out.sl.len
        clear hbel
        go_wp2_with fail
        go_ret
        exact ⟨_, o, rfl, HF.out, HON.out, HOW.out.sl.mono fun b hb => .inr ⟨Nat.le_of_succ_le hb.1, hb.2⟩, HBL.out⟩
      | false =>
        have HF := Lib.hid (show Ins l ⟨qt, qr⟩ (o ++ [⟨qt, qr⟩]) from PutI.fin (PutI.ins HPI.out HU.out (HOL.out rfl) (fun y hy => by rw [List.drop_length] at hy; cases hy)) rfl)
        have HOLF := Lib.hid (HOL.out rfl)
        clear hbel HOL
        go_wp2_with (at_builtin; go_must (refine wpList_own_lit refsT rfl (.tmp 37) (.tmp 39) rfl rfl HOW.out rfl rfl (by simp [Value.oneCell']) (by have := HON.out; have := HLL.out; rw [r2cs_length]; simp; omega) (by have := HON.out; have := HLL.out; rw [r2cs_length]; simp; omega) HSZ.out ?_; intro v5 w5 hown5 hb5 hgr5; have HO5 := Lib.hid (show Own w5 (w.heap.size + 1) 43 2 v5 (r2cs (o ++ [⟨qt, qr⟩])) from by rw [r2cs_append]; exact hown5); have HB5 := Lib.hid (HBL.out.trans (hb5.mono (Nat.le_succ _))); clear hown5 hb5 hgr5))
        go_ret
        exact ⟨_, _, rfl, HF.out, by have := HOLF.out; simp; omega, HO5.out.sl.mono fun b hb => .inr ⟨Nat.le_of_succ_le hb.1, hb.2⟩, HB5.out⟩

end Go.Proofs.Ytfhonficpccegaa
namespace Go.Proofs.Ytfhonficpccegaa
open Go Go.RowKit Go.Maps

theorem where_via (ts : List TyS) (b : ByteArray) (S : List R2) : (whereP (refsOf ts) b).any (fun n => decide ((⟨n, b⟩ : R2) ∈ S)) = ts.any fun t => hasT t b && decide ((⟨t.name, b⟩ : R2) ∈ S) := by
  rw [Bool.eq_iff_iff, List.any_eq_true, List.any_eq_true]
  constructor
  · rintro ⟨n, hn, hs⟩
    unfold whereP at hn
    obtain ⟨x, hx, rfl⟩ := List.mem_map.1 hn
    obtain ⟨hx, hb⟩ := List.mem_filter.1 hx
    obtain ⟨t, ht, r, hr, rfl⟩ := refs_mem.1 hx
    refine ⟨t, ht, ?_⟩
    rw [Bool.and_eq_true]
    refine ⟨?_, hs⟩
    show t.rels.any (fun r => decide (r.1 = b)) = true
    exact List.any_eq_true.2 ⟨r, hr, hb⟩
  · rintro ⟨t, ht, hs⟩
    rw [Bool.and_eq_true] at hs
    obtain ⟨hh, hs⟩ := hs
    obtain ⟨r, hr, hb⟩ := List.any_eq_true.1 (show t.rels.any (fun r => decide (r.1 = b)) = true from hh)
    refine ⟨t.name, ?_, hs⟩
    unfold whereP
    exact List.mem_map.2 ⟨(⟨t.name, r.1⟩, r.2), List.mem_filter.2 ⟨refs_mem.2 ⟨t, ht, r, hr, rfl⟩, hb⟩, rfl⟩
/-- How many parts can. -/
def cntC (q : RT → Bool) (l : List RT) : Nat := (l.filter q).length
theorem cntC_take {q : RT → Bool} {l : List RT} {i : Nat} (hi : i < l.length) : cntC q (l.take (i + 1)) = cntC q (l.take i) + if q l[i] then 1 else 0 := by
  unfold cntC
  rw [List.take_succ_eq_append_getElem hi, List.filter_append, List.length_append]
  by_cases h : q l[i] = true <;> simp [h]
theorem cntC_le (q : RT → Bool) (l : List RT) : cntC q l ≤ l.length := List.length_filter_le _ _
theorem cntC_all (q : RT → Bool) (l : List RT) : l.all q = decide (cntC q l = l.length) := by
  rw [Bool.eq_iff_iff, decide_eq_true_eq]
  unfold cntC
  rw [List.length_filter_eq_length_iff, List.all_eq_true]
theorem cntC_any (q : RT → Bool) (l : List RT) : l.any q = decide (0 < cntC q l) := by
  rw [Bool.eq_iff_iff, decide_eq_true_eq, List.any_eq_true]
  unfold cntC
  constructor
  · rintro ⟨x, hx, hq⟩; exact List.length_pos_of_mem (List.mem_filter.2 ⟨hx, hq⟩)
  · intro h
    obtain ⟨x, hx⟩ := List.exists_mem_of_length_pos h
    exact ⟨x, (List.mem_filter.1 hx).1, (List.mem_filter.1 hx).2⟩
theorem pcan_parts (P : List (R2 × RT)) (S : List R2) (typ a b : ByteArray) (k : Int) (ps : List RT) (h1 : k ≠ 1) (h2 : k ≠ 2) (h3 : k ≠ 3) : (RT.mk k a b ps).pcan P S typ = (decide (cntC (fun r => r.pcan P S typ) ps = ps.length) || (decide (k = 4) && decide (0 < cntC (fun r => r.pcan P S typ) ps))) := by
  rw [RT.pcan, if_neg h1, if_neg h2, if_neg h3, pcanN_eq, pcanL_eq, cntC_all, cntC_any]
  by_cases h4 : k = 4
  · rw [if_pos h4, decide_eq_true h4, Bool.true_and]
    have := cntC_le (fun r : RT => r.pcan P S typ) ps
    generalize cntC (fun r : RT => r.pcan P S typ) ps = n at *
    rw [Bool.eq_iff_iff]
    simp only [Bool.or_eq_true, decide_eq_true_eq]
    omega
  · rw [if_neg h4, decide_eq_false h4, Bool.false_and, Bool.or_false]

set_option maxRecDepth 100000 in
set_option maxHeartbeats 2000000 in
theorem can06_any (ts : List TyS) (typ : ByteArray) (S : List R2) (r : RT) : ∀ (tv lv pv : Value) (w : World), TysAt (· < w.heap.size) w ts tv → Sl (· < w.heap.size) w 2 lv (r2cs S) → RTAt (· < w.heap.size) w r pv → ts.length ≤ 1000000000 → r.sz ≤ 1000000000 →
    Calls Try.prog 40 #[.agg #[tv], .string typ, rV r pv, lv] w fun e w' => e = .returned (.bool (r.pcan (refsOf ts) S typ)) ∧ Below w.heap.size w w' := by
  induction r using RT.ind with
  | h r ih =>
  intro tv lv pv w hty hlv hat htl hrs
  obtain ⟨ao, c, rfl, hlc, hcm, hcell⟩ := hat.rows
  obtain ⟨aot, ct, rfl, htc, htcm, htcell⟩ := hty.rows
  obtain ⟨aol, cl, rfl, -, -, -⟩ := refs_rows hlv
  have HC := Lib.hid hcell
  have HTC := Lib.hid htcell
  have HTY := Lib.hid hty
  have HLV := Lib.hid hlv
  have HI := Lib.hid ih
  have HRS := Lib.hid hrs
  have HPL := Lib.hid (show r.ps.length ≤ 1000000000 from by
    have h1 := r.sz_eq
    have h2 : ∀ l : List RT, l.length ≤ szL l := fun l => by
      induction l with
      | nil => simp
      | cons x l ih => rw [szL, List.length_cons]; have := x.sz_eq; omega
    have := h2 r.ps
    omega)
  have HTL := Lib.hid htl
  obtain ⟨wa, hwa⟩ : ∃ x, x = w.alloc (.cells #[.slice aot ts.length ct] 24) := ⟨_, rfl⟩
  obtain ⟨wb, hwb⟩ : ∃ x, x = wa.alloc (.cells #[.int .i64 r.k, .string r.a, .string r.b, .slice ao r.ps.length c] 46) := ⟨_, rfl⟩
  have e1 : wa.heap.size = w.heap.size + 1 := by rw [hwa]; simp
  have x01 : Ext w wa := by rw [hwa]; exact Ext.alloc _ _
  have x12 : Ext wa wb := by rw [hwb]; exact Ext.alloc _ _
  have HSA := Lib.hid (show Blk wb w.heap.size #[.slice aot ts.length ct] 24 from Blk.below (by rw [hwa]; exact Blk.made _ _ _) x12)
  have HRA := Lib.hid (show Blk wb (w.heap.size + 1) #[.int .i64 r.k, .string r.a, .string r.b, .slice ao r.ps.length c] 46 from by rw [hwb, ← e1]; exact Blk.made _ _ _)
  have HX := Lib.hid (show Below w.heap.size w wb from x01.trans x12)
  have hsa := HSA.out.cells
  have hra := HRA.out.cells
  subst hwb hwa
  clear hty hlv hat hcell htcell htc htcm htl hrs e1 x01 x12 ih
  unfold rV
  obtain ⟨k, a, b, ps⟩ := r
  dsimp only [RT.ps] at HC HI HPL hlc
  dsimp only [RT.k, RT.a, RT.b, RT.ps] at HRA HX hra hsa HSA ⊢
  by_cases h1 : k = 1
  · subst h1
    have HV := Lib.hid (show (RT.mk 1 a b ps).pcan (refsOf ts) S typ = true from by rw [RT.pcan, if_pos rfl])
    go_enter Try.func40, Try.ntmps40
    go_wp2_with fail
    go_ret
    exact ⟨by rw [HV.out]; rfl, HX.out⟩
  have q1 : (k == 1) = false := by rw [beq_eq_false_iff_ne]; exact h1
  by_cases h2 : k = 2
  · subst h2
    have HV := Lib.hid (show (RT.mk 2 a b ps).pcan (refsOf ts) S typ = decide ((⟨typ, a⟩ : R2) ∈ S) from by rw [RT.pcan, if_neg (by decide), if_pos rfl])
    have HAM := Lib.hid (among_any _ S ⟨typ, a⟩ _ (HLV.out.same (Same.below HX.out) |>.mono fun b hb => Nat.lt_of_lt_of_le hb HX.out.size))
    unfold r2V at HAM
    dsimp only at HAM
    clear h1 q1
    go_enter Try.func40, Try.ntmps40
    go_wp2_with fail
    refine HAM.out.mono ?_
    rintro e w2 ⟨rfl, hb2⟩
    have HB2 := Lib.hid (HX.out.trans (hb2.mono HX.out.size))
    clear hb2
    go_wp2_with fail
    go_ret
    exact ⟨by rw [HV.out]; rfl, HB2.out⟩
  have q2 : (k == 2) = false := by rw [beq_eq_false_iff_ne]; exact h2
  by_cases h3 : k = 3
  · subst h3
    have HV := Lib.hid (show (RT.mk 3 a b ps).pcan (refsOf ts) S typ = (decide ((⟨typ, a⟩ : R2) ∈ S) && ts.any (fun t : TyS => hasT t b && decide ((⟨t.name, b⟩ : R2) ∈ S))) from by rw [RT.pcan, if_neg (by decide), if_neg (by decide), if_pos rfl, where_via])
    clear h1 q1 h2 q2
    go_enter Try.func40, Try.ntmps40
    go_wp2_with fail
    obtain ⟨wb, hwb⟩ : ∃ x, x = (w.alloc (.cells #[.slice aot ts.length ct] 24)).alloc (.cells #[.int .i64 3, .string a, .string b, .slice ao ps.length c] 46) := ⟨_, rfl⟩
    rw [← hwb] at HSA HRA HX ⊢
    clear hwb hsa hra
    go_loopw [9, 32] (fun sv iv wr => ∃ i : Nat, i ≤ ts.length ∧ sv = .bool ((ts.take i).any (fun t : TyS => hasT t b && decide ((⟨t.name, b⟩ : R2) ∈ S))) ∧ iv = .int .i64 i ∧ Ext wb wr) (fun _ iv _ => ts.length - (intOf iv).toNat)
    case atStart => exact ⟨0, by omega, rfl, rfl, Ext.refl _⟩
    case round =>
      obtain ⟨i, hi, rfl, rfl, hext⟩ := hrel
      have HE := Lib.hid hext
      have HBW := Lib.hid (HX.out.trans (hext.mono HX.out.size))
      have hbel := HBW.out
      by_cases hlt : i < ts.length
      · have HTK := Lib.hid (show (ts.take (i + 1)).any (fun t : TyS => hasT t b && decide ((⟨t.name, b⟩ : R2) ∈ S)) = ((ts.take i).any (fun t : TyS => hasT t b && decide ((⟨t.name, b⟩ : R2) ∈ S)) || (hasT ts[i] b && decide ((⟨ts[i].name, b⟩ : R2) ∈ S))) from by rw [List.take_succ_eq_append_getElem hlt, List.any_append]; simp)
        have htl := HTL.out
        obtain ⟨bb, off, rv, rfl, hb, c0, c1, hrl⟩ := HTC.out i hlt
        have d0 := (hbel.cell (p := ⟨bb, off + i * 2, none⟩) hb).trans c0
        have d1 := (hbel.cell (p := ⟨bb, off + i * 2 + 1, none⟩) hb).trans c1
        obtain ⟨aor, cr, rfl, -, -, -⟩ := hrl.rows
        have x1 := Ext.alloc wr (.cells #[.string ts[i].name, .slice aor ts[i].rels.length cr] 59)
        have HT1 := Lib.hid (Blk.made wr #[.string ts[i].name, .slice aor ts[i].rels.length cr] 59)
        have HB1 := Lib.hid (HBW.out.trans (x1.mono HBW.out.size))
        have HE1 := Lib.hid (show Ext wb _ from hext.trans x1)
        have HHS := Lib.hid (has_any ts[i] (.slice aor ts[i].rels.length cr) b _ (hrl.up HB1.out))
        have ht1 := HT1.out.cells
        have hr1 := (HRA.out.below HE1.out).cells
        generalize (ts.take i).any (fun t : TyS => hasT t b && decide ((⟨t.name, b⟩ : R2) ∈ S)) = sm at *
        generalize ts[i] = t at *
        clear c0 c1 hrl hbel hext x1
        cases sm with
        | true =>
          clear HHS
          go_wp2_with fail
          go_roundw
          case rel => exact ⟨i + 1, by omega, by rw [HTK.out]; rfl, by go_num, HE1.out⟩
          case measure => simp [intOf]; omega
        | false =>
          cases hg : hasT t b with
          | false =>
            rw [hg] at HHS HTK
            clear hg
            go_wp2_with fail
            refine HHS.out.mono ?_
            rintro e w4 ⟨rfl, hb4⟩
            have HE4 := Lib.hid (HE1.out.trans hb4)
            clear hb4 HHS
            go_wp2_with fail
            go_roundw
            case rel => exact ⟨i + 1, by omega, by rw [HTK.out]; rfl, by go_num, HE4.out⟩
            case measure => simp [intOf]; omega
          | true =>
            rw [hg] at HHS HTK
            clear hg
            go_wp2_with fail
            refine HHS.out.mono ?_
            rintro e w4 ⟨rfl, hb4⟩
            have HE4 := Lib.hid (HE1.out.trans hb4)
            have HB4 := Lib.hid (HB1.out.trans (hb4.mono HB1.out.size))
            have ht4 := (HT1.out.below hb4).cells
            have hr4 := (HRA.out.below HE4.out).cells
            have HAM := Lib.hid (among_any (.slice aol S.length cl) S ⟨t.name, b⟩ w4 ((HLV.out.same (Same.below HB4.out)).mono fun x hx => Nat.lt_of_lt_of_le hx (Below.size HB4.out)))
            unfold r2V at HAM
            dsimp only at HAM
            clear hb4 HHS ht1 hr1
            go_wp2_with fail
            refine HAM.out.mono ?_
            rintro e w5 ⟨rfl, hb5⟩
            have HE5 := Lib.hid (HE4.out.trans hb5)
            clear hb5 HAM ht4 hr4
            generalize decide ((⟨t.name, b⟩ : R2) ∈ S) = g2 at *
            cases g2
            · go_wp2_with fail
              go_roundw
              case rel => exact ⟨i + 1, by omega, by rw [HTK.out]; rfl, by go_num, HE5.out⟩
              case measure => simp [intOf]; omega
            · go_wp2_with fail
              go_roundw
              case rel => exact ⟨i + 1, by omega, by rw [HTK.out]; rfl, by go_num, HE5.out⟩
              case measure => simp [intOf]; omega
      · obtain rfl : i = ts.length := by omega
        rw [List.take_length]
        have hr1 := (HRA.out.below hext).cells
        generalize ts.any (fun t : TyS => hasT t b && decide ((⟨t.name, b⟩ : R2) ∈ S)) = sm at *
        clear hext hbel
        cases sm with
        | false =>
          go_wp2_with fail
          go_ret
          exact ⟨by rw [HV.out, Bool.and_false]; rfl, HBW.out⟩
        | true =>
          have HAM := Lib.hid (among_any (.slice aol S.length cl) S ⟨typ, a⟩ wr ((HLV.out.same (Same.below HBW.out)).mono fun x hx => Nat.lt_of_lt_of_le hx (Below.size HBW.out)))
          unfold r2V at HAM
          dsimp only at HAM
          go_wp2_with fail
          refine HAM.out.mono ?_
          rintro e w5 ⟨rfl, hb5⟩
          have HB5 := Lib.hid (HBW.out.trans (hb5.mono HBW.out.size))
          clear hb5 HAM hr1
          generalize decide ((⟨typ, a⟩ : R2) ∈ S) = g2 at *
          cases g2
          · go_wp2_with fail
            go_ret
            exact ⟨by rw [HV.out]; rfl, HB5.out⟩
          · go_wp2_with fail
            go_ret
            exact ⟨by rw [HV.out]; rfl, HB5.out⟩
  have q3 : (k == 3) = false := by rw [beq_eq_false_iff_ne]; exact h3
  have HV := Lib.hid (pcan_parts (refsOf ts) S typ a b k ps h1 h2 h3)
  clear h1 h2 h3
  go_enter Try.func40, Try.ntmps40
  go_wp2_with fail
  obtain ⟨wb, hwb⟩ : ∃ x, x = (w.alloc (.cells #[.slice aot ts.length ct] 24)).alloc (.cells #[.int .i64 k, .string a, .string b, .slice ao ps.length c] 46) := ⟨_, rfl⟩
  rw [← hwb] at HSA HRA HX ⊢
  clear hwb hsa hra
  have HLS := Lib.hid HLV.out
  go_loopw [12, 65] (fun nv iv wr => ∃ i : Nat, i ≤ ps.length ∧ nv = .int .i64 (cntC (fun r : RT => r.pcan (refsOf ts) S typ) (ps.take i)) ∧ iv = .int .i64 i ∧ Ext wb wr) (fun _ iv _ => ps.length - (intOf iv).toNat)
  case atStart => exact ⟨0, by omega, rfl, rfl, Ext.refl _⟩
  case round =>
    obtain ⟨i, hi, rfl, rfl, hext⟩ := hrel
    have HE := Lib.hid hext
    have HBW := Lib.hid (HX.out.trans (hext.mono HX.out.size))
    have hbel := HBW.out
    by_cases hlt : i < ps.length
    · have HTK := Lib.hid (cntC_take (q := (fun r : RT => r.pcan (refsOf ts) S typ)) hlt)
      have hcn : cntC (fun r : RT => r.pcan (refsOf ts) S typ) (ps.take i) ≤ i := Nat.le_trans (cntC_le _ _) (by rw [List.length_take]; omega)
      have HCN := Lib.hid hcn
      obtain ⟨bb, off, pv, rfl, hb, c0, c1, c2, c3, hpt⟩ := HC.out i hlt
      have d0 := (hbel.cell (p := ⟨bb, off + i * 4, none⟩) hb).trans c0
      have d1 := (hbel.cell (p := ⟨bb, off + i * 4 + 1, none⟩) hb).trans c1
      have d2 := (hbel.cell (p := ⟨bb, off + i * 4 + 2, none⟩) hb).trans c2
      have d3 := (hbel.cell (p := ⟨bb, off + i * 4 + 3, none⟩) hb).trans c3
      obtain ⟨aop, cp, rfl, -, -, -⟩ := hpt.rows
      have x1 := Ext.alloc wr (.cells #[.int .i64 ps[i].k, .string ps[i].a, .string ps[i].b, .slice aop ps[i].ps.length cp] 46)
      have HP1 := Lib.hid (Blk.made wr #[.int .i64 ps[i].k, .string ps[i].a, .string ps[i].b, .slice aop ps[i].ps.length cp] 46)
      have HB1 := Lib.hid (HBW.out.trans (x1.mono HBW.out.size))
      have HE1 := Lib.hid (show Ext wb _ from hext.trans x1)
      have HR := Lib.hid (HI.out ps[i] (List.getElem_mem hlt) _ _ _ _ (HTY.out.up HB1.out) ((HLS.out.same (Same.below HB1.out)).mono fun x hx => Nat.lt_of_lt_of_le hx (Below.size HB1.out)) (hpt.up HB1.out) HTL.out (by
        have := RT.sz_lt (r := .mk k a b ps) (List.getElem_mem hlt)
        have := HRS.out
        omega))
      have hp1 := HP1.out.cells
      have hs1 := (HSA.out.below HE1.out).cells
      unfold rV at HR
      clear c0 c1 c2 c3 hpt hbel hext x1
      generalize ps[i] = p at *
      generalize cntC (fun r : RT => r.pcan (refsOf ts) S typ) (ps.take i) = n at *
      have hpl := HPL.out
      have hw1 : wrap64 ((n : Int) + 1) = ((n + 1 : Nat) : Int) := by rw [wrap_in _ (by omega) (by omega)]; omega
      go_wp2_with fail
      refine HR.out.mono ?_
      rintro e w4 ⟨rfl, hb4⟩
      have HE4 := Lib.hid (HE1.out.trans hb4)
      clear hb4 HR hp1 hs1 d0 d1 d2 d3
      generalize p.pcan (refsOf ts) S typ = g at *
      cases g
      · go_wp2_with fail
        go_roundw
        case rel => exact ⟨i + 1, by omega, by rw [HTK.out]; rfl, by go_num, HE4.out⟩
        case measure => simp [intOf]; omega
      · go_wp2_with fail
        go_roundw
        case rel => exact ⟨i + 1, by omega, by rw [HTK.out]; go_num, by go_num, HE4.out⟩
        case measure => simp [intOf]; omega
    · obtain rfl : i = ps.length := by omega
      rw [List.take_length]
      have hr1 := (HRA.out.below hext).cells
      generalize cntC (fun r : RT => r.pcan (refsOf ts) S typ) ps = n at *
      clear hext hbel
      by_cases hn : n = ps.length
      · have hnq : ((n : Int) == (ps.length : Int)) = true := by rw [beq_iff_eq]; omega
        have HF := Lib.hid (show (RT.mk k a b ps).pcan (refsOf ts) S typ = true from by rw [HV.out, decide_eq_true hn, Bool.true_or])
        clear hn
        go_wp2_with fail
        go_ret
        exact ⟨by rw [HF.out]; rfl, HBW.out⟩
      · have hnq : ((n : Int) == (ps.length : Int)) = false := by rw [beq_eq_false_iff_ne]; omega
        have HF := Lib.hid (show (RT.mk k a b ps).pcan (refsOf ts) S typ = (decide (k = 4) && decide (0 < n)) from by rw [HV.out, decide_eq_false hn, Bool.false_or])
        clear hn
        by_cases hk : k = 4
        · subst hk
          by_cases h0 : 0 < n
          · have h0' : (0 : Int) < (n : Int) := by omega
            have HG := Lib.hid (show decide (0 < n) = true from decide_eq_true h0)
            clear h0
            go_wp2_with fail
            go_ret
            exact ⟨by rw [HF.out, HG.out]; rfl, HBW.out⟩
          · have h0' : ¬ (0 : Int) < (n : Int) := by omega
            have HG := Lib.hid (show decide (0 < n) = false from decide_eq_false h0)
            clear h0
            go_wp2_with fail
            go_ret
            exact ⟨by rw [HF.out, HG.out]; rfl, HBW.out⟩
        · have q4 : (k == 4) = false := by rw [beq_eq_false_iff_ne]; exact hk
          have HG := Lib.hid (show decide (k = 4) = false from decide_eq_false hk)
          clear hk
          go_wp2_with fail
          go_ret
          exact ⟨by rw [HF.out, HG.out]; rfl, HBW.out⟩

end Go.Proofs.Ytfhonficpccegaa
