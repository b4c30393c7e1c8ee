/- The walk of the document's Decode, of an edit's bytes. No condition: lemmas. -/
import Derived.Test.YtkllfdfipkcddaaDecD
import Derived.Test.YtkllfdfipkcddaaDecF
namespace Go.Proofs.Ytkllfdfipkcddaa
open Go Go.RowKit

/-- What the document's Decode has made, beside its reader. -/
structure RSt (w : World) (B rb eb : Nat) (add : List Tab) (drop : List Int) (av dv fl hd lg nx : Value) : Prop where
  edit : Blk w eb #[av, dv, fl, hd, lg, nx] 28
  add : Own w B 38 5 av (tcs add)
  drop : Own w B 3 1 dv (ic drop)
  rl : rb < eb
  el : eb < B
  size : B ≤ w.heap.size

theorem RSt.keep {w w' : World} {B rb eb : Nat} {add : List Tab} {drop : List Int} {av dv fl hd lg nx : Value} (h : RSt w B rb eb add drop av dv fl hd lg nx) (hk : Kept (fun b => b < w.heap.size ∧ b ≠ rb) w w') : RSt w' B rb eb add drop av dv fl hd lg nx where
  edit := hk.blk h.edit ⟨by have := h.el; have := h.size; omega, by have := h.rl; omega⟩
  add := h.add.keep fun b hb hl => hk.block b ⟨hl, by have := h.rl; have := h.el; omega⟩
  drop := h.drop.keep fun b hb hl => hk.block b ⟨hl, by have := h.rl; have := h.el; omega⟩
  rl := h.rl
  el := h.el
  size := Nat.le_trans h.size hk.size
theorem RSt.cell {w : World} {B rb eb : Nat} {add : List Tab} {drop : List Int} {av dv fl hd lg nx fl' hd' lg' nx' : Value} (h : RSt w B rb eb add drop av dv fl hd lg nx) (i : Nat) (u : Value)
    (he : (#[av, dv, fl, hd, lg, nx] : Array Value).setIfInBounds i u = #[av, dv, fl', hd', lg', nx']) : RSt (w.setCell ⟨eb, i, none⟩ u) B rb eb add drop av dv fl' hd' lg' nx' :=
  have hne : ∀ b, b ≠ eb → (w.setCell ⟨eb, i, none⟩ u).heap[b]? = w.heap[b]? := fun b hb => Below.heap_setCell w _ _ b hb
  ⟨Blk.set_to h.edit i u he, h.add.keep fun b hb _ => hne b (by have := h.el; omega), h.drop.keep fun b hb _ => hne b (by have := h.el; omega), h.rl, h.el, by simp; exact h.size⟩

set_option maxRecDepth 100000 in
set_option maxHeartbeats 3200000 in
theorem refDecode_any (v : Value) (x : Edi) (w : World) (hv : Sl (· < w.heap.size) w 1 v (bc (encE x))) (hx : EdiR x) :
    Calls Try.prog 16 #[v] w (RetDec x w) := by
  have hAl := encA_len x.add hx.add
  have hDl := putsI_len x.drop hx.drop
  have ha40 := hx.adds
  have hd40 := hx.drops
  have l1 := U64.len (q := x.floor) hx.floor
  have l2 := U64.len (q := x.head) hx.head
  have l3 := U64.len (q := x.log.toNat) (by have := hx.log; unfold In62 at this; unfold U64; omega)
  have l4 := U64.len (q := x.next.toNat) (by have := hx.next; unfold In62 at this; unfold U64; omega)
  have l5 := U64.len (q := x.drop.length) (by unfold U64; omega)
  have l6 := U64.len (q := x.add.length) (by unfold U64; omega)
  rw [encE_parts] at hv
  obtain ⟨add, drop, fl, hd, lg, nx⟩ := x
  obtain ⟨xadd, xdrop, xlog, xnext, xfloor, xhead, _, _⟩ := hx
  dsimp only at *
  obtain ⟨ao, n, c, rfl, hn, hnc, hc⟩ := hv.len
  obtain ⟨wA, hwA⟩ : ∃ wA, wA = (((w.alloc (.cells #[.slice none 0 0, .slice none 0 0, .int .u64 0, .int .u64 0, .int .i64 0, .int .i64 0] 28)).alloc (.cells #[.slice ao n c, .int .i64 0] 68)).alloc (.cells #[.slice none 0 0, .slice none 0 0, .int .u64 0, .int .u64 0, .int .i64 0, .int .i64 0] 28)) := ⟨_, rfl⟩
  have hbA : Below w.heap.size w wA := by rw [hwA]; exact (((Below.refl _ _).alloc (Nat.le_refl _) _).alloc (by simp) _).alloc (by simp; omega) _
  have hOA : Blk wA w.heap.size #[.slice none 0 0, .slice none 0 0, .int .u64 0, .int .u64 0, .int .i64 0, .int .i64 0] 28 := by rw [hwA]; exact ((Blk.made _ _ _).alloc _).alloc _
  generalize hrest : putB drop.length ++ (putsI drop ++ (putB fl ++ (putB hd ++ (putB lg.toNat ++ (putB nx.toNat ++ []))))) = rest at *
  have hrl : rest.length ≤ 10000 := by rw [← hrest]; simp only [List.length_append, List.length_nil]; omega
  have hRA : Rd wA (w.heap.size + 1) 68 (putB add.length ++ (encA add ++ rest)) :=
    ⟨_, by rw [hwA]; exact (Blk.made' (by simp) _ _).alloc _, (hv.same (Same.below hbA)).mono fun b hb => by omega⟩
  have hst0 : RSt wA (w.heap.size + 1 + 1 + 1) (w.heap.size + 1) (w.heap.size + 1 + 1) [] [] (.slice none 0 0) (.slice none 0 0) (.int .u64 0) (.int .u64 0) (.int .i64 0) (.int .i64 0) := by
    rw [hwA]
    exact ⟨Blk.made' (by simp) _ _, Own.nil _ _ _ _, Own.nil _ _ _ _, by omega, by omega, by simp⟩
  have HP1 := Lib.hid (refNumber_any _ add.length _ wA hRA (by unfold U64; omega) (by simp only [List.length_append]; omega))
  have HOA := Lib.hid hOA
  have HBA := Lib.hid hbA
  have HWA := Lib.hid hwA
  have HXA := Lib.hid xadd
  have HXD := Lib.hid xdrop
  have HRE := Lib.hid hrest
  clear hOA hbA hwA hv hn hRA hrest xadd xdrop
  go_enter Try.func16, Try.ntmps16
  go_wp2_with fail
  rw [← HWA.out]
  refine HP1.out.mono ?_
  rintro e w1 ⟨rfl, hR1, hk1⟩
  have hst1 := hst0.keep (hk1.mono fun b hb => hb.2)
  have hK1 : Kept (fun b => b < w.heap.size + 1) wA w1 := hk1.mono fun b hb => by have : b < w.heap.size + 1 := hb; omega
  clear HP1 hst0 hk1
  go_wp2_with fail
  go_loopw [6] (fun ii wr => ∃ i : Nat, i ≤ add.length ∧ ii = .int .u64 ((add.length - i : Nat) : Int) ∧ ∃ av', RSt wr (w.heap.size + 1 + 1 + 1) (w.heap.size + 1) (w.heap.size + 1 + 1) (add.take i) [] av' (.slice none 0 0) (.int .u64 0) (.int .u64 0) (.int .i64 0) (.int .i64 0) ∧ Rd wr (w.heap.size + 1) 68 (encA (add.drop i) ++ rest) ∧ Kept (fun b => b < w.heap.size + 1) wA wr) (fun ii _ => (intOf ii).toNat)
  case atStart => exact ⟨0, by omega, rfl, _, by simpa using hst1, by simpa using hR1, hK1⟩
  case round =>
    obtain ⟨i, hi, rfl, av', hst, hR, hk⟩ := hrel
    clear hst1 hR1 hK1
    have HR := Lib.hid hR
    have HST := Lib.hid hst
    have HK := Lib.hid hk
    obtain ⟨vr, hB, _⟩ := hR
    have hBc := hB.cells
    have hesz := hst.size
    clear hB hk
    by_cases hlt : i < add.length
    · have hw : IntKind.u64.wrap (((add.length - i : Nat) : Int) - 1) = ((add.length - (i + 1) : Nat) : Int) := by
        have := U64.wrap (q := add.length - (i + 1)) (by unfold U64; omega)
        rwa [show ((add.length - (i + 1) : Nat) : Int) = ((add.length - i : Nat) : Int) - 1 from by omega] at this ⊢
      have hcut := encA_cut hlt
      have htr := HXA.out _ (List.getElem_mem hlt)
      have HTK := Lib.hid (List.take_succ_eq_append_getElem hlt)
      have hl2 : (encT add[i] ++ (encA (add.drop (i + 1)) ++ rest)).length ≤ 1000000 := by
        have h1 := encA_len (add.drop i) fun t ht => HXA.out t (List.mem_of_mem_drop ht)
        rw [hcut, List.length_append, List.length_drop] at h1
        simp only [List.length_append]
        omega
      have hR2 := HR.out
      rw [hcut, List.append_assoc] at hR2
      generalize hrr : encA (add.drop (i + 1)) ++ rest = rr at *
      have HRR := Lib.hid hrr
      generalize add[i] = t at *
      obtain ⟨tn, tl, ts, tf, tla⟩ := t
      have hX : encT ⟨tn, tl, ts, tf, tla⟩ ++ rr = putB tn.toNat ++ (putB tl.toNat ++ (putB ts.toNat ++ (putT tf.data.toList ++ (putT tla.data.toList ++ rr)))) := by simp [encT, putsI]
      rw [hX] at hR2 hl2
      have hnum := htr.num
      have hlvl := htr.lvl
      have hsize := htr.size
      simp only [List.length_append] at hl2
      dsimp only at hnum hlvl hsize
      have hpos : 0 < ((add.length - i : Nat) : Int) := by omega
      have HI := Lib.hid (show add.length - (i + 1) < add.length - i by omega)
      have hTb := Blk.made wr #[.int .i64 0, .int .i64 0, .int .i64 0, .string ⟨#[]⟩, .string ⟨#[]⟩] 38
      have hkT : Kept (fun b => b < wr.heap.size ∧ b ≠ w.heap.size + 1) wr (wr.alloc (.cells #[.int .i64 0, .int .i64 0, .int .i64 0, .string ⟨#[]⟩, .string ⟨#[]⟩] 38)) := (Kept.refl _ _).alloc (fun b hb => hb.1) _
      have hRT : Rd (wr.alloc (.cells #[.int .i64 0, .int .i64 0, .int .i64 0, .string ⟨#[]⟩, .string ⟨#[]⟩] 38)) (w.heap.size + 1) 68 _ := hR2.same fun b hb => Below.heap_alloc wr _ b (by omega)
      have HP2 := Lib.hid (refSmall_any _ tn _ _ hRT hnum (by simp only [List.length_append]; omega))
      clear hcut htr hR2 hrr hX HR hst
      go_wp2_with fail
      refine HP2.out.mono ?_
      rintro e u0 ⟨rfl, hR2, hk2⟩
      have hT2 := hk2.blk hTb (by simp only [ne_eq]; omega)
      have hK2 := hkT.trans (hk2.mono (J := fun b => b < wr.heap.size ∧ b ≠ w.heap.size + 1) fun b hb => hb.2)
      clear HP2 hTb hkT hk2 hRT
      have hTc0 := hT2.cells
      have hTf0 := hT2.free
      have hT3 := Blk.set_to hT2 0 (.int .i64 tn) rfl
      have hR3 := hR2.cell (eb := wr.heap.size) (i := 0) (u := (.int .i64 tn)) (by omega)
      have hK3 := hK2.set (a := ⟨wr.heap.size, 0, none⟩) (by simp) (.int .i64 tn)
      clear hT2 hR2 hK2
      have HP3 := Lib.hid (refSmall_any _ tl _ _ hR3 hlvl (by simp only [List.length_append]; omega))
      go_wp2_with fail
      clear hTc0 hTf0
      generalize u0.setCell ⟨wr.heap.size, 0, none⟩ (.int .i64 tn) = v0 at *
      refine HP3.out.mono ?_
      rintro e u1 ⟨rfl, hR2, hk2⟩
      have hT2 := hk2.blk hT3 (by simp only [ne_eq]; omega)
      have hK2 := hK3.trans (hk2.mono (J := fun b => b < wr.heap.size ∧ b ≠ w.heap.size + 1) fun b hb => hb.2)
      clear HP3 hT3 hR3 hK3 hk2
      have hTc1 := hT2.cells
      have hTf1 := hT2.free
      have hT3 := Blk.set_to hT2 1 (.int .i64 tl) rfl
      have hR3 := hR2.cell (eb := wr.heap.size) (i := 1) (u := (.int .i64 tl)) (by omega)
      have hK3 := hK2.set (a := ⟨wr.heap.size, 1, none⟩) (by simp) (.int .i64 tl)
      clear hT2 hR2 hK2
      have HP4 := Lib.hid (refSmall_any _ ts _ _ hR3 hsize (by simp only [List.length_append]; omega))
      go_wp2_with fail
      clear hTc1 hTf1
      generalize u1.setCell ⟨wr.heap.size, 1, none⟩ (.int .i64 tl) = v1 at *
      refine HP4.out.mono ?_
      rintro e u2 ⟨rfl, hR2, hk2⟩
      have hT2 := hk2.blk hT3 (by simp only [ne_eq]; omega)
      have hK2 := hK3.trans (hk2.mono (J := fun b => b < wr.heap.size ∧ b ≠ w.heap.size + 1) fun b hb => hb.2)
      clear HP4 hT3 hR3 hK3 hk2
      have hTc2 := hT2.cells
      have hTf2 := hT2.free
      have hT3 := Blk.set_to hT2 2 (.int .i64 ts) rfl
      have hR3 := hR2.cell (eb := wr.heap.size) (i := 2) (u := (.int .i64 ts)) (by omega)
      have hK3 := hK2.set (a := ⟨wr.heap.size, 2, none⟩) (by simp) (.int .i64 ts)
      clear hT2 hR2 hK2
      have HP5 := Lib.hid (refText_any _ tf _ _ hR3 (by simp only [List.length_append]; omega))
      go_wp2_with fail
      clear hTc2 hTf2
      generalize u2.setCell ⟨wr.heap.size, 2, none⟩ (.int .i64 ts) = v2 at *
      refine HP5.out.mono ?_
      rintro e u3 ⟨rfl, hR2, hk2⟩
      have hT2 := hk2.blk hT3 (by simp only [ne_eq]; omega)
      have hK2 := hK3.trans (hk2.mono (J := fun b => b < wr.heap.size ∧ b ≠ w.heap.size + 1) fun b hb => hb.2)
      clear HP5 hT3 hR3 hK3 hk2
      have hTc3 := hT2.cells
      have hTf3 := hT2.free
      have hT3 := Blk.set_to hT2 3 (.string tf) rfl
      have hR3 := hR2.cell (eb := wr.heap.size) (i := 3) (u := (.string tf)) (by omega)
      have hK3 := hK2.set (a := ⟨wr.heap.size, 3, none⟩) (by simp) (.string tf)
      clear hT2 hR2 hK2
      have HP6 := Lib.hid (refText_any _ tla _ _ hR3 (by simp only [List.length_append]; omega))
      go_wp2_with fail
      clear hTc3 hTf3
      generalize u3.setCell ⟨wr.heap.size, 3, none⟩ (.string tf) = v3 at *
      refine HP6.out.mono ?_
      rintro e u4 ⟨rfl, hR2, hk2⟩
      have hT2 := hk2.blk hT3 (by simp only [ne_eq]; omega)
      have hK2 := hK3.trans (hk2.mono (J := fun b => b < wr.heap.size ∧ b ≠ w.heap.size + 1) fun b hb => hb.2)
      clear HP6 hT3 hR3 hK3 hk2
      have hTc4 := hT2.cells
      have hTf4 := hT2.free
      have hT3 := Blk.set_to hT2 4 (.string tla) rfl
      have hR3 := hR2.cell (eb := wr.heap.size) (i := 4) (u := (.string tla)) (by omega)
      have hK3 := hK2.set (a := ⟨wr.heap.size, 4, none⟩) (by simp) (.string tla)
      clear hT2 hR2 hK2
      have hst4 := HST.out.keep hK3
      have hec := hst4.edit.cells
      have hsz4 := hst4.size
      have hTd := hT3.cells
      have hl := HST.out.add.sl.len
      obtain ⟨xa, xm, xc, rfl, hxm, _, _⟩ := hl
      rw [tcs_length, List.length_take] at hxm
      have hB4 : Below (w.heap.size + 1 + 1 + 1) (u4.setCell ⟨wr.heap.size, 4, none⟩ (.string tla)) (u4.setCell ⟨wr.heap.size, 4, none⟩ (.string tla)) := Below.refl _ _
      have HO4 := Lib.hid hst4.add
      have HSZ := Lib.hid (show (u4.setCell ⟨wr.heap.size, 4, none⟩ (.string tla)).heap.size = u4.heap.size by simp)
      have hts : (tcs (add.take i)).length ≤ 1000 := by rw [tcs_length, List.length_take]; omega
      go_wp2_with (at_builtin; go_must (refine wpList_own_lit tabsT rfl (.tmp 42) (.tmp 44) rfl rfl HO4.out (by rw [HSZ.out]; rfl) rfl (by simp [Value.oneCell']) (by simp; omega) (by simp; omega) hsz4 ?_); intro v6 w6 hown6 hb6 hg6; have hE6 := (hb6.block (w.heap.size + 1 + 1) (by omega)).trans hst4.edit; obtain ⟨ao6, m6, c6, rfl, _, _⟩ := hown6.sl.len; have hE6 : Blk w6 _ _ _ := hE6; have hc6 := hE6.cells; have hf6 := hE6.free)
      refine ⟨⟨i + 1, by omega, rfl, .slice ao6 m6 c6, ?_, ?_, ?_⟩, by have := HI.out; simp [intOf]; omega⟩
      · refine ⟨Blk.set_to hE6 0 _ rfl, ?_, Own.nil _ _ _ _, by omega, by omega, by have := hb6.size; have h2 := hsz4; rw [HSZ.out] at this h2; simp; omega⟩
        rw [HTK.out, tcs_append]
        exact hown6.keep fun b hb _ => Below.heap_setCell w6 _ _ b (by simp; omega)
      · rw [HRR.out]
        exact hR3.same fun b hb => (Below.heap_setCell w6 _ _ b (by simp; omega)).trans (hb6.block b (by omega))
      · exact (HK.out.trans ((hK3.mono fun b hb => ⟨by omega, by omega⟩).trans (Below.kept hb6 fun b hb => by omega))).set (by simp) _
    · obtain rfl : i = add.length := by omega
      have hR2 := HR.out
      have hst := HST.out
      have hk := HK.out
      rw [List.drop_length, show encA [] ++ rest = rest from rfl, ← HRE.out] at hR2
      rw [List.take_length] at hst
      have hz : ((add.length - add.length : Nat) : Int) = 0 := by omega
      have HP2 := Lib.hid (refNumber_any _ drop.length _ wr hR2 (by unfold U64; omega) (by simp only [List.length_append, List.length_nil]; omega))
      generalize hr2 : putB fl ++ (putB hd ++ (putB lg.toNat ++ (putB nx.toNat ++ []))) = rest2 at *
      have HR2 := Lib.hid hr2
      have hrl2 : rest2.length ≤ 1000 := by rw [← hr2]; simp only [List.length_append, List.length_nil]; omega
      clear hr2 hR2 HR HST HK
      go_wp2_with fail
      refine HP2.out.mono ?_
      rintro e w2 ⟨rfl, hR3, hk2⟩
      have hst2 := hst.keep (hk2.mono fun b hb => hb.2)
      have hK2 := hk.trans (hk2.mono (J := fun b => b < w.heap.size + 1) fun b hb => by have : b < w.heap.size + 1 := hb; omega)
      clear HP2 hst hk hk2 hBc hz
      go_wp2_with fail
      go_loopw [8] (fun ii wq => ∃ i : Nat, i ≤ drop.length ∧ ii = .int .u64 ((drop.length - i : Nat) : Int) ∧ ∃ dv', RSt wq (w.heap.size + 1 + 1 + 1) (w.heap.size + 1) (w.heap.size + 1 + 1) add (drop.take i) av' dv' (.int .u64 0) (.int .u64 0) (.int .i64 0) (.int .i64 0) ∧ Rd wq (w.heap.size + 1) 68 (putsI (drop.drop i) ++ rest2) ∧ Kept (fun b => b < w.heap.size + 1) wA wq) (fun ii _ => (intOf ii).toNat)
      case atStart => exact ⟨0, by omega, rfl, _, by simpa using hst2, by simpa using hR3, hK2⟩
      case round =>
        obtain ⟨i, hi, rfl, dv', hst, hR, hk⟩ := hrel
        clear hst2 hR3 hK2
        have HR := Lib.hid hR
        have HST := Lib.hid hst
        have HK := Lib.hid hk
        obtain ⟨vr, hB, _⟩ := hR
        have hBc := hB.cells
        have hesz := hst.size
        clear hB hk
        by_cases hlt : i < drop.length
        · have hw : IntKind.u64.wrap (((drop.length - i : Nat) : Int) - 1) = ((drop.length - (i + 1) : Nat) : Int) := by
            have := U64.wrap (q := drop.length - (i + 1)) (by unfold U64; omega)
            rwa [show ((drop.length - (i + 1) : Nat) : Int) = ((drop.length - i : Nat) : Int) - 1 from by omega] at this ⊢
          have hcut := putsI_cut hlt
          have htr := HXD.out _ (List.getElem_mem hlt)
          have HTK := Lib.hid (List.take_succ_eq_append_getElem hlt)
          have hl2 : (putB drop[i].toNat ++ (putsI (drop.drop (i + 1)) ++ rest2)).length ≤ 1000000 := by
            have h1 := putsI_len (drop.drop i) fun t ht => HXD.out t (List.mem_of_mem_drop ht)
            rw [hcut, List.length_append, List.length_drop] at h1
            simp only [List.length_append]
            omega
          have hR2 := HR.out
          rw [hcut, List.append_assoc] at hR2
          generalize hrr : putsI (drop.drop (i + 1)) ++ rest2 = rr at *
          have HRR := Lib.hid hrr
          generalize drop[i] = z at *
          have hpos : 0 < ((drop.length - i : Nat) : Int) := by omega
          have HI := Lib.hid (show drop.length - (i + 1) < drop.length - i by omega)
          have HP2 := Lib.hid (refSmall_any _ z _ _ hR2 htr hl2)
          clear hcut htr hR2 hrr HR hl2
          go_wp2_with fail
          refine HP2.out.mono ?_
          rintro e u4 ⟨rfl, hR3, hk2⟩
          have hst4 := hst.keep (hk2.mono fun b hb => hb.2)
          have hK3 := HK.out.trans (hk2.mono (J := fun b => b < w.heap.size + 1) fun b hb => by have : b < w.heap.size + 1 := hb; omega)
          have hec := hst4.edit.cells
          have hsz4 := hst4.size
          obtain ⟨xa, xm, xc, rfl, hxm, _, _⟩ := hst4.drop.sl.len
          rw [ic_length, List.length_take] at hxm
          have HO4 := Lib.hid hst4.drop
          have hts : (ic (drop.take i)).length ≤ 1000 := by rw [ic_length, List.length_take]; omega
          have HST4 := Lib.hid hst4
          clear HP2 hst HST HK hk2 hst4
          go_wp2_with (at_builtin; go_must (refine wpList_own_lit intsT rfl (.tmp 63) (.tmp 65) rfl rfl HO4.out rfl rfl (by simp [Value.oneCell']) (by simp; omega) (by simp; omega) hsz4 ?_); intro v6 w6 hown6 hb6 hg6; have hE6 := (hb6.block (w.heap.size + 1 + 1) (by omega)).trans HST4.out.edit; obtain ⟨ao6, m6, c6, rfl, _, _⟩ := hown6.sl.len; have hE6 : Blk w6 _ _ _ := hE6; have hc6 := hE6.cells; have hf6 := hE6.free; have HA6 := Lib.hid (HST4.out.add.aside HO4.out (by decide) hg6))
          refine ⟨⟨i + 1, by omega, rfl, .slice ao6 m6 c6, ?_, ?_, ?_⟩, by have := HI.out; simp [intOf]; omega⟩
          · refine ⟨Blk.set_to hE6 1 _ rfl, HA6.out.keep fun b hb _ => Below.heap_setCell w6 _ _ b (by simp; omega), ?_, by omega, by omega, by have := hb6.size; simp; omega⟩
            rw [HTK.out, ic_append]
            exact hown6.keep fun b hb _ => Below.heap_setCell w6 _ _ b (by simp; omega)
          · rw [HRR.out]
            exact hR3.same fun b hb => (Below.heap_setCell w6 _ _ b (by simp; omega)).trans (hb6.block b (by omega))
          · exact (hK3.trans (Below.kept hb6 fun b hb => by omega)).set (by simp) _
        · obtain rfl : i = drop.length := by omega
          have hR2 := HR.out
          have hst2 := HST.out
          have hK2 := HK.out
          rw [List.drop_length, show putsI [] ++ rest2 = rest2 from rfl, ← HR2.out] at hR2
          rw [List.take_length] at hst2
          have hz : ((drop.length - drop.length : Nat) : Int) = 0 := by omega
          have HP3 := Lib.hid (refNumber_any _ fl _ wr hR2 xfloor (by simp only [List.length_append, List.length_nil]; omega))
          clear hst HR HST HK hR2
          go_wp2_with fail
          clear hz hBc
          refine HP3.out.mono ?_
          rintro e w3 ⟨rfl, hR3, hk3⟩
          have hst3 := hst2.keep (hk3.mono fun b hb => hb.2)
          have hK3 := hK2.trans (hk3.mono (J := fun b => b < w.heap.size + 1) fun b hb => by have : b < w.heap.size + 1 := hb; omega)
          clear HP3 hst2 hK2 hk3
          have hec0 := hst3.edit.cells
          have hef0 := hst3.edit.free
          have hst4 := hst3.cell (fl' := .int .u64 fl) (hd' := .int .u64 0) (lg' := .int .i64 0) (nx' := .int .i64 0) 2 (.int .u64 fl) rfl
          have hR4 := hR3.cell (i := 2) (u := .int .u64 fl) hst3.rl
          have hK4 := hK3.set (a := ⟨w.heap.size + 1 + 1, 2, none⟩) (by simp) (.int .u64 fl)
          clear hst3 hR3 hK3
          have HP4 := Lib.hid (refNumber_any _ hd _ _ hR4 xhead (by simp only [List.length_append, List.length_nil]; omega))
          go_wp2_with fail
          clear hec0 hef0
          generalize w3.setCell ⟨w.heap.size + 1 + 1, 2, none⟩ (.int .u64 fl) = v0 at *
          refine HP4.out.mono ?_
          rintro e w4 ⟨rfl, hR3, hk3⟩
          have hst3 := hst4.keep (hk3.mono fun b hb => hb.2)
          have hK3 := hK4.trans (hk3.mono (J := fun b => b < w.heap.size + 1) fun b hb => by have : b < w.heap.size + 1 := hb; omega)
          clear HP4 hst4 hK4 hk3 hR4
          have hec1 := hst3.edit.cells
          have hef1 := hst3.edit.free
          have hst4 := hst3.cell (fl' := .int .u64 fl) (hd' := .int .u64 hd) (lg' := .int .i64 0) (nx' := .int .i64 0) 3 (.int .u64 hd) rfl
          have hR4 := hR3.cell (i := 3) (u := .int .u64 hd) hst3.rl
          have hK4 := hK3.set (a := ⟨w.heap.size + 1 + 1, 3, none⟩) (by simp) (.int .u64 hd)
          clear hst3 hR3 hK3
          have HP5 := Lib.hid (refSmall_any _ lg _ _ hR4 xlog (by simp only [List.length_append, List.length_nil]; omega))
          go_wp2_with fail
          clear hec1 hef1
          generalize w4.setCell ⟨w.heap.size + 1 + 1, 3, none⟩ (.int .u64 hd) = v1 at *
          refine HP5.out.mono ?_
          rintro e w5 ⟨rfl, hR3, hk3⟩
          have hst3 := hst4.keep (hk3.mono fun b hb => hb.2)
          have hK3 := hK4.trans (hk3.mono (J := fun b => b < w.heap.size + 1) fun b hb => by have : b < w.heap.size + 1 := hb; omega)
          clear HP5 hst4 hK4 hk3 hR4
          have hec2 := hst3.edit.cells
          have hef2 := hst3.edit.free
          have hst4 := hst3.cell (fl' := .int .u64 fl) (hd' := .int .u64 hd) (lg' := .int .i64 lg) (nx' := .int .i64 0) 4 (.int .i64 lg) rfl
          have hR4 := hR3.cell (i := 4) (u := .int .i64 lg) hst3.rl
          have hK4 := hK3.set (a := ⟨w.heap.size + 1 + 1, 4, none⟩) (by simp) (.int .i64 lg)
          clear hst3 hR3 hK3
          have HP6 := Lib.hid (refSmall_any _ nx _ _ hR4 xnext (by simp only [List.length_append, List.length_nil]; omega))
          go_wp2_with fail
          clear hec2 hef2
          generalize w5.setCell ⟨w.heap.size + 1 + 1, 4, none⟩ (.int .i64 lg) = v2 at *
          refine HP6.out.mono ?_
          rintro e w6 ⟨rfl, hR3, hk3⟩
          have hst3 := hst4.keep (hk3.mono fun b hb => hb.2)
          have hK3 := hK4.trans (hk3.mono (J := fun b => b < w.heap.size + 1) fun b hb => by have : b < w.heap.size + 1 := hb; omega)
          clear HP6 hst4 hK4 hk3 hR4
          have hec3 := hst3.edit.cells
          have hef3 := hst3.edit.free
          have hst4 := hst3.cell (fl' := .int .u64 fl) (hd' := .int .u64 hd) (lg' := .int .i64 lg) (nx' := .int .i64 nx) 5 (.int .i64 nx) rfl
          have hR4 := hR3.cell (i := 5) (u := .int .i64 nx) hst3.rl
          have hK4 := hK3.set (a := ⟨w.heap.size + 1 + 1, 5, none⟩) (by simp) (.int .i64 nx)
          clear hst3 hR3 hK3
          have hO10 := hK4.blk HOA.out (by simp)
          have ho10 := hO10.cells
          have hof := hO10.free
          have hc10 := hst4.edit.cells
          obtain ⟨v10, hB10, hS10⟩ := hR4
          obtain ⟨ao10, n10, c10, rfl, hn10, _, _⟩ := hS10.len
          obtain rfl : n10 = 0 := by simp [bc] at hn10; omega
          have hr10 := hB10.cells
          obtain ⟨aa, an, ac, rfl, _, _, _⟩ := hst4.add.sl.len
          obtain ⟨da, dn, dc, rfl, _, _, _⟩ := hst4.drop.sl.len
          go_wp2_with fail
          have hF := blk_set6 (b0 := .slice aa an ac) (b1 := .slice da dn dc) (b2 := .int .u64 fl) (b3 := .int .u64 hd) (b4 := .int .i64 lg) (b5 := .int .i64 nx) hO10
          have hFc := hF.cells
          have hA := own_set6 (b0 := .slice aa an ac) (b1 := .slice da dn dc) (b2 := .int .u64 fl) (b3 := .int .u64 hd) (b4 := .int .i64 lg) (b5 := .int .i64 nx) hst4.add hO10 (by decide)
          have hD := own_set6 (b0 := .slice aa an ac) (b1 := .slice da dn dc) (b2 := .int .u64 fl) (b3 := .int .u64 hd) (b4 := .int .i64 lg) (b5 := .int .i64 nx) hst4.drop hO10 (by decide)
          have hB := below_set6 (b0 := .slice aa an ac) (b1 := .slice da dn dc) (b2 := .int .u64 fl) (b3 := .int .u64 hd) (b4 := .int .i64 lg) (b5 := .int .i64 nx) (HBA.out.trans (hK4.below (B := w.heap.size) fun b hb => by omega)) (Nat.le_refl _)
          clear hc10 hr10 hof ho10 hec3 hef3 hB10 hS10 hst4 hO10 hK4
          refine bodyPost_ret (v := .tuple #[eV (.slice aa an ac) (.slice da dn dc) ⟨add, drop, fl, hd, lg, nx⟩, .int .i64 0]) (by simp [results, Try.results16, go_sem, hFc, eV]) rfl ⟨_, _, rfl, ?_, ?_, hB⟩
          · exact hA.sl.mono fun b hb => hb.2
          · exact hD.sl.mono fun b hb => hb.2

end Go.Proofs.Ytkllfdfipkcddaa
