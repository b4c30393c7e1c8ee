/- The walk of edit.Apply. No condition: lemmas. -/
import Derived.Test.YtkllfdfipkcddaaEditG
import Derived.Test.YtkllfdfipkcddaaEditP
import Derived.Test.YtkllfdfipkcddaaSort
import Derived.Test.YtkllfdfipkcddaaShelf
import Derived.Test.YtkllfdfipkcddaaMapB
namespace Go.Proofs.Ytkllfdfipkcddaa
open Go Go.RowKit

def tm (l : List Tab) : List (Int × Tab) := l.map fun t => (t.num, t)
theorem look_tm_none {l : List Tab} {n : Int} (h : hasN l n = false) : lookA (tm l) n = none := by
  rw [look_none_iff]
  intro p hp
  obtain ⟨t, ht, rfl⟩ := List.mem_map.1 hp
  intro e
  rw [Bool.eq_false_iff] at h
  exact h (hasN_iff.2 (List.mem_map.2 ⟨t, ht, e⟩))
theorem look_tm_some {l : List Tab} {n : Int} (h : hasN l n = true) : ∃ t, lookA (tm l) n = some t := by
  cases hl : lookA (tm l) n with
  | some t => exact ⟨t, rfl⟩
  | none =>
    exfalso
    rw [look_none_iff] at hl
    obtain ⟨t, ht, e⟩ := List.mem_map.1 (hasN_iff.1 h)
    exact hl (t.num, t) (List.mem_map.2 ⟨t, ht, rfl⟩) e
theorem del_tm {n : Int} : ∀ {l : List Tab}, NumsT l → delA (tm l) n = tm (lessN l n)
  | [], _ => rfl
  | t :: l, h => by
    unfold NumsT at h
    rw [List.map_cons, List.nodup_cons] at h
    have ih := del_tm (n := n) (l := l) h.2
    show delA ((t.num, t) :: tm l) n = _
    unfold delA
    by_cases e : t.num = n
    · rw [if_pos e]
      have : lessN (t :: l) n = lessN l n := by unfold lessN; simp [e]
      rw [this]
      have : lessN l n = l := by
        unfold lessN
        rw [List.filter_eq_self]
        intro a ha
        simp only [decide_eq_true_eq]
        intro e2
        exact h.1 (by rw [e, ← e2]; exact List.mem_map.2 ⟨a, ha, rfl⟩)
      rw [this]
    · rw [if_neg e, ih]
      have : lessN (t :: l) n = t :: lessN l n := by unfold lessN; simp [e]
      rw [this]
      rfl
theorem put_tm {l : List Tab} {t : Tab} (h : hasN l t.num = false) : putA (tm l) t.num t = tm (l ++ [t]) := by
  rw [put_miss (look_none_iff.1 (look_tm_none h))]
  simp [tm]

theorem sortT_any {w : World} {B : Nat} {v : Value} {l : List Tab} (h : Own w B 38 5 v (tcs l)) (hl : l.length < 4611686018427387904) (hn : NumsT l) :
    Calls Try.prog 20 #[v, .func (.func 21) #[] #[]] w fun e w' => e = .returned (.tuple #[]) ∧ ∃ l' : List Tab, l'.Perm l ∧ UpT l' ∧ Own w' B 38 5 v (tcs l') ∧ Kept (fun b => b < w.heap.size ∧ v.ownBlock ≠ some b) w w' := by
  refine Calls.mono (sort_own Try.sortT tC 5 tC_length (by decide) (fun x u hu => tcs_one [x] u (by simpa [tcs] using hu)) Try.isAgg38 Try.sizeOf38 ordT swoT 21 #[] (enters_of Try.func21 (by kernel_rfl) rfl) (fun W x y => order_any x y W) h hl) ?_
  rintro e w' ⟨rfl, l', hp, hs, ho, hk⟩
  refine ⟨rfl, l', hp, ?_, ho, hk⟩
  have hn' : NumsT l' := by
    unfold NumsT at *
    exact (hp.map _).nodup_iff.2 hn
  have hpair := List.pairwise_iff_getElem.1 hs
  refine List.pairwise_iff_getElem.2 fun i j hi hj hij => ?_
  have h1 := hpair i j hi hj hij
  rw [lt_ord] at h1
  have hne : l'[i].num ≠ l'[j].num := by
    have := List.pairwise_iff_getElem.1 hn' i j (by simpa using hi) (by simpa using hj) hij
    simpa using this
  exact (less_total hne).resolve_right (by rw [h1]; simp)

theorem ok_snoc {q : List Tab} {t : Tab} (h : ∀ u ∈ q, TabOk u) (ht : TabOk t) : ∀ u ∈ q ++ [t], TabOk u := by
  intro u hu
  rcases List.mem_append.1 hu with hu | hu
  · exact h u hu
  · obtain rfl : u = t := by simpa using hu
    exact ht
theorem tm_split {l : List Tab} {pre post : List (Int × Tab)} {p : Int × Tab} (h : tm l = pre ++ p :: post) : ∃ a t b, l = a ++ t :: b ∧ pre = tm a ∧ p = (t.num, t) ∧ post = tm b := by
  unfold tm at h
  obtain ⟨a, r, rfl, h1, h2⟩ := List.map_eq_append_iff.1 h
  obtain ⟨t, b, rfl, h3, h4⟩ := List.map_eq_cons_iff.1 h2
  exact ⟨a, t, b, rfl, h1.symm, h3.symm, h4.symm⟩
theorem has_take {l : List Tab} (h : NumsT l) {i : Nat} (hi : i < l.length) : hasN (l.take i) l[i].num = false := by
  rw [Bool.eq_false_iff]
  intro hc
  obtain ⟨t, ht, e⟩ := List.mem_map.1 (hasN_iff.1 hc)
  obtain ⟨j, hj, rfl⟩ := List.getElem_of_mem ht
  rw [List.length_take] at hj
  rw [List.getElem_take] at e
  have := List.pairwise_iff_getElem.1 h j i (by rw [List.length_map]; omega) (by rw [List.length_map]; omega) (by omega)
  simp at this
  exact this e

set_option maxRecDepth 100000 in
set_option maxHeartbeats 3200000 in
theorem apply_any (tv av dv : Value) (v : Ver) (x : Edi) (w : World) (ht : Sl (· < w.heap.size) w 5 tv (tcs v.tabs)) (ha : Sl (· < w.heap.size) w 5 av (tcs x.add)) (hd : Sl (· < w.heap.size) w 1 dv (ic x.drop))
    (hv : v.Ok) (hx : x.Ok) (n1 : v.tabs.length ≤ 1000) (n2 : x.add.length ≤ 1000) :
    Calls Try.prog 9 #[vV tv v, eV av dv x] w (RetVer (applyR v x) w) := by
  have hw0 : Below w.heap.size w (((w.alloc (.cells (vC tv v) 25)).alloc (.cells (eC av dv x) 28)).alloc (.cells (vC (.slice none 0 0) zeroVer) 25)) := (((Below.refl _ _).alloc (Nat.le_refl _) _).alloc (by simp) _).alloc (by simp <;> omega) _
  have hB1 := ((Blk.made w (vC tv v) 25).alloc (.cells (eC av dv x) 28)).alloc (.cells (vC (.slice none 0 0) zeroVer) 25)
  have hB2 := (Blk.made' (w := w.alloc (.cells (vC tv v) 25)) (B := w.heap.size + 1) (by simp) (eC av dv x) 28).alloc (.cells (vC (.slice none 0 0) zeroVer) 25)
  have hB3 := Blk.made' (w := (w.alloc (.cells (vC tv v) 25)).alloc (.cells (eC av dv x) 28)) (B := w.heap.size + 2) (by simp) (vC (.slice none 0 0) zeroVer) 25
  have hcheck := check_any tv v _ (ht.up hw0) hv
  have ha0 := ha.up hw0
  have hd0 := hd.up hw0
  have ht0 := ht.up hw0
  have A9 := fun h => Lib.hid (applyR_9 (v := v) (e := x) h)
  have A1 := fun h h1 => Lib.hid (applyR_1 (v := v) (e := x) h h1)
  have A4 := fun h h1 h2 => Lib.hid (applyR_4 (v := v) (e := x) h h1 h2)
  have A3 := fun l h h1 h2 h3 => Lib.hid (applyR_3 (v := v) (e := x) (l := l) h h1 h2 h3)
  have AO := fun l m h h1 h2 h3 => Lib.hid (applyR_ok (v := v) (e := x) (l := l) (m := m) h h1 h2 h3)
  have hright := fun W h1 h2 => right_any av dv x W h1 h2 hx
  have HCH := chkN_chk (x := v)
  have hO := fun (l : List Tab) (h : ∀ t ∈ l, TabOk t) => (show (outOf v x l).Ok from ⟨h, by obtain ⟨a, b⟩ := hv.log; obtain ⟨c, d⟩ := hx.log; simp only [outOf, I64]; omega, by obtain ⟨a, b⟩ := hv.next; obtain ⟨c, d⟩ := hx.next; simp only [outOf, I64]; omega⟩)
  have hv1 := hv.tabs
  have hx1 := hx.add
  have hx2 := hx.drop
  unfold zeroVer at *
  obtain ⟨l0, fl, hd', lg, nx⟩ := v
  obtain ⟨add, drop, efl, ehd, elg, enx⟩ := x
  unfold vV at hcheck ⊢
  unfold eV at hright ⊢
  unfold vC eC at *
  dsimp only at *
  generalize applyR ⟨l0, fl, hd', lg, nx⟩ ⟨add, drop, efl, ehd, elg, enx⟩ = R at *
  have HR := Lib.hid hright
  have HCK := Lib.hid hcheck
  have HO := Lib.hid hO
  clear hright hcheck hO
  rcases chkN_cases ⟨l0, fl, hd', lg, nx⟩ with hc | hc
  · have HC := Lib.hid hc
    rw [HC.out] at HCK
    have hnum : NumsT l0 := (HCH hc).nums
    cases hrt : rightE ⟨add, drop, efl, ehd, elg, enx⟩ with
    | false =>
      have HA := A1 hc hrt
      have HRT := Lib.hid hrt
      clear A9 A1 A4 A3 AO hc hrt
      go_enter Try.func9, Try.ntmps9
      go_wp2_with fail
      refine HCK.out.mono ?_
      rintro e w1 ⟨rfl, hb1⟩
      have hc2 := (hB2.below hb1).cells
      go_wp2_with fail
      refine (HR.out _ (ha0.up hb1) (hd0.up hb1)).mono ?_
      rw [HRT.out]
      rintro e w2 ⟨rfl, hb2⟩
      have h3 := (hB3.below hb1).below hb2
      have hc3 := h3.cells
      have hf3 := h3.free
      have HBW : Below w.heap.size w w2 := (hw0.trans (hb1.mono (by simp <;> omega))).trans (hb2.mono (hw0.trans (hb1.mono (by simp <;> omega))).size)
      go_wp2
      refine bodyPost_ret (v := .tuple #[vV (.slice none 0 0) ⟨[], 0, 0, 0, 0⟩, .int .i64 1]) (by simp [results, Try.results9, go_sem, hc3]) rfl ?_
      rw [HA.out]
      refine ⟨_, rfl, Sl.nil _ _ _, ?_⟩
      repeat (first | with_reducible exact HBW | with_reducible refine setUp ?_ (by omega) _)
    | true =>
      have HRT := Lib.hid hrt
      have hup : UpT l0 := (HCH hc).up
      have A4 := A4 hc hrt
      have A3 := fun l => A3 l hc hrt
      have AO := fun l m => AO l m hc hrt
      clear A9 A1 hc hrt HCH
      have hmm := @run_makeMap Try.prog
      go_enter Try.func9, Try.ntmps9
      go_wp2_with fail
      refine HCK.out.mono ?_
      rintro e w1 ⟨rfl, hb1⟩
      have hc2 := (hB2.below hb1).cells
      go_wp2_with fail
      refine (HR.out _ (ha0.up hb1) (hd0.up hb1)).mono ?_
      rw [HRT.out]
      rintro e w2 ⟨rfl, hb2⟩
      have HBW2 : Below w.heap.size w w2 := (hw0.trans (hb1.mono (by simp <;> omega))).trans (hb2.mono (hw0.trans (hb1.mono (by simp <;> omega))).size)
      have hs2 : w.heap.size + 3 ≤ w2.heap.size := by
        have h1 := hb1.size
        have h2 := hb2.size
        simp at h1
        omega
      have hA2 := (ha0.up hb1).up hb2
      have hD2 := (hd0.up hb1).up hb2
      have hT2 := (ht0.up hb1).up hb2
      have hX1 := (hB1.below hb1).below hb2
      have hX2 := (hB2.below hb1).below hb2
      have hX3 := (hB3.below hb1).below hb2
      clear ha0 hd0 ht0 hB1 hB2 hB3 hc2 HCK HR ht ha hd
      have hbM : Below w2.heap.size w2 (w2.alloc (.map #[] 0)) := (Below.refl _ _).alloc (Nat.le_refl _) _
      have hMp : Mp Try.prog 3 kI tV (w2.alloc (.map #[] 0)) w2.heap.size (tm (l0.take 0)) := Mp.made w2
      have H1 : ∀ W, Below w2.heap.size w2 W → ∀ i, W.cell? ⟨w.heap.size, i, none⟩ = _ := fun W h => (hX1.same (Same.below h) (by omega)).cells
      have H2 : ∀ W, Below w2.heap.size w2 W → ∀ i, W.cell? ⟨w.heap.size + 1, i, none⟩ = _ := fun W h => (hX2.same (Same.below h) (by omega)).cells
      have H3 : ∀ W, Below w2.heap.size w2 W → Blk W (w.heap.size + 2) _ _ := fun W h => hX3.same (Same.below h) (by omega)
      have H1 := Lib.hid H1
      have H2 := Lib.hid H2
      have H3 := Lib.hid H3
      have HSM : (w2.alloc (.map #[] 0)).heap.size = w2.heap.size + 1 := by simp
      have HSM := Lib.hid HSM
      obtain ⟨tao, tc, rfl, htc, htm, htcell⟩ := hT2.tabs
      obtain ⟨aao, acp, rfl, hac, ham, hacell⟩ := hA2.tabs
      obtain ⟨dao, dcp, rfl, hdc, hdm, hdcell⟩ := hD2.ints
      have HTC := Lib.hid htcell
      have HAC := Lib.hid hacell
      have HDC := Lib.hid hdcell
      have hc1M := H1.out _ hbM
      clear htcell hacell hdcell hT2 hA2 hD2 hX1 hX2 hX3
      go_wp2_with fail
      clear hc1M hmm
      generalize w2.alloc (.map #[] 0) = wM at *
      go_loopw [34] (fun ii wr => ∃ i : Nat, i ≤ l0.length ∧ ii = .int .i64 i ∧ Mp Try.prog 3 kI tV wr w2.heap.size (tm (l0.take i)) ∧ Below w2.heap.size w2 wr) (fun ii _ => l0.length - (intOf ii).toNat)
      case atStart => exact ⟨0, by omega, rfl, hMp, hbM⟩
      case round =>
        obtain ⟨i, hi, rfl, hM, hbel⟩ := hrel
        by_cases hlt : i < l0.length
        · obtain ⟨b, off, rfl, hb, hc⟩ := HTC.out (by omega)
          obtain ⟨c0, c1, c2, c3, c4⟩ := hc i hlt
          have c0 := (hbel.cell (p := ⟨b, off + i * 5, none⟩) hb).trans c0
          have c1 := (hbel.cell (p := ⟨b, off + i * 5 + 1, none⟩) hb).trans c1
          have c2 := (hbel.cell (p := ⟨b, off + i * 5 + 2, none⟩) hb).trans c2
          have c3 := (hbel.cell (p := ⟨b, off + i * 5 + 3, none⟩) hb).trans c3
          have c4 := (hbel.cell (p := ⟨b, off + i * 5 + 4, none⟩) hb).trans c4
          have HTM := Lib.hid (show putA (tm (l0.take i)) l0[i].num l0[i] = tm (l0.take (i + 1)) from by rw [put_tm (has_take hnum hlt), List.take_succ_eq_append_getElem hlt])
          have hTok := hv1 _ (List.getElem_mem hlt)
          clear hc
          generalize l0[i] = t at *
          obtain ⟨tn, tl, ts, tf, tla⟩ := t
          obtain ⟨hnk, -, -, -, -⟩ := hTok
          dsimp only at *
          have hMA := hM.below ((Below.refl _ _).alloc (Nat.le_refl _) (.cells #[.int .i64 tn, .int .i64 tl, .int .i64 ts, .string tf, .string tla] 38))
          have hbA := hbel.alloc hbel.size (.cells #[.int .i64 tn, .int .i64 tl, .int .i64 ts, .string tf, .string tla] 38)
          go_wp2_with (at_mapUpdate; go_must (refine wpList_mp_store _ rfl _ _ _ 48 rfl intKey kI_inj Try.underlying48 rfl hMA rfl (kI_ok hnk) (u := ⟨tn, tl, ts, tf, tla⟩) rfl ?_); intro w3 hM3 hT3)
          rw [HTM.out] at hM3
          have hb3 := hbA.trans (hT3.below (Nat.le_refl _))
          go_roundw
          case rel => exact ⟨i + 1, by omega, by go_num, hM3, hb3⟩
          case measure => simp [intOf]; omega
        · obtain rfl : i = l0.length := by omega
          rw [List.take_length] at hM
          have hc2M := H2.out _ hbel
          obtain ⟨wN, hwN⟩ : ∃ wN : World, wN = wr := ⟨_, rfl⟩
          subst hwN
          go_wp2_with fail
          clear hc2M
          go_loopw [46] (fun ii wr => ∃ i : Nat, i ≤ drop.length ∧ ii = .int .i64 i ∧ ∃ m, dropAll l0 (drop.take i) = some m ∧ NumsT m ∧ (∀ t ∈ m, t ∈ l0) ∧ Mp Try.prog 3 kI tV wr w2.heap.size (tm m) ∧ Below w2.heap.size w2 wr) (fun ii _ => drop.length - (intOf ii).toNat)
          case atStart => exact ⟨0, by omega, rfl, l0, rfl, hnum, fun _ h => h, hM, hbel⟩
          case round =>
            obtain ⟨i, hi, rfl, m, hdm, hmn, hml, hM, hbel⟩ := hrel
            have HDM := Lib.hid hdm
            clear hdm
            by_cases hlt : i < drop.length
            · obtain ⟨b, off, rfl, hb, hc⟩ := HDC.out (by omega)
              have c0 := (hbel.cell (p := ⟨b, off + i, none⟩) hb).trans (hc i hlt)
              have hnk := hx2 _ (List.getElem_mem hlt)
              have HST := fun h => Lib.hid (drop_step hlt HDM.out h)
              have HFL := fun h => A4 (drop_fail hlt HDM.out h)
              clear hc
              generalize drop[i] = n at *
              cases hh : hasN m n with
              | false =>
                have HA := HFL hh
                have HLK := Lib.hid (look_tm_none hh)
                have hz := Try.zeroValue38
                have hwA := hbel.alloc hbel.size (.cells #[.int .i64 0, .int .i64 0, .int .i64 0, .string ⟨#[]⟩, .string ⟨#[]⟩] 38)
                have h3 := H3.out _ hwA
                have hc3 := h3.cells
                have hf3 := h3.free
                have HBW := HBW2.trans (hwA.mono (by omega))
                clear hh HFL HST
                go_wp2_with (at_lookup; go_must (refine wpList_mp_none _ rfl _ _ 48 rfl intKey kI_inj Try.underlying48 (hz _) rfl hM rfl (kI_ok hnk) HLK.out ?_))
                refine bodyPost_ret (v := .tuple #[vV (.slice none 0 0) ⟨[], 0, 0, 0, 0⟩, .int .i64 4]) (by simp [results, Try.results9, go_sem, hc3]) rfl ?_
                rw [HA.out]
                refine ⟨_, rfl, Sl.nil _ _ _, ?_⟩
                repeat (first | with_reducible exact HBW | with_reducible refine setUp ?_ (by omega) _)
              | true =>
                have HST := HST hh
                obtain ⟨t, hlk⟩ := look_tm_some hh
                have HLK := Lib.hid hlk
                have hz := Try.zeroValue38
                have HDL := Lib.hid (del_tm (n := n) hmn)
                have HNM := Lib.hid (lessN_nums (n := n) hmn)
                have HSB := Lib.hid (show ∀ t ∈ lessN m n, t ∈ l0 from fun t ht => hml t (List.mem_filter.1 ht).1)
                clear hh HFL hlk
                obtain ⟨tn, tl, ts, tf, tla⟩ := t
                have hwA := hbel.alloc hbel.size (.cells #[.int .i64 tn, .int .i64 tl, .int .i64 ts, .string tf, .string tla] 38)
                have hMA := hM.below ((Below.refl _ _).alloc (Nat.le_refl _) (.cells #[.int .i64 tn, .int .i64 tl, .int .i64 ts, .string tf, .string tla] 38))
                go_wp2_with (first | (at_lookup; go_must (refine wpList_mp_some _ rfl _ _ 48 rfl intKey kI_inj Try.underlying48 (hz _) rfl hM rfl (kI_ok hnk) HLK.out ?_); dsimp only [tV]) | (at_delete; go_must (refine wpList_mp_drop _ rfl _ _ 48 3 rfl intKey kI_inj Try.underlying48 rfl hMA rfl (kI_ok hnk) ?_); intro w3 hM3 hT3))
                rw [HDL.out] at hM3
                have hb3 := hwA.trans (hT3.below (Nat.le_refl _))
                go_roundw
                case rel => exact ⟨i + 1, by omega, by go_num, _, HST.out, HNM.out, HSB.out, hM3, hb3⟩
                case measure => simp [intOf]; omega
            · obtain rfl : i = drop.length := by omega
              have HDM2 := HDM.out
              rw [List.take_length] at HDM2
              have HDM3 := Lib.hid HDM2
              have A3 := fun h => A3 m HDM3.out h
              have AO := fun m' h => AO m m' HDM3.out h
              have hc2M := H2.out _ hbel
              have hmok : ∀ t ∈ m, TabOk t := fun t ht => hv1 t (hml t ht)
              have hmlen : m.length ≤ 1000 := Nat.le_trans (dropAll_keep drop HDM2).length_le n1
              obtain ⟨wO, hwO⟩ : ∃ wO : World, wO = wr := ⟨_, rfl⟩
              subst hwO
              clear HDM HDM2 hml
              go_wp2_with fail
              clear hc2M
              go_loopw [65] (fun ii wr => ∃ i : Nat, i ≤ add.length ∧ ii = .int .i64 i ∧ ∃ q, addAll (fun l t => l ++ [t]) m (add.take i) = some q ∧ NumsT q ∧ (∀ t ∈ q, TabOk t) ∧ q.length ≤ 1000 + i ∧ Mp Try.prog 3 kI tV wr w2.heap.size (tm q) ∧ Below w2.heap.size w2 wr) (fun ii _ => add.length - (intOf ii).toNat)
              case atStart => exact ⟨0, by omega, rfl, m, rfl, hmn, hmok, by omega, hM, hbel⟩
              case round =>
                obtain ⟨i, hi, rfl, q, hq, hqn, hqok, hql, hM, hbel⟩ := hrel
                have HQ := Lib.hid hq
                clear hq
                by_cases hlt : i < add.length
                · obtain ⟨b, off, rfl, hb, hc⟩ := HAC.out (by omega)
                  obtain ⟨c0, c1, c2, c3, c4⟩ := hc i hlt
                  have c0 := (hbel.cell (p := ⟨b, off + i * 5, none⟩) hb).trans c0
                  have c1 := (hbel.cell (p := ⟨b, off + i * 5 + 1, none⟩) hb).trans c1
                  have c2 := (hbel.cell (p := ⟨b, off + i * 5 + 2, none⟩) hb).trans c2
                  have c3 := (hbel.cell (p := ⟨b, off + i * 5 + 3, none⟩) hb).trans c3
                  have c4 := (hbel.cell (p := ⟨b, off + i * 5 + 4, none⟩) hb).trans c4
                  have hTok := hx1 _ (List.getElem_mem hlt)
                  have HST := fun h => Lib.hid (add_step hlt HQ.out h)
                  have HFL := fun h => (addAll_perm add (List.Perm.refl m)).elim (fun h => A3 h.1) (fun ⟨a, b, _, h2, _⟩ => by rw [add_fail hlt HQ.out h] at h2; cases h2)
                  clear hc
                  generalize add[i] = t at *
                  have HTok := Lib.hid hTok
                  have HPT := fun h => Lib.hid (put_tm (l := q) (t := t) h)
                  have HPN := fun h => Lib.hid (put_nums (t := t) hqn h)
                  have HPK := Lib.hid (ok_snoc hqok hTok)
                  have HPL := Lib.hid (show (q ++ [t]).length ≤ 1000 + (i + 1) from by simp; omega)
                  obtain ⟨tn, tl, ts, tf, tla⟩ := t
                  obtain ⟨hnk, -, -, -, -⟩ := hTok
                  dsimp only at *
                  have hz := Try.zeroValue38
                  have hMA := hM.below ((Below.refl _ _).alloc (Nat.le_refl _) (.cells #[.int .i64 tn, .int .i64 tl, .int .i64 ts, .string tf, .string tla] 38))
                  have hbA := hbel.alloc hbel.size (.cells #[.int .i64 tn, .int .i64 tl, .int .i64 ts, .string tf, .string tla] 38)
                  have hXA := Blk.made wr #[.int .i64 tn, .int .i64 tl, .int .i64 ts, .string tf, .string tla] 38
                  cases hh : hasN q tn with
                  | true =>
                    have HA := HFL hh
                    obtain ⟨u, hlk⟩ := look_tm_some hh
                    have HLK := Lib.hid hlk
                    clear hh HFL hlk HST HPT HPN
                    obtain ⟨un, ul, us, uf, ula⟩ := u
                    have hbB := hbA.alloc hbA.size (.cells #[.int .i64 un, .int .i64 ul, .int .i64 us, .string uf, .string ula] 38)
                    have h3 := H3.out _ hbB
                    have hc3 := h3.cells
                    have hf3 := h3.free
                    have HBW := HBW2.trans (hbB.mono (by omega))
                    go_wp2_with (at_lookup; go_must (refine wpList_mp_some _ rfl _ _ 48 rfl intKey kI_inj Try.underlying48 (hz _) rfl hMA rfl (kI_ok hnk) HLK.out ?_); dsimp only [tV])
                    refine bodyPost_ret (v := .tuple #[vV (.slice none 0 0) ⟨[], 0, 0, 0, 0⟩, .int .i64 3]) (by simp [results, Try.results9, go_sem, hc3]) rfl ?_
                    rw [HA.out]
                    refine ⟨_, rfl, Sl.nil _ _ _, ?_⟩
                    repeat (first | with_reducible exact HBW | with_reducible refine setUp ?_ (by omega) _)
                  | false =>
                    have HST := HST hh
                    have HPT := HPT hh
                    have HPN := HPN hh
                    have HLK := Lib.hid (look_tm_none hh)
                    clear hh HFL
                    have hbB := hbA.alloc hbA.size (.cells #[.int .i64 0, .int .i64 0, .int .i64 0, .string ⟨#[]⟩, .string ⟨#[]⟩] 38)
                    have hMB := hMA.below ((Below.refl _ _).alloc (Nat.le_refl _) (.cells #[.int .i64 0, .int .i64 0, .int .i64 0, .string ⟨#[]⟩, .string ⟨#[]⟩] 38))
                    have hcXB := (hXA.alloc (.cells #[.int .i64 0, .int .i64 0, .int .i64 0, .string ⟨#[]⟩, .string ⟨#[]⟩] 38)).cells
                    go_wp2_with (first | (at_lookup; go_must (refine wpList_mp_none _ rfl _ _ 48 rfl intKey kI_inj Try.underlying48 (hz _) rfl hMA rfl (kI_ok hnk) HLK.out ?_)) | (at_mapUpdate; go_must (refine wpList_mp_store _ rfl _ _ _ 48 rfl intKey kI_inj Try.underlying48 rfl hMB rfl (kI_ok hnk) (u := ⟨tn, tl, ts, tf, tla⟩) rfl ?_); intro w3 hM3 hT3))
                    rw [HPT.out] at hM3
                    have hb3 := hbB.trans (hT3.below (Nat.le_refl _))
                    go_roundw
                    case rel => exact ⟨i + 1, by omega, by go_num, _, HST.out, HPN.out, HPK.out, HPL.out, hM3, hb3⟩
                    case measure => simp [intOf]; omega
                · obtain rfl : i = add.length := by omega
                  have HQ2 := HQ.out
                  rw [List.take_length] at HQ2
                  obtain ⟨a, ha1, ha2⟩ : ∃ a, addAll insT m add = some a ∧ a.Perm q := by
                    rcases addAll_perm add (List.Perm.refl m) with ⟨_, h2⟩ | ⟨a, b, h1, h2, h3⟩
                    · rw [h2] at HQ2; cases HQ2
                    · rw [h2] at HQ2
                      obtain rfl : b = q := by simpa using HQ2
                      exact ⟨a, h1, h3⟩
                  have HR := AO a ha1
                  have HUP := Lib.hid (addAll_up add (hup.sublist (dropAll_keep drop HDM3.out)) ha1)
                  have HPM := Lib.hid ha2
                  have hqok2 := HO.out
                  obtain ⟨mf, hmf⟩ : ∃ mf : Nat, max (fl : Int) (efl : Int) = mf := ⟨max fl efl, by omega⟩
                  obtain ⟨mh, hmh⟩ : ∃ mh : Nat, max (hd' : Int) (ehd : Int) = mh := ⟨max hd' ehd, by omega⟩
                  have HMF := Lib.hid (show max fl efl = mf from by omega)
                  have HMH := Lib.hid (show max hd' ehd = mh from by omega)
                  have hc1M := H1.out _ hbel
                  have hc2M := H2.out _ hbel
                  have hMS := hM.below ((Below.refl _ _).alloc (Nat.le_refl _) (.cells #[.slice none 0 0, .int .u64 mf, .int .u64 mh, .int .i64 (max lg elg), .int .i64 (max nx enx)] 25))
                  have hbS := hbel.alloc hbel.size (.cells #[.slice none 0 0, .int .u64 mf, .int .u64 mh, .int .i64 (max lg elg), .int .i64 (max nx enx)] 25)
                  have hBS := Blk.made wr #[.slice none 0 0, .int .u64 mf, .int .u64 mh, .int .i64 (max lg elg), .int .i64 (max nx enx)] 25
                  have hSz : (wr.alloc (.cells #[.slice none 0 0, .int .u64 mf, .int .u64 mh, .int .i64 (max lg elg), .int .i64 (max nx enx)] 25)).heap.size = wr.heap.size + 1 := by simp
                  have HSz := Lib.hid hSz
                  clear HQ HQ2 ha1 ha2 A3 A4 AO hqok2 hSz
                  obtain ⟨wP, hwP⟩ : ∃ wP : World, wP = wr := ⟨_, rfl⟩
                  subst hwP
                  have hPlt := hM.lt
                  go_wp2_with (at_range; go_must (refine wpList_mp_range _ rfl _ 48 rfl Try.underlying48 rfl hMS ?_); intro wR hRg hbR hszR)
                  go_frame
                  rw [HSz.out] at hRg hszR ⊢
                  have hBR := hBS.below hbR
                  have hbR2 : Below w2.heap.size w2 wR := hbS.trans (hbR.mono hbS.size)
                  clear hc1M hc2M hBS hbR hMS hbS
                  go_loopw [106] (fun _ wr => ∃ (done rem : List Tab) (vv : Value), (done ++ rem).Perm q ∧ Rng Try.prog 3 kI tV wr w2.heap.size (wP.heap.size + 1) (tm q) (tm rem) ∧ Blk wr wP.heap.size #[vv, .int .u64 mf, .int .u64 mh, .int .i64 (max lg elg), .int .i64 (max nx enx)] 25 ∧
                    Own wr (wP.heap.size + 2) 38 5 vv (tcs done) ∧ Below w2.heap.size w2 wr ∧ wP.heap.size + 2 ≤ wr.heap.size) (fun _ wr => wr.rangeLeft w2.heap.size (wP.heap.size + 1))
                  case atStart => exact ⟨[], q, _, List.Perm.refl _, hRg, hBR, Own.nil _ _ _ _, hbR2, by omega⟩
                  case round =>
                    obtain ⟨done, rem, vv, hperm, hRg, hB, hown, hbel, hsz⟩ := hrel
                    have HPR := Lib.hid hperm
                    clear hperm
                    go_wp2_with (at_next; go_must (refine wpList_mp_next _ rfl _ rfl rfl hRg ?_ ?_))
                    · intro hrem
                      obtain rfl : rem = [] := by simpa [tm] using hrem
                      have hdq : done.Perm q := by have := HPR.out; rwa [List.append_nil] at this
                      have hdn : NumsT done := (hdq.map _).nodup_iff.2 hqn
                      have hdl : done.length < 4611686018427387904 := by rw [hdq.length_eq]; omega
                      have hso := sortT_any hown hdl hdn
                      have HDQ := Lib.hid hdq
                      have HSO := Lib.hid hso
                      have hcB := hB.cells
                      have hnb : vv.ownBlock ≠ some wP.heap.size := fun e => by have := (hown.block _ e).1; omega
                      have HNB := Lib.hid hnb
                      clear hso hdn hrem hnb hdq
                      go_wp2_with fail
                      refine HSO.out.mono ?_
                      rintro e w7 ⟨rfl, l', hp', hup', hown7, hk7⟩
                      obtain rfl : l' = a := up_unique hup' HUP.out ((hp'.trans HDQ.out).trans HPM.out.symm)
                      have hB7 := hk7.blk hB ⟨by omega, HNB.out⟩
                      have hcB7 := hB7.cells
                      have hb7 : Below w2.heap.size w2 w7 := hbel.trans (hk7.below fun b hb => ⟨by omega, fun e => by have := (hown.block _ e).1; omega⟩)
                      have hck := check_any vv _ w7 (hown7.sl.mono fun b h => h.2) (HO.out l' fun t ht => hqok t (HPM.out.mem_iff.1 ht))
                      unfold vV outOf at hck
                      dsimp only at hck
                      rw [HMF.out, HMH.out] at hck
                      have hRR := HR.out
                      unfold outOf at hRR
                      dsimp only at hRR
                      rw [HMF.out, HMH.out] at hRR
                      have HS7 := Lib.hid hown7.sl
                      clear HSO hp' hup' hown hcB HDQ
                      rcases chkN_cases ⟨l', mf, mh, max lg elg, max nx enx⟩ with h0 | h0
                      · rw [h0] at hck
                        rw [if_neg (by rw [h0]; decide)] at hRR
                        have HA := Lib.hid hRR
                        clear hRR h0
                        go_wp2_with fail
                        refine hck.mono ?_
                        rintro e w8 ⟨rfl, hb8⟩
                        have hcB8 := (hB7.below hb8).cells
                        have hb28 := hb7.trans (hb8.mono hb7.size)
                        have h3 := H3.out _ hb28
                        have hc3 := h3.cells
                        have hf3 := h3.free
                        have HBW := HBW2.trans (hb28.mono (by omega))
                        obtain ⟨ao7, n7, cp7, rfl, _, _⟩ := HS7.out.len
                        go_wp2
                        refine bodyPost_ret (v := .tuple #[vV (.slice ao7 n7 cp7) ⟨l', mf, mh, max lg elg, max nx enx⟩, .int .i64 0]) (by simp [results, Try.results9, go_sem, hc3]) rfl ?_
                        rw [HA.out]
                        refine ⟨_, rfl, ?_, ?_⟩
                        · refine (HS7.out.same (fun b hb => ?_)).mono fun b hb => ?_
                          · have hne : b ≠ w.heap.size + 1 + 1 := by have := hb.1; omega
                            exact (set5_block hne).trans (hb8.block b hb.2)
                          · simp
                            exact Nat.lt_of_lt_of_le hb.2 hb8.size
                        · repeat (first | with_reducible exact HBW | with_reducible refine setUp ?_ (by omega) _)
                      · rw [h0] at hck
                        rw [if_pos (by rw [h0]; decide)] at hRR
                        have HA := Lib.hid hRR
                        clear hRR h0
                        go_wp2_with fail
                        refine hck.mono ?_
                        rintro e w8 ⟨rfl, hb8⟩
                        have hb28 := hb7.trans (hb8.mono hb7.size)
                        have h3 := H3.out _ hb28
                        have hc3 := h3.cells
                        have hf3 := h3.free
                        have HBW := HBW2.trans (hb28.mono (by omega))
                        go_wp2
                        refine bodyPost_ret (v := .tuple #[vV (.slice none 0 0) ⟨[], 0, 0, 0, 0⟩, .int .i64 11]) (by simp [results, Try.results9, go_sem, hc3]) rfl ?_
                        rw [HA.out]
                        refine ⟨_, rfl, Sl.nil _ _ _, ?_⟩
                        repeat (first | with_reducible exact HBW | with_reducible refine setUp ?_ (by omega) _)
                    · intro pre pn pt post w5 hsp hRg5 hk5 hs5 hen
                      have hsz5 : wP.heap.size + 2 ≤ w5.heap.size := by rw [hs5]; exact hsz
                      clear hs5
                      obtain ⟨ra, t, rb, rfl, rfl, hpt, rfl⟩ := tm_split hsp
                      simp only [Prod.mk.injEq] at hpt
                      obtain ⟨rfl, rfl⟩ := hpt
                      have hB5 := hk5.blk hB (by show wP.heap.size ≠ wP.heap.size + 1; omega)
                      have hown5 : Own w5 (wP.heap.size + 2) 38 5 vv (tcs done) := hown.keep fun b h1 h2 => hk5.block b (by show b ≠ wP.heap.size + 1; omega)
                      have hb5 : Below w2.heap.size w2 w5 := hbel.trans (hk5.below fun b hb => by show b ≠ wP.heap.size + 1; omega)
                      have HPM5 := Lib.hid (show ((done ++ [pt]) ++ (ra ++ rb)).Perm q from by
                        refine List.Perm.trans ?_ HPR.out
                        rw [List.append_assoc, List.singleton_append]
                        exact List.Perm.append_left done (List.perm_middle (a := pt)).symm)
                      have hdl : done.length ≤ 3000 := by have := HPR.out.length_eq; simp at this; omega
                      have HTC2 := Lib.hid (tcs_append done [pt])
                      have HLE := Lib.hid hRg.left_eq
                      clear hB hown hbel HPR hsp hRg
                      obtain ⟨tn, tl, ts, tf, tla⟩ := pt
                      dsimp only [tV, kI] at hen
                      have hownA := hown5.below ((Below.refl _ _).alloc (Nat.le_refl _) (.cells #[.int .i64 tn, .int .i64 tl, .int .i64 ts, .string tf, .string tla] 38))
                      have hBA := hB5.alloc (.cells #[.int .i64 tn, .int .i64 tl, .int .i64 ts, .string tf, .string tla] 38)
                      have hcBA := hBA.cells
                      have HSZ := Lib.hid (show (w5.alloc (.cells #[.int .i64 tn, .int .i64 tl, .int .i64 ts, .string tf, .string tla] 38)).heap.size = w5.heap.size + 1 from by simp)
                      have hbA := hb5.alloc hb5.size (.cells #[.int .i64 tn, .int .i64 tl, .int .i64 ts, .string tf, .string tla] 38)
                      have hRA := hRg5.below ((Below.refl _ _).alloc (Nat.le_refl _) (.cells #[.int .i64 tn, .int .i64 tl, .int .i64 ts, .string tf, .string tla] 38))
                      have hdl2 : (tcs done).length ≤ 15000 := by rw [tcs_length]; omega
                      go_wp2_with (at_builtin; go_must (refine wpList_own_lit tabsT rfl (.tmp 111) (.tmp 113) rfl rfl hownA (by rw [HSZ.out]; rfl) rfl (by simp [Value.oneCell']) (by simp; omega) (by simp; omega) (by rw [HSZ.out]; omega) ?_); intro v3 w6 hown6 hb6 _; obtain ⟨ao3, m3, c3, rfl, _, _⟩ := hown6.sl.len; have hB6 := hBA.same (Same.below hb6) (by omega); have hc6 := hB6.cells; have hf6 := hB6.free)
                      have hRF : Rng Try.prog 3 kI tV (w6.setCell ⟨wP.heap.size, 0, none⟩ (.slice ao3 m3 c3)) w2.heap.size (wP.heap.size + 1) (tm q) (tm (ra ++ rb)) := by
                        have := hRA.same (w' := w6.setCell ⟨wP.heap.size, 0, none⟩ (.slice ao3 m3 c3)) ((Below.heap_setCell w6 _ _ w2.heap.size (by show w2.heap.size ≠ wP.heap.size; omega)).trans (hb6.block _ (by omega))) ((Below.heap_setCell w6 _ _ (wP.heap.size + 1) (by show wP.heap.size + 1 ≠ wP.heap.size; omega)).trans (hb6.block _ (by omega)))
                        simpa [tm] using this
                      have hbF : Below w2.heap.size w2 w6 := hbA.trans (hb6.mono (by omega))
                      have hsF := Nat.le_trans (show wP.heap.size + 2 ≤ (w5.alloc (.cells #[.int .i64 tn, .int .i64 tl, .int .i64 ts, .string tf, .string tla] 38)).heap.size from by rw [HSZ.out]; omega) hb6.size
                      go_roundw
                      case rel => exact ⟨_, ra ++ rb, _, HPM5.out, hRF, Blk.set_to hB6 0 _ rfl, by rw [HTC2.out]; exact hown6.keep fun b h1 h2 => Below.heap_setCell w6 _ _ b (by show b ≠ wP.heap.size; omega), setUp hbF (by omega) _, by simpa using hsF⟩
                      case measure => rw [hRF.left_eq, HLE.out]; simp [tm]
  · have HA := A9 hc
    have HC := Lib.hid hc
    clear A9 A1 A4 A3 AO hc
    rw [HC.out] at HCK
    go_enter Try.func9, Try.ntmps9
    go_wp2_with fail
    refine HCK.out.mono ?_
    rintro e w1 ⟨rfl, hb1⟩
    have h3 := hB3.below hb1
    have hc3 := h3.cells
    have hf3 := h3.free
    go_wp2
    have HBW : Below w.heap.size w w1 := hw0.trans (hb1.mono (by simp <;> omega))
    refine bodyPost_ret (v := .tuple #[vV (.slice none 0 0) ⟨[], 0, 0, 0, 0⟩, .int .i64 9]) (by simp [results, Try.results9, go_sem, hc3]) rfl ?_
    rw [HA.out]
    refine ⟨_, rfl, Sl.nil _ _ _, ?_⟩
    repeat (first | with_reducible exact HBW | with_reducible refine setUp ?_ (by omega) _)

end Go.Proofs.Ytkllfdfipkcddaa
