/- The walk of sentryref16.Apply. No condition: lemmas. -/
import Derived.Test.YtkllfdfipkcddaaEditH
import Derived.Test.YtkllfdfipkcddaaEditP
import Derived.Test.YtkllfdfipkcddaaRowkB
import Derived.Test.YtkllfdfipkcddaaMapB
import Derived.IntWalk
namespace Go.Proofs.Ytkllfdfipkcddaa
open Go Go.RowKit

theorem tcs_drop (l : List Tab) (k : Nat) : (tcs l).drop (k * 5) = tcs (l.drop k) := by
  have h := List.take_append_drop (k * 5) (tcs l)
  rw [tcs_take] at h
  have h2 := congrArg tcs (List.take_append_drop k l)
  rw [tcs_append] at h2
  exact List.append_cancel_left (h.trans h2.symm)

/-- The last place of a number in a row's first tables, or -1. -/
def atN (m : List Tab) (n : Int) : Nat → Int
  | 0 => -1
  | j + 1 => if (m.map (·.num))[j]? = some n then (j : Int) else atN m n j
theorem atN_hit {m : List Tab} {n : Int} {j : Nat} (hj : j < m.length) (h : m[j].num = n) : atN m n (j + 1) = j := by
  unfold atN; rw [if_pos (by simp [hj, h])]
theorem atN_miss {m : List Tab} {n : Int} {j : Nat} (hj : j < m.length) (h : m[j].num ≠ n) : atN m n (j + 1) = atN m n j := by
  show (if (m.map (·.num))[j]? = some n then (j : Int) else atN m n j) = _
  rw [if_neg (by simp [hj, h])]
theorem atN_no {m : List Tab} {n : Int} (h : hasN m n = false) : ∀ j, j ≤ m.length → atN m n j = -1
  | 0, _ => rfl
  | j + 1, hj => by
    rw [atN_miss (by omega) (fun e => by rw [Bool.eq_false_iff] at h; exact h (hasN_iff.2 (List.mem_map.2 ⟨_, List.getElem_mem (show j < m.length by omega), e⟩)))]
    exact atN_no h j (by omega)
theorem atN_at {m : List Tab} {n : Int} (hn : NumsT m) {p : Nat} (hp : p < m.length) (h : m[p].num = n) : ∀ j, p < j → j ≤ m.length → atN m n j = p
  | 0, h0, _ => by omega
  | j + 1, h0, hj => by
    by_cases e : j = p
    · subst e; exact atN_hit hp h
    · rw [atN_miss (by omega) (fun e2 => by
        have := List.pairwise_iff_getElem.1 hn p j (by rw [List.length_map]; omega) (by rw [List.length_map]; omega) (by omega)
        simp only [List.getElem_map] at this
        exact this (h.trans e2.symm))]
      exact atN_at hn hp h j (by omega) (by omega)
theorem hasN_at {m : List Tab} {n : Int} (h : hasN m n = true) : ∃ p, ∃ hp : p < m.length, m[p].num = n := by
  obtain ⟨t, ht, e⟩ := List.mem_map.1 (hasN_iff.1 h)
  obtain ⟨p, hp, rfl⟩ := List.getElem_of_mem ht
  exact ⟨p, hp, e⟩
theorem lessN_at {m : List Tab} {n : Int} (hn : NumsT m) {p : Nat} (hp : p < m.length) (h : m[p].num = n) : lessN m n = m.take p ++ m.drop (p + 1) := by
  have e : m = m.take p ++ m[p] :: m.drop (p + 1) := by rw [List.getElem_cons_drop, List.take_append_drop]
  have hn' : NumsT (m.take p ++ m[p] :: m.drop (p + 1)) := e ▸ hn
  unfold NumsT at hn'
  rw [List.map_append, List.map_cons, List.nodup_append] at hn'
  obtain ⟨_, h2, h3⟩ := hn'
  have h2 := (List.nodup_cons.1 h2).1
  have k1 : lessN (m.take p) n = m.take p := by
    unfold lessN
    rw [List.filter_eq_self]
    intro a ha
    simp only [decide_eq_true_eq]
    exact fun e2 => h3 a.num (List.mem_map.2 ⟨a, ha, rfl⟩) m[p].num (by simp) (e2.trans h.symm)
  have k2 : lessN (m.drop (p + 1)) n = m.drop (p + 1) := by
    unfold lessN
    rw [List.filter_eq_self]
    intro a ha
    simp only [decide_eq_true_eq]
    exact fun e2 => h2 (List.mem_map.2 ⟨a, ha, e2.trans h.symm⟩)
  have k3 : lessN m n = lessN (m.take p) n ++ lessN (m[p] :: m.drop (p + 1)) n := by
    conv => lhs; rw [e]
    unfold lessN
    rw [List.filter_append]
  rw [k3, k1]
  congr 1
  have : lessN (m[p] :: m.drop (p + 1)) n = lessN (m.drop (p + 1)) n := by unfold lessN; rw [List.filter_cons, if_neg (by simp [h])]
  rw [this, k2]

theorem insT_at : ∀ {q : List Tab} {t : Tab} {k : Nat}, k ≤ q.length → (∀ j (hj : j < q.length), j < k → lessT q[j] t = true) → (∀ h : k < q.length, lessT q[k] t = false) → [] ++ tcs (q.take k) ++ tcs [t] ++ tcs (q.drop k) = tcs (insT q t)
  | [], t, k, hk, _, _ => by
    obtain rfl : k = 0 := by simpa using hk
    simp [insT, tcs]
  | a :: q, t, 0, _, _, h => by
    have := h (by simp)
    simp only [List.getElem_cons_zero] at this
    unfold insT
    rw [if_neg (by rw [this]; simp)]
    simp [tcs]
  | a :: q, t, k + 1, hk, h1, h2 => by
    have ih := insT_at (q := q) (t := t) (k := k) (by simpa using hk) (fun j hj hjk => by have := h1 (j + 1) (by simpa using hj) (by omega); simpa using this) (fun h => by have := h2 (by simpa using h); simpa using this)
    have h0 := h1 0 (by simp) (by omega)
    simp only [List.getElem_cons_zero] at h0
    unfold insT
    rw [if_pos h0]
    simp only [List.nil_append] at ih ⊢
    rw [List.take_succ_cons, List.drop_succ_cons]
    have e : ∀ l, tcs (a :: l) = tC a ++ tcs l := fun l => rfl
    rw [e, e, ← ih]
    simp only [List.append_assoc]

set_option maxRecDepth 100000 in
set_option maxHeartbeats 3200000 in
theorem refApply_any (tv av dv : Value) (v : Ver) (x : Edi) (w : World) (ht : Sl (· < w.heap.size) w 5 tv (tcs v.tabs)) (ha : Sl (· < w.heap.size) w 5 av (tcs x.add)) (hd : Sl (· < w.heap.size) w 1 dv (ic x.drop))
    (n1 : v.tabs.length ≤ 1000) (n2 : x.add.length ≤ 1000) (n3 : x.drop.length ≤ 1000) :
    Calls Try.prog 10 #[vV tv v, eV av dv x] w (RetVer (applyR v x) w) := by
  have hw0 : Below w.heap.size w (((w.alloc (.cells (vC tv v) 25)).alloc (.cells (eC av dv x) 28)).alloc (.cells (vC (.slice none 0 0) zeroVer) 25)) := (((Below.refl _ _).alloc (Nat.le_refl _) _).alloc (by simp) _).alloc (by simp <;> omega) _
  have hB1 := ((Blk.made w (vC tv v) 25).alloc (.cells (eC av dv x) 28)).alloc (.cells (vC (.slice none 0 0) zeroVer) 25)
  have hB2 := (Blk.made' (w := w.alloc (.cells (vC tv v) 25)) (B := w.heap.size + 1) (by simp) (eC av dv x) 28).alloc (.cells (vC (.slice none 0 0) zeroVer) 25)
  have hB3 := Blk.made' (w := (w.alloc (.cells (vC tv v) 25)).alloc (.cells (eC av dv x) 28)) (B := w.heap.size + 2) (by simp) (vC (.slice none 0 0) zeroVer) 25
  have hcheck := refCheck_any tv v _ (ht.up hw0)
  have ha0 := ha.up hw0
  have hd0 := hd.up hw0
  have ht0 := ht.up hw0
  have A9 := fun h => Lib.hid (applyR_9 (v := v) (e := x) h)
  have A1 := fun h h1 => Lib.hid (applyR_1 (v := v) (e := x) h h1)
  have A4 := fun h h1 h2 => Lib.hid (applyR_4 (v := v) (e := x) h h1 h2)
  have A3 := fun l h h1 h2 h3 => Lib.hid (applyR_3 (v := v) (e := x) (l := l) h h1 h2 h3)
  have AO := fun l m h h1 h2 h3 => Lib.hid (applyR_ok (v := v) (e := x) (l := l) (m := m) h h1 h2 h3)
  have hright := fun W h1 h2 => refRight_any av dv x W h1 h2 n2 n3
  have HCH := chkN_chk (x := v)
  unfold zeroVer at *
  obtain ⟨l0, fl, hd', lg, nx⟩ := v
  obtain ⟨add, drop, efl, ehd, elg, enx⟩ := x
  unfold vV at hcheck ⊢
  unfold eV at hright ⊢
  unfold vC eC at *
  dsimp only at *
  generalize applyR ⟨l0, fl, hd', lg, nx⟩ ⟨add, drop, efl, ehd, elg, enx⟩ = R at *
  have HR := Lib.hid hright
  have HCK := Lib.hid hcheck
  clear hright hcheck
  rcases chkN_cases ⟨l0, fl, hd', lg, nx⟩ with hc | hc
  · have HC := Lib.hid hc
    rw [HC.out] at HCK
    have hnum : NumsT l0 := (HCH hc).nums
    have hup : UpT l0 := (HCH hc).up
    cases hrt : rightE ⟨add, drop, efl, ehd, elg, enx⟩ with
    | false =>
      have HA := A1 hc hrt
      have HRT := Lib.hid hrt
      clear A9 A1 A4 A3 AO hc hrt
      go_enter Try.func10, Try.ntmps10
      go_wp2_with fail
      refine HCK.out.mono ?_
      rintro e w1 ⟨rfl, hb1⟩
      have hc2 := (hB2.below hb1).cells
      go_wp2_with fail
      refine (HR.out _ (ha0.up hb1) (hd0.up hb1)).mono ?_
      rw [HRT.out]
      rintro e w2 ⟨rfl, hb2⟩
      have h3 := (hB3.below hb1).below hb2
      have hc3 := h3.cells
      have hf3 := h3.free
      have HBW : Below w.heap.size w w2 := (hw0.trans (hb1.mono (by simp <;> omega))).trans (hb2.mono (hw0.trans (hb1.mono (by simp <;> omega))).size)
      go_wp2
      refine bodyPost_ret (v := .tuple #[vV (.slice none 0 0) ⟨[], 0, 0, 0, 0⟩, .int .i64 1]) (by simp [results, Try.results10, go_sem, hc3]) rfl ?_
      rw [HA.out]
      refine ⟨_, rfl, Sl.nil _ _ _, ?_⟩
      repeat (first | with_reducible exact HBW | with_reducible refine setUp ?_ (by omega) _)
    | true =>
      have HRT := Lib.hid hrt
      have A4 := A4 hc hrt
      have A3 := fun l => A3 l hc hrt
      have AO := fun l m => AO l m hc hrt
      clear A9 A1 hc hrt HCH
      go_enter Try.func10, Try.ntmps10
      go_wp2_with fail
      refine HCK.out.mono ?_
      rintro e w1 ⟨rfl, hb1⟩
      have hc2 := (hB2.below hb1).cells
      go_wp2_with fail
      refine (HR.out _ (ha0.up hb1) (hd0.up hb1)).mono ?_
      rw [HRT.out]
      rintro e w2 ⟨rfl, hb2⟩
      have HBW2 : Below w.heap.size w w2 := (hw0.trans (hb1.mono (by simp <;> omega))).trans (hb2.mono (hw0.trans (hb1.mono (by simp <;> omega))).size)
      have hs2 : w.heap.size + 3 ≤ w2.heap.size := by
        have h1 := hb1.size
        have h2 := hb2.size
        simp at h1
        omega
      have hA2 := (ha0.up hb1).up hb2
      have hD2 := (hd0.up hb1).up hb2
      have hT2 := (ht0.up hb1).up hb2
      have hX1 := (hB1.below hb1).below hb2
      have hX2 := (hB2.below hb1).below hb2
      have hX3 := (hB3.below hb1).below hb2
      clear ha0 hd0 ht0 hB1 hB2 hB3 hc2 HCK HR ht ha hd
      have H1 : ∀ W, Below w2.heap.size w2 W → ∀ i, W.cell? ⟨w.heap.size, i, none⟩ = _ := fun W h => (hX1.same (Same.below h) (by omega)).cells
      have H2 : ∀ W, Below w2.heap.size w2 W → ∀ i, W.cell? ⟨w.heap.size + 1, i, none⟩ = _ := fun W h => (hX2.same (Same.below h) (by omega)).cells
      have H3 : ∀ W, Below w2.heap.size w2 W → Blk W (w.heap.size + 2) _ _ := fun W h => hX3.same (Same.below h) (by omega)
      have H1 := Lib.hid H1
      have H2 := Lib.hid H2
      have H3 := Lib.hid H3
      have hE1 : Below w2.heap.size w2 (w2.alloc (.cells #[] 38)) := (Below.refl _ _).alloc (Nat.le_refl _) _
      have hOw1 : Own (w2.alloc (.cells #[] 38)) w2.heap.size 38 5 (.slice (some ⟨w2.heap.size, 0, none⟩) 0 0) [] := Own.made w2 (Nat.le_refl _) _ _
      have hc1M := H1.out _ hE1
      have hTA := hT2.same (Same.below hE1)
      obtain ⟨aao, acp, rfl, hac, ham, hacell⟩ := hA2.tabs
      obtain ⟨dao, dcp, rfl, hdc, hdm, hdcell⟩ := hD2.ints
      have HAC := Lib.hid hacell
      have HDC := Lib.hid hdcell
      have HN1 := Lib.hid n1
      clear hacell hdcell hA2 hD2 hX1 hX2 hX3
      have hll : (tcs l0).length ≤ 5000 := by rw [tcs_length]; have := HN1.out; omega
      go_wp2_with (at_builtin; go_must (refine wpList_own tabsT rfl (.tmp 29) (.tmp 31) rfl rfl hOw1 rfl hTA (tcs_one _) (by rw [List.length_nil]; omega) (by rw [List.length_nil]; omega) hE1.size ?_); intro vL w3 hApp hb3 _; have hbL := hE1.trans hb3; have hc2L := H2.out _ hbL)
      have hsL : Own w3 w2.heap.size 38 5 vL (tcs l0) := hApp
      have h1000 : l0.length ≤ 1000 := HN1.out
      clear hApp hc1M hc2L hTA hOw1 hll
      go_loopw [7, 36] (fun vv ii wr => ∃ i : Nat, i ≤ drop.length ∧ ii = .int .i64 i ∧ ∃ m, dropAll l0 (drop.take i) = some m ∧ NumsT m ∧ UpT m ∧ m.length ≤ 1000 ∧ Own wr w2.heap.size 38 5 vv (tcs m) ∧ Below w2.heap.size w2 wr) (fun _ ii _ => drop.length - (intOf ii).toNat)
      case atStart => exact ⟨0, by omega, rfl, l0, rfl, hnum, hup, h1000, hsL, hbL⟩
      case round =>
        obtain ⟨i, hi, rfl, m, hdm, hmn, hmu, hml, hown, hbel⟩ := hrel
        have HDM := Lib.hid hdm
        have hsl := hown.slU
        clear hdm hsL hbL
        by_cases hlt : i < drop.length
        · obtain ⟨b, off, rfl, hb, hc⟩ := HDC.out (by omega)
          have c0 := (hbel.cell (p := ⟨b, off + i, none⟩) hb).trans (hc i hlt)
          have HST := fun h => Lib.hid (drop_step hlt HDM.out h)
          have HFL := fun h => A4 (drop_fail hlt HDM.out h)
          clear hc
          generalize drop[i] = n at *
          have HSL := Lib.hid hsl
          obtain ⟨mo, mc, rfl, hmc, hmm, hmcell⟩ := hsl.tabs
          have HMC := Lib.hid hmcell
          obtain ⟨wo, hwo⟩ : ∃ wo : World, wo = wr := ⟨_, rfl⟩
          subst hwo
          have hbo := hbel
          clear hmcell hsl hown
          go_wp2
          go_loopw [10, 42] (fun aa jj wz => ∃ j : Nat, j ≤ m.length ∧ jj = .int .i64 j ∧ aa = .int .i64 (atN m n j) ∧ Below wo.heap.size wo wz) (fun _ jj _ => m.length - (intOf jj).toNat)
          case atStart => exact ⟨0, by omega, rfl, rfl, Below.refl _ _⟩
          case round =>
            obtain ⟨j, hj, rfl, rfl, hbz⟩ := hrel
            by_cases hjl : j < m.length
            · obtain ⟨b2, off2, rfl, hb2', hc2⟩ := HMC.out (by omega)
              obtain ⟨d0, d1, d2, d3, d4⟩ := hc2 j hjl
              have d0 := (hbz.cell (p := ⟨b2, off2 + j * 5, none⟩) hb2').trans d0
              have d1 := (hbz.cell (p := ⟨b2, off2 + j * 5 + 1, none⟩) hb2').trans d1
              have d2 := (hbz.cell (p := ⟨b2, off2 + j * 5 + 2, none⟩) hb2').trans d2
              have d3 := (hbz.cell (p := ⟨b2, off2 + j * 5 + 3, none⟩) hb2').trans d3
              have d4 := (hbz.cell (p := ⟨b2, off2 + j * 5 + 4, none⟩) hb2').trans d4
              have hHT := fun h => Lib.hid (atN_hit (n := n) hjl h)
              have hMS := fun h => Lib.hid (atN_miss (n := n) hjl h)
              clear hc2
              generalize m[j] = u at *
              obtain ⟨un, ul, us, uf, ula⟩ := u
              dsimp only at *
              have hbz2 := hbz.alloc hbz.size (.cells #[.int .i64 un, .int .i64 ul, .int .i64 us, .string uf, .string ula] 38)
              by_cases he : un = n
              · have HH := hHT he
                subst he
                clear hHT hMS
                go_wp2
                go_roundw
                case rel => exact ⟨j + 1, by omega, by go_num, by rw [HH.out], hbz2⟩
                case measure => simp [intOf]; omega
              · have HH := hMS he
                have he2 : (un == n) = false := by simpa using he
                clear hHT hMS he
                go_wp2
                go_roundw
                case rel => exact ⟨j + 1, by omega, by go_num, by rw [HH.out], hbz2⟩
                case measure => simp [intOf]; omega
            · obtain rfl : j = m.length := by omega
              have hbw := hbo.trans (hbz.mono hbo.size)
              cases hh : hasN m n with
              | false =>
                have hat := atN_no hh m.length (Nat.le_refl _)
                rw [hat]
                have HA := HFL hh
                have h3 := H3.out _ hbw
                have hc3 := h3.cells
                have hf3 := h3.free
                have HBW := HBW2.trans (hbw.mono (by omega))
                clear hh HFL HST hat
                go_wp2
                refine bodyPost_ret (v := .tuple #[vV (.slice none 0 0) ⟨[], 0, 0, 0, 0⟩, .int .i64 4]) (by simp [results, Try.results10, go_sem, hc3]) rfl ?_
                rw [HA.out]
                refine ⟨_, rfl, Sl.nil _ _ _, ?_⟩
                repeat (first | with_reducible exact HBW | with_reducible refine setUp ?_ (by omega) _)
              | true =>
                obtain ⟨p, hp, hpn⟩ := hasN_at hh
                have hat := atN_at hmn hp hpn m.length hp (Nat.le_refl _)
                rw [hat]
                have HS := HST hh
                have HLS := Lib.hid (lessN_at hmn hp hpn)
                have HNM := Lib.hid (lessN_nums (n := n) hmn)
                have HUM := Lib.hid (show UpT (lessN m n) from hmu.sublist List.filter_sublist)
                have HLM := Lib.hid (show (lessN m n).length ≤ 1000 from Nat.le_trans (List.length_filter_le _ _) hml)
                have hp0 : (0 : Int) ≤ p := by omega
                have hpc : (p : Int) ≤ mc := by omega
                have hpl : (p : Int) + 1 ≤ m.length := by omega
                have HSZ := Lib.hid (HSL.out.up hbz)
                clear hh HFL HST hat hpn
                obtain ⟨b2, off2, rfl, hb2', -⟩ := HMC.out (by omega)
                have hpc2 : (p : Int) + 1 ≤ mc := by omega
                go_wp2_with fail
                have hw1 : IntKind.i64.wrap ((p : Int) + 1) = (p : Int) + 1 := IntWalk.i64_in _ (by omega)
                have hw2 : (0 : Int) ≤ (p : Int) + 1 := by omega
                have hw3 : ((p : Int) + 1).toNat = p + 1 := by omega
                obtain ⟨wd, hwd⟩ : ∃ wd, wd = wr.drew := ⟨_, rfl⟩
                have hsd : Sl (· < wd.heap.size) wd 5 (.slice (some ⟨b2, off2, none⟩) m.length mc) (tcs m) := by rw [hwd]; exact HSZ.out
                have hbd : Below w2.heap.size w2 wd := by rw [hwd]; exact hbw.drew
                refine region_walkN (Ext wr.drew) (Ext.refl _) (by kernel_rfl) (by kernel_rfl) (fun _ _ d _ _ h => by cases d <;> exact h) ?_
                rw [← hwd]
                clear hwd
                ((refine WalkN.take 1 _ ?_ (by simp only [List.getElem?_toArray, List.getElem?_cons_succ, List.getElem?_cons_zero]; rfl) (by kernel_rfl) (by kernel_rfl) (by rfl) (fun W hW => ?_) ?_; rotate_left; · (go_simp; try with_reducible rfl)); simp only [Act.put, List.setIfInBounds_toArray, List.set_cons_zero, List.set_cons_succ]); ((refine WalkN.take 2 _ ?_ (by simp only [List.getElem?_toArray, List.getElem?_cons_succ, List.getElem?_cons_zero]; rfl) (by kernel_rfl) (by kernel_rfl) (by rfl) (fun W hW => ?_) ?_; rotate_left; · (go_simp; try with_reducible rfl)); simp only [Act.put, List.setIfInBounds_toArray, List.set_cons_zero, List.set_cons_succ]); ((refine WalkN.take 3 _ ?_ (by simp only [List.getElem?_toArray, List.getElem?_cons_succ, List.getElem?_cons_zero]; rfl) (by kernel_rfl) (by kernel_rfl) (by rfl) (fun W hW => ?_) ?_; rotate_left; · (go_simp; try with_reducible rfl)); simp only [Act.put, List.setIfInBounds_toArray, List.set_cons_zero, List.set_cons_succ]); ((refine WalkN.take 5 _ ?_ (by simp only [List.getElem?_toArray, List.getElem?_cons_succ, List.getElem?_cons_zero]; rfl) (by kernel_rfl) (by kernel_rfl) (by rfl) (fun W hW => ?_) ?_; rotate_left; · (go_simp; try with_reducible rfl)); simp only [Act.put, List.setIfInBounds_toArray, List.set_cons_zero, List.set_cons_succ]); ((refine WalkN.take 6 _ ?_ (by simp only [List.getElem?_toArray, List.getElem?_cons_succ, List.getElem?_cons_zero]; rfl) (by kernel_rfl) (by kernel_rfl) (by rfl) (fun W hW => ?_) ?_; rotate_left; · (go_simp; try with_reducible rfl)); simp only [Act.put, List.setIfInBounds_toArray, List.set_cons_zero, List.set_cons_succ]); ((refine WalkN.take 7 _ ?_ (by simp only [List.getElem?_toArray, List.getElem?_cons_succ, List.getElem?_cons_zero]; rfl) (by kernel_rfl) (by kernel_rfl) (by rfl) (fun W hW => ?_) ?_; rotate_left; · (go_simp; try with_reducible rfl)); simp only [Act.put, List.setIfInBounds_toArray, List.set_cons_zero, List.set_cons_succ]); ((refine WalkN.take 8 _ ?_ (by simp only [List.getElem?_toArray, List.getElem?_cons_succ, List.getElem?_cons_zero]; rfl) (by kernel_rfl) (by kernel_rfl) (by rfl) (fun W hW => ?_) ?_; rotate_left; · (go_simp; try with_reducible rfl)); simp only [Act.put, List.setIfInBounds_toArray, List.set_cons_zero, List.set_cons_succ])
                clear hw1 hw2 hw3
                have hs1 : Sl (· < wd.heap.size) wd 5 (.slice (some ⟨b2, off2, none⟩) p mc) (tcs (m.take p)) := by
                  have := hsd.take p (by omega)
                  rwa [tcs_take] at this
                have hs2 : Sl (· < wd.heap.size) wd 5 (.slice (if mc = p + 1 then (some ⟨b2, off2, none⟩) else (some ⟨b2, off2 + (p + 1) * 5, none⟩)) (m.length - (p + 1)) (mc - (p + 1))) (tcs (m.drop (p + 1))) := by
                  have := hsd.tailK (ao' := if mc = p + 1 then (some ⟨b2, off2, none⟩) else (some ⟨b2, off2 + (p + 1) * 5, none⟩)) (p + 1) (by omega) (fun h => by rw [if_neg h]; simp [Addr.add_lit])
                  rwa [tcs_drop] at this
                have hl1 : (tcs (m.take p)).length ≤ 5000 := by rw [tcs_length, List.length_take]; omega
                have hl2 : (tcs (m.drop (p + 1))).length ≤ 5000 := by rw [tcs_length, List.length_drop]; omega
                have HS1 := Lib.hid hs1
                have HS2 := Lib.hid hs2
                clear hs1 hs2 hsd
                refine WalkN.one 0 (by kernel_rfl) ?_
                refine ⟨_, (by simp only [List.getElem?_toArray, List.getElem?_cons_zero]; rfl), by rfl, fun K hK => ?_⟩
                go_simp
                have hown1 : Own (wd.alloc (.cells #[] 38)) wd.heap.size 38 5 (.slice (some ⟨wd.heap.size, 0, none⟩) 0 0) [] := Own.made wd (Nat.le_refl _) _ _
                have hE1 : Ext wd (wd.alloc (.cells #[] 38)) := Ext.alloc _ _
                refine hK.out _ _ hE1 ?_
                clear hK
                refine WalkN.one 4 (by kernel_rfl) ?_
                refine ⟨_, (by simp only [List.getElem?_toArray, List.getElem?_cons_succ, List.getElem?_cons_zero]; rfl), by rfl, fun K hK => ?_⟩
                refine wp_own tabsT (.tmp 56) (.tmp 59) rfl rfl hown1 rfl (HS1.out.same (Same.below hE1)) (tcs_one _) (by rw [List.length_nil]; omega) (by rw [List.length_nil]; omega) hE1.size (fun v2 w5 hown2 hb2 _ => ?_)
                have hE2 : Ext wd w5 := Below.trans hE1 hb2
                refine hK.out _ _ hE2 ?_
                clear hK
                simp only [Act.put, List.setIfInBounds_toArray, List.set_cons_zero, List.set_cons_succ]
                refine WalkN.one 9 (by kernel_rfl) ?_
                refine ⟨_, (by simp only [List.getElem?_toArray, List.getElem?_cons_succ, List.getElem?_cons_zero]; rfl), by rfl, fun K hK => ?_⟩
                refine wp_own tabsT (.tmp 60) (.tmp 64) rfl rfl hown2 rfl (HS2.out.same (Same.below hE2)) (tcs_one _) (by rw [List.nil_append]; omega) (by rw [List.nil_append]; omega) hE2.size (fun v3 w6 hown3 hb3 _ => ?_)
                have hE3 : Ext wd w6 := Below.trans hE2 hb3
                refine hK.out _ _ hE3 ?_
                clear hK
                simp only [Act.put, List.setIfInBounds_toArray, List.set_cons_zero, List.set_cons_succ]
                rw [List.nil_append, ← tcs_append, ← HLS.out] at hown3
                have HF := Lib.hid (hown3.base hbd.size)
                have hbF : Below w2.heap.size w2 w6 := hbd.trans (Below.mono hE3 hbd.size)
                clear hown1 hown2 hown3 hE1 hE2 hE3 hl1 hl2
                ((refine WalkN.take 10 _ ?_ (by simp only [List.getElem?_toArray, List.getElem?_cons_succ, List.getElem?_cons_zero]; rfl) (by kernel_rfl) (by kernel_rfl) (by rfl) (fun W hW => ?_) ?_; rotate_left; · (go_simp; try with_reducible rfl)); simp only [Act.put, List.setIfInBounds_toArray, List.set_cons_zero, List.set_cons_succ])
                refine WalkN.done (by kernel_rfl) ?_
                go_wp2
                go_roundw
                case rel => exact ⟨i + 1, by omega, by go_num, _, HS.out, HNM.out, HUM.out, HLM.out, HF.out, hbF⟩
                case measure => simp [intOf]; omega
        · obtain rfl : i = drop.length := by omega
          have HDM2 := HDM.out
          rw [List.take_length] at HDM2
          have HDM3 := Lib.hid HDM2
          have A3 := fun h => A3 m HDM3.out h
          have AO := fun m' h => AO m m' HDM3.out h
          have hc2M := H2.out _ hbel
          have HAF := fun i (hi : i < add.length) q (h : addAll insT m (add.take i) = some q) hn => A3 (add_fail hi h hn)
          clear HDM HDM2 hsl A3 A4
          go_wp2_with fail
          clear hc2M
          go_loopw [7, 70] (fun vv ii wr => ∃ i : Nat, i ≤ add.length ∧ ii = .int .i64 i ∧ ∃ q, addAll insT m (add.take i) = some q ∧ q.length ≤ 1000 + i ∧ Own wr w2.heap.size 38 5 vv (tcs q) ∧ Below w2.heap.size w2 wr) (fun _ ii _ => add.length - (intOf ii).toNat)
          case atStart => exact ⟨0, by omega, rfl, m, rfl, by omega, hown, hbel⟩
          case round =>
            obtain ⟨i, hi, rfl, q, hq, hql, hown, hbel⟩ := hrel
            have HQ := Lib.hid hq
            clear hq
            by_cases hlt : i < add.length
            · obtain ⟨b, off, rfl, hb, hc⟩ := HAC.out (by omega)
              obtain ⟨c0, c1, c2, c3, c4⟩ := hc i hlt
              have c0 := (hbel.cell (p := ⟨b, off + i * 5, none⟩) hb).trans c0
              have c1 := (hbel.cell (p := ⟨b, off + i * 5 + 1, none⟩) hb).trans c1
              have c2 := (hbel.cell (p := ⟨b, off + i * 5 + 2, none⟩) hb).trans c2
              have c3 := (hbel.cell (p := ⟨b, off + i * 5 + 3, none⟩) hb).trans c3
              have c4 := (hbel.cell (p := ⟨b, off + i * 5 + 4, none⟩) hb).trans c4
              have HST := fun h => Lib.hid (add_step (put := insT) hlt HQ.out h)
              have HFL := fun h => HAF i hlt q HQ.out h
              clear hc HAF
              generalize add[i] = t at *
              obtain ⟨tn, tl, ts, tf, tla⟩ := t
              dsimp only at *
              have hTb := Blk.made wr #[.int .i64 tn, .int .i64 tl, .int .i64 ts, .string tf, .string tla] 38
              have hbA := hbel.alloc hbel.size (.cells #[.int .i64 tn, .int .i64 tl, .int .i64 ts, .string tf, .string tla] 38)
              have hownA := hown.below ((Below.refl _ _).alloc (Nat.le_refl _) (.cells #[.int .i64 tn, .int .i64 tl, .int .i64 ts, .string tf, .string tla] 38))
              have HOW := Lib.hid hownA
              have HSH := Lib.hid hownA.shape
              obtain ⟨mo, mc, rfl, hmc, hmm, hmcell⟩ := hownA.slU.tabs
              have HMC := Lib.hid hmcell
              obtain ⟨wP, hwP⟩ : ∃ wP : World, wP = wr := ⟨_, rfl⟩
              subst hwP
              clear hmcell hown hownA
              go_wp2
              generalize wP.alloc (.cells #[.int .i64 tn, .int .i64 tl, .int .i64 ts, .string tf, .string tla] 38) = wA at *
              go_loopw [76] (fun jj wz => ∃ j : Nat, j ≤ q.length ∧ jj = .int .i64 j ∧ (∀ k (hk : k < q.length), k < j → q[k].num ≠ tn) ∧ Below wA.heap.size wA wz) (fun jj _ => q.length - (intOf jj).toNat)
              case atStart => exact ⟨0, by omega, rfl, fun _ _ h => absurd h (by omega), Below.refl _ _⟩
              case round =>
                obtain ⟨j, hj, rfl, hno, hbz⟩ := hrel
                have HNO := Lib.hid hno
                clear hno
                by_cases hjl : j < q.length
                · obtain ⟨b2, off2, rfl, hb2', hc2⟩ := HMC.out (by omega)
                  obtain ⟨d0, d1, d2, d3, d4⟩ := hc2 j hjl
                  have d0 := (hbz.cell (p := ⟨b2, off2 + j * 5, none⟩) hb2').trans d0
                  have d1 := (hbz.cell (p := ⟨b2, off2 + j * 5 + 1, none⟩) hb2').trans d1
                  have d2 := (hbz.cell (p := ⟨b2, off2 + j * 5 + 2, none⟩) hb2').trans d2
                  have d3 := (hbz.cell (p := ⟨b2, off2 + j * 5 + 3, none⟩) hb2').trans d3
                  have d4 := (hbz.cell (p := ⟨b2, off2 + j * 5 + 4, none⟩) hb2').trans d4
                  have HN2 := fun (h : q[j].num ≠ tn) => Lib.hid (upto_succ (p := fun k hk => q[k].num ≠ tn) HNO.out hjl h)
                  have HF2 := fun (h : q[j].num = tn) => HFL (hasN_iff.2 (List.mem_map.2 ⟨_, List.getElem_mem hjl, h⟩))
                  clear hc2
                  generalize q[j] = u at *
                  obtain ⟨un, ul, us, uf, ula⟩ := u
                  dsimp only at *
                  have hcT := ((hTb.below hbz).alloc (.cells #[.int .i64 un, .int .i64 ul, .int .i64 us, .string uf, .string ula] 38)).cells
                  have hbz2 := hbz.alloc hbz.size (.cells #[.int .i64 un, .int .i64 ul, .int .i64 us, .string uf, .string ula] 38)
                  by_cases he : un = tn
                  · have HA := HF2 he
                    subst he
                    have hbw := hbA.trans (hbz2.mono hbA.size)
                    have h3 := H3.out _ hbw
                    have hc3 := h3.cells
                    have hf3 := h3.free
                    have HBW := HBW2.trans (hbw.mono (by omega))
                    clear HN2 HF2
                    go_wp2
                    refine bodyPost_ret (v := .tuple #[vV (.slice none 0 0) ⟨[], 0, 0, 0, 0⟩, .int .i64 3]) (by simp [results, Try.results10, go_sem, hc3]) rfl ?_
                    rw [HA.out]
                    refine ⟨_, rfl, Sl.nil _ _ _, ?_⟩
                    repeat (first | with_reducible exact HBW | with_reducible refine setUp ?_ (by omega) _)
                  · have HH := HN2 he
                    have he2 : (un == tn) = false := by simpa using he
                    clear HN2 HF2 he
                    go_wp2
                    go_roundw
                    case rel => exact ⟨j + 1, by omega, by go_num, HH.out, hbz2⟩
                    case measure => simp [intOf]; omega
                · obtain rfl : j = q.length := by omega
                  have hno2 : hasN q tn = false := by
                    rw [Bool.eq_false_iff]
                    intro h
                    obtain ⟨p, hp, e⟩ := hasN_at h
                    exact HNO.out p hp hp e
                  have HS := HST hno2
                  have hTz := hTb.below hbz
                  have hbQ := hbA.trans (hbz.mono hbA.size)
                  have hcT := hTz.cells
                  have HLI := Lib.hid (show (insT q ⟨tn, tl, ts, tf, tla⟩).length ≤ 1000 + (i + 1) from by rw [(insT_perm q _).length_eq]; simp; omega)
                  obtain ⟨wQ, hwQ⟩ : ∃ wQ : World, wQ = wr := ⟨_, rfl⟩
                  subst hwQ
                  clear hno2 HST HFL HNO hcT
                  go_wp2
                  go_loopw [17] (fun aa wz => ∃ k : Nat, k ≤ q.length ∧ aa = .int .i64 k ∧ (∀ j (hj : j < q.length), j < k → lessT q[j] ⟨tn, tl, ts, tf, tla⟩ = true) ∧ Below wQ.heap.size wQ wz) (fun aa _ => q.length - (intOf aa).toNat)
                  case atStart => exact ⟨0, by omega, rfl, fun _ _ h => absurd h (by omega), Below.refl _ _⟩
                  case round =>
                    obtain ⟨k, hk, rfl, hall, hbr⟩ := hrel
                    have HALL := Lib.hid hall
                    have hTz := hTz.below hbr
                    have hbR := hbQ.trans (hbr.mono hbQ.size)
                    have hAR : Below wA.heap.size wA wr := hbz.trans (hbr.mono hbz.size)
                    have HSR := Lib.hid (HOW.out.below hAR).slU
                    clear hall
                    by_cases hkl : k < q.length
                    · obtain ⟨b2, off2, rfl, hb2', hc2⟩ := HMC.out (by omega)
                      obtain ⟨d0, d1, d2, d3, d4⟩ := hc2 k hkl
                      have d0 := (hAR.cell (p := ⟨b2, off2 + k * 5, none⟩) hb2').trans d0
                      have d1 := (hAR.cell (p := ⟨b2, off2 + k * 5 + 1, none⟩) hb2').trans d1
                      have d2 := (hAR.cell (p := ⟨b2, off2 + k * 5 + 2, none⟩) hb2').trans d2
                      have d3 := (hAR.cell (p := ⟨b2, off2 + k * 5 + 3, none⟩) hb2').trans d3
                      have d4 := (hAR.cell (p := ⟨b2, off2 + k * 5 + 4, none⟩) hb2').trans d4
                      have hx0 : ∀ W, Ext wr W → W.cell? ⟨b2, off2 + k * 5, none⟩ = _ := fun W h => Ext.cell h d0
                      have hx1' : ∀ W, Ext wr W → W.cell? ⟨b2, off2 + k * 5 + 1, none⟩ = _ := fun W h => Ext.cell h d1
                      have hx2' : ∀ W, Ext wr W → W.cell? ⟨b2, off2 + k * 5 + 2, none⟩ = _ := fun W h => Ext.cell h d2
                      have hx3' : ∀ W, Ext wr W → W.cell? ⟨b2, off2 + k * 5 + 3, none⟩ = _ := fun W h => Ext.cell h d3
                      have hx4' : ∀ W, Ext wr W → W.cell? ⟨b2, off2 + k * 5 + 4, none⟩ = _ := fun W h => Ext.cell h d4
                      have hTW : ∀ W, Ext wr W → ∀ i, W.cell? ⟨wP.heap.size, i, none⟩ = (#[Value.int .i64 tn, .int .i64 tl, .int .i64 ts, .string tf, .string tla] : Array Value)[i]? := fun W h => (hTz.below h).cells
                      have hless := less_any q[k] ⟨tn, tl, ts, tf, tla⟩
                      have hki : (k : Int) < q.length := by omega
                      have hk0 : (0 : Int) ≤ k := by omega
                      have hE : Ext wr wr.drew := Ext.drew wr
                      have HNX := fun (h : lessT q[k] ⟨tn, tl, ts, tf, tla⟩ = true) => Lib.hid (upto_succ (p := fun j hj => lessT q[j] ⟨tn, tl, ts, tf, tla⟩ = true) HALL.out hkl h)
                      have HIX := fun (h : lessT q[k] ⟨tn, tl, ts, tf, tla⟩ = false) => Lib.hid (insT_at (t := ⟨tn, tl, ts, tf, tla⟩) hk HALL.out (fun _ => h))
                      clear hc2 d0 d1 d2 d3 d4
                      generalize q[k] = u at *
                      obtain ⟨un, ul, us, uf, ula⟩ := u
                      dsimp only at hx0 hx1' hx2' hx3' hx4'
                      unfold tV at hless
                      dsimp only at hless
                      cases hl : lessT ⟨un, ul, us, uf, ula⟩ ⟨tn, tl, ts, tf, tla⟩ with
                      | true =>
                        have HH := HNX hl
                        rw [hl] at hless
                        clear hl HNX HIX
                        go_wp2_with fail
                        refine region_walk [(0, true), (1, true), (2, true), (3, true), (4, true), (5, true), (6, true), (7, true), (8, true), (9, true), (10, false), (11, true)] (by kernel_rfl) (by kernel_rfl) (by kernel_rfl) rfl (fun _ _ d _ _ h => by cases d <;> exact h) ?_
                        iterate 10 ((refine Walk.take _ ?_ (by simp only [List.getElem?_toArray, List.getElem?_cons_succ, List.getElem?_cons_zero]; rfl) (by rfl) (fun W hW => ?_) ?_; rotate_left; · (have hE0 := hE.trans hW; go_simp; try with_reducible rfl)); simp only [Act.put, List.setIfInBounds_toArray, List.set_cons_zero, List.set_cons_succ])
                        clear hx0 hx1' hx2' hx3' hx4' hTW
                        refine Walk.make _ (by simp only [List.getElem?_toArray, List.getElem?_cons_succ, List.getElem?_cons_zero]; rfl) (by rfl) (fun K hK => ?_); go_simp
                        refine (hless _).mono ?_
                        rintro e w4 ⟨rfl, hb4⟩
                        refine hK.out _ _ hb4 ?_
                        clear hK
                        have hE := hE.trans hb4
                        iterate 1 ((refine Walk.take _ ?_ (by simp only [List.getElem?_toArray, List.getElem?_cons_succ, List.getElem?_cons_zero]; rfl) (by rfl) (fun W hW => ?_) ?_; rotate_left; · (have hE0 := hE.trans hW; go_simp; try with_reducible rfl)); simp only [Act.put, List.setIfInBounds_toArray, List.set_cons_zero, List.set_cons_succ])
                        unfold Walk
                        go_wp2
                        go_roundw
                        case rel => exact ⟨k + 1, by omega, by go_num, HH.out, hbr.trans (hE.mono hbr.size)⟩
                        case measure => simp [intOf]; omega
                      | false =>
                        have HIN := HIX hl
                        rw [hl] at hless
                        clear hl HNX HIX
                        have hkc : (k : Int) ≤ mc := by omega
                        have hkq : (k : Int) ≤ q.length := by omega
                        go_wp2_with fail
                        refine region_walk [(0, true), (1, true), (2, true), (3, true), (4, true), (5, true), (6, true), (7, true), (8, true), (9, true), (10, false), (11, true)] (by kernel_rfl) (by kernel_rfl) (by kernel_rfl) rfl (fun _ _ d _ _ h => by cases d <;> exact h) ?_
                        iterate 10 ((refine Walk.take _ ?_ (by simp only [List.getElem?_toArray, List.getElem?_cons_succ, List.getElem?_cons_zero]; rfl) (by rfl) (fun W hW => ?_) ?_; rotate_left; · (have hE0 := hE.trans hW; go_simp; try with_reducible rfl)); simp only [Act.put, List.setIfInBounds_toArray, List.set_cons_zero, List.set_cons_succ])
                        clear hx0 hx1' hx2' hx3' hx4' hTW
                        refine Walk.make _ (by simp only [List.getElem?_toArray, List.getElem?_cons_succ, List.getElem?_cons_zero]; rfl) (by rfl) (fun K hK => ?_); go_simp
                        refine (hless _).mono ?_
                        rintro e w4 ⟨rfl, hb4⟩
                        refine hK.out _ _ hb4 ?_
                        clear hK
                        have hE := hE.trans hb4
                        iterate 1 ((refine Walk.take _ ?_ (by simp only [List.getElem?_toArray, List.getElem?_cons_succ, List.getElem?_cons_zero]; rfl) (by rfl) (fun W hW => ?_) ?_; rotate_left; · (have hE0 := hE.trans hW; go_simp; try with_reducible rfl)); simp only [Act.put, List.setIfInBounds_toArray, List.set_cons_zero, List.set_cons_succ])
                        unfold Walk
                        have hT4 := hTz.below hE
                        have hS4 := HSR.out.up hE
                        have hb24 := hbR.trans (hE.mono hbR.size)
                        go_wp2_with fail
                        obtain ⟨wd, hwd⟩ : ∃ wd, wd = (w4).drew := ⟨_, rfl⟩
                        have hsd : Sl (· < wd.heap.size) wd 5 (.slice (some ⟨b2, off2, none⟩) q.length mc) (tcs q) := by rw [hwd]; exact hS4
                        have hbd : Below w2.heap.size w2 wd := by rw [hwd]; exact hb24.drew
                        have HTW : ∀ W, Ext (w4).drew W → ∀ i, W.cell? ⟨wP.heap.size, i, none⟩ = (#[Value.int .i64 tn, .int .i64 tl, .int .i64 ts, .string tf, .string tla] : Array Value)[i]? := fun W h => (hT4.drew.below h).cells
                        refine region_walkN (Ext (w4).drew) (Ext.refl _) (by kernel_rfl) (by kernel_rfl) (fun _ _ d _ _ h => by cases d <;> exact h) ?_
                        rw [← hwd] at HTW ⊢
                        clear hwd
                        ((refine WalkN.take 1 _ ?_ (by simp only [List.getElem?_toArray, List.getElem?_cons_succ, List.getElem?_cons_zero]; rfl) (by kernel_rfl) (by kernel_rfl) (by rfl) (fun W hW => ?_) ?_; rotate_left; · (go_simp; try with_reducible rfl)); simp only [Act.put, List.setIfInBounds_toArray, List.set_cons_zero, List.set_cons_succ]); ((refine WalkN.take 2 _ ?_ (by simp only [List.getElem?_toArray, List.getElem?_cons_succ, List.getElem?_cons_zero]; rfl) (by kernel_rfl) (by kernel_rfl) (by rfl) (fun W hW => ?_) ?_; rotate_left; · (go_simp; try with_reducible rfl)); simp only [Act.put, List.setIfInBounds_toArray, List.set_cons_zero, List.set_cons_succ]); ((refine WalkN.take 3 _ ?_ (by simp only [List.getElem?_toArray, List.getElem?_cons_succ, List.getElem?_cons_zero]; rfl) (by kernel_rfl) (by kernel_rfl) (by rfl) (fun W hW => ?_) ?_; rotate_left; · (go_simp; try with_reducible rfl)); simp only [Act.put, List.setIfInBounds_toArray, List.set_cons_zero, List.set_cons_succ]); ((refine WalkN.take 5 _ ?_ (by simp only [List.getElem?_toArray, List.getElem?_cons_succ, List.getElem?_cons_zero]; rfl) (by kernel_rfl) (by kernel_rfl) (by rfl) (fun W hW => ?_) ?_; rotate_left; · (go_simp; try with_reducible rfl)); simp only [Act.put, List.setIfInBounds_toArray, List.set_cons_zero, List.set_cons_succ]); ((refine WalkN.take 8 _ ?_ (by simp only [List.getElem?_toArray, List.getElem?_cons_succ, List.getElem?_cons_zero]; rfl) (by kernel_rfl) (by kernel_rfl) (by rfl) (fun W hW => ?_) ?_; rotate_left; · (go_simp; try with_reducible rfl)); simp only [Act.put, List.setIfInBounds_toArray, List.set_cons_zero, List.set_cons_succ]); ((refine WalkN.take 9 _ ?_ (by simp only [List.getElem?_toArray, List.getElem?_cons_succ, List.getElem?_cons_zero]; rfl) (by kernel_rfl) (by kernel_rfl) (by rfl) (fun W hW => ?_) ?_; rotate_left; · (go_simp; try with_reducible rfl)); simp only [Act.put, List.setIfInBounds_toArray, List.set_cons_zero, List.set_cons_succ]); ((refine WalkN.take 10 _ ?_ (by simp only [List.getElem?_toArray, List.getElem?_cons_succ, List.getElem?_cons_zero]; rfl) (by kernel_rfl) (by kernel_rfl) (by rfl) (fun W hW => ?_) ?_; rotate_left; · (go_simp; try with_reducible rfl)); simp only [Act.put, List.setIfInBounds_toArray, List.set_cons_zero, List.set_cons_succ])
                        clear HTW
                        have hE0 : Ext wd wd := Ext.refl _
                        have hs1 : Sl (· < wd.heap.size) wd 5 (.slice (some ⟨b2, off2, none⟩) k mc) (tcs (q.take k)) := by
                          have := hsd.take k (by omega)
                          rwa [tcs_take] at this
                        have hs2 : Sl (· < wd.heap.size) wd 5 (.slice (if mc = k then (some ⟨b2, off2, none⟩) else (some ⟨b2, off2 + k * 5, none⟩)) (q.length - k) (mc - k)) (tcs (q.drop k)) := by
                          have := hsd.tailK (ao' := if mc = k then (some ⟨b2, off2, none⟩) else (some ⟨b2, off2 + k * 5, none⟩)) k (by omega) (fun h => by rw [if_neg h]; simp [Addr.add_lit])
                          rwa [tcs_drop] at this
                        have hl1 : (q.take k).length ≤ 2000 := by rw [List.length_take]; omega
                        have hl2 : (q.drop k).length ≤ 2000 := by rw [List.length_drop]; omega
                        clear hsd
                        refine WalkN.two 0 6 (by kernel_rfl) ?_ ?_
                        · refine ⟨_, (by simp only [List.getElem?_toArray, List.getElem?_cons_zero]; rfl), by rfl, fun K hK => ?_⟩
                          go_simp
                          have hown1 : Own (wd.alloc (.cells #[] 38)) wd.heap.size 38 5 (.slice (some ⟨wd.heap.size, 0, none⟩) 0 0) [] := Own.made wd (Nat.le_refl _) _ _
                          have hE1 := Below.alloc hE0 (Nat.le_refl _) (.cells #[] 38)
                          refine hK.out _ _ hE1 ?_
                          clear hK
                          refine WalkN.two 4 6 (by kernel_rfl) ?_ ?_
                          · refine ⟨_, (by simp only [List.getElem?_toArray, List.getElem?_cons_succ, List.getElem?_cons_zero]; rfl), by rfl, fun K hK => ?_⟩
                            refine wp_own tabsT (.tmp 101) (.tmp 104) rfl rfl hown1 rfl (hs1.same (Same.below hE1)) (tcs_one _) (by simp [tcs_length] <;> omega) (by simp [tcs_length] <;> omega) hE1.size (fun v2 w2 hown2 hb2 hg2' => ?_)
                            have hE2 : Ext wd w2 := Below.trans hE1 hb2
                            refine hK.out _ _ hE2 ?_
                            clear hK
                            simp only [Act.put, List.setIfInBounds_toArray, List.set_cons_zero, List.set_cons_succ]
                            refine WalkN.one 6 (by kernel_rfl) ?_
                            refine ⟨_, (by simp only [List.getElem?_toArray, List.getElem?_cons_succ, List.getElem?_cons_zero]; rfl), by rfl, fun K hK => ?_⟩
                            go_simp
                            have hE3 := Below.alloc hE2 hE2.size (.cells #[.int .i64 tn, .int .i64 tl, .int .i64 ts, .string tf, .string tla] 38)
                            have hown3 := hown2.below ((Below.refl _ _).alloc (Nat.le_refl _) (.cells #[.int .i64 tn, .int .i64 tl, .int .i64 ts, .string tf, .string tla] 38))
                            have hk3 : Sl (fun _ => True) (w2.alloc (.cells #[.int .i64 tn, .int .i64 tl, .int .i64 ts, .string tf, .string tla] 38)) 5 (.slice (some ⟨w2.heap.size, 0, none⟩) 1 1) (tcs [⟨tn, tl, ts, tf, tla⟩]) := Sl.made w2 (fun _ => True) 5 1 38 #[.int .i64 tn, .int .i64 tl, .int .i64 ts, .string tf, .string tla] rfl (by decide) trivial
                            refine hK.out _ _ hE3 ?_
                            clear hK
                            refine WalkN.one 7 (by kernel_rfl) ?_
                            refine ⟨_, (by simp only [List.getElem?_toArray, List.getElem?_cons_succ, List.getElem?_cons_zero]; rfl), by rfl, fun K hK => ?_⟩
                            refine wp_own tabsT (.tmp 105) (.tmp 107) rfl rfl hown3 rfl hk3 (tcs_one _) (by simp [tcs_length] <;> omega) (by simp [tcs_length] <;> omega) hE3.size (fun v4 w4 hown4 hb4 _ => ?_)
                            have hE4 : Ext wd w4 := Below.trans hE3 hb4
                            refine hK.out _ _ hE4 ?_
                            clear hK
                            simp only [Act.put, List.setIfInBounds_toArray, List.set_cons_zero, List.set_cons_succ]
                            refine WalkN.one 11 (by kernel_rfl) ?_
                            refine ⟨_, (by simp only [List.getElem?_toArray, List.getElem?_cons_succ, List.getElem?_cons_zero]; rfl), by rfl, fun K hK => ?_⟩
                            refine wp_own tabsT (.tmp 108) (.tmp 111) rfl rfl hown4 rfl (hs2.same (Same.below hE4)) (tcs_one _) (by simp [tcs_length] <;> omega) (by simp [tcs_length] <;> omega) hE4.size (fun v5 w5 hown5 hb5 _ => ?_)
                            have hE5 : Ext wd w5 := Below.trans hE4 hb5
                            have HO5 := Lib.hid hown5
                            refine hK.out _ _ hE5 ?_
                            clear hK
                            simp only [Act.put, List.setIfInBounds_toArray, List.set_cons_zero, List.set_cons_succ]
                            clear hown3 hown4 hown5 hk3
                            ((refine WalkN.take 12 _ ?_ (by simp only [List.getElem?_toArray, List.getElem?_cons_succ, List.getElem?_cons_zero]; rfl) (by kernel_rfl) (by kernel_rfl) (by rfl) (fun W hW => ?_) ?_; rotate_left; · (go_simp; try with_reducible rfl)); simp only [Act.put, List.setIfInBounds_toArray, List.set_cons_zero, List.set_cons_succ])
                            refine WalkN.done (by kernel_rfl) ?_
                            go_wp2
                            go_roundw
                            case rel => exact ⟨i + 1, by omega, by go_num, _, HS.out, HLI.out, (HIN.out ▸ HO5.out : Own w5 wd.heap.size 38 5 v5 (tcs (insT q ⟨tn, tl, ts, tf, tla⟩))).base hbd.size, hbd.trans (Below.mono hE5 hbd.size)⟩
                            case measure => simp [intOf]; omega
                          · obtain ⟨w1, hw1⟩ : ∃ w1, w1 = wd.alloc (.cells #[] 38) := ⟨_, rfl⟩
                            rw [← hw1] at hown1 hE1 ⊢
                            have hs1' : w1.heap.size = wd.heap.size + 1 := by rw [hw1]; simp
                            have HS1 := Lib.hid hs1'
                            clear hw1 hs1'
                            refine ⟨_, (by simp only [List.getElem?_toArray, List.getElem?_cons_succ, List.getElem?_cons_zero]; rfl), by rfl, fun K hK => ?_⟩
                            go_simp
                            have hE3 := Below.alloc hE1 hE1.size (.cells #[.int .i64 tn, .int .i64 tl, .int .i64 ts, .string tf, .string tla] 38)
                            have hown3 := hown1.below ((Below.refl _ _).alloc (Nat.le_refl _) (.cells #[.int .i64 tn, .int .i64 tl, .int .i64 ts, .string tf, .string tla] 38))
                            have hk3 : Sl (fun b => b = w1.heap.size) (w1.alloc (.cells #[.int .i64 tn, .int .i64 tl, .int .i64 ts, .string tf, .string tla] 38)) 5 (.slice (some ⟨w1.heap.size, 0, none⟩) 1 1) (tcs [⟨tn, tl, ts, tf, tla⟩]) := Sl.made w1 (fun b => b = w1.heap.size) 5 1 38 #[.int .i64 tn, .int .i64 tl, .int .i64 ts, .string tf, .string tla] rfl (by decide) rfl
                            refine hK.out _ _ hE3 ?_
                            clear hK
                            refine WalkN.one 4 (by kernel_rfl) ?_
                            refine ⟨_, (by simp only [List.getElem?_toArray, List.getElem?_cons_succ, List.getElem?_cons_zero]; rfl), by rfl, fun K hK => ?_⟩
                            refine wp_own tabsT (.tmp 101) (.tmp 104) rfl rfl hown3 rfl (hs1.same (Same.below hE3)) (tcs_one _) (by simp [tcs_length] <;> omega) (by simp [tcs_length] <;> omega) hE3.size (fun v2 w2 hown2 hb2 hg2' => ?_)
                            have hE2 : Ext wd w2 := Below.trans hE3 hb2
                            have hk5 := hk3.same (w' := w2) (fun x hx => hg2'.block x (by subst hx; simp) (fun h => by subst hx; have h2 := Option.some.inj (show some w1.heap.size = some wd.heap.size from h); have := HS1.out; omega))
                            refine hK.out _ _ hE2 ?_
                            clear hK
                            simp only [Act.put, List.setIfInBounds_toArray, List.set_cons_zero, List.set_cons_succ]
                            refine WalkN.one 7 (by kernel_rfl) ?_
                            refine ⟨_, (by simp only [List.getElem?_toArray, List.getElem?_cons_succ, List.getElem?_cons_zero]; rfl), by rfl, fun K hK => ?_⟩
                            refine wp_own tabsT (.tmp 105) (.tmp 107) rfl rfl hown2 rfl hk5 (tcs_one _) (by simp [tcs_length] <;> omega) (by simp [tcs_length] <;> omega) hE2.size (fun v4 w4 hown4 hb4 _ => ?_)
                            have hE4 : Ext wd w4 := Below.trans hE2 hb4
                            refine hK.out _ _ hE4 ?_
                            clear hK
                            simp only [Act.put, List.setIfInBounds_toArray, List.set_cons_zero, List.set_cons_succ]
                            refine WalkN.one 11 (by kernel_rfl) ?_
                            refine ⟨_, (by simp only [List.getElem?_toArray, List.getElem?_cons_succ, List.getElem?_cons_zero]; rfl), by rfl, fun K hK => ?_⟩
                            refine wp_own tabsT (.tmp 108) (.tmp 111) rfl rfl hown4 rfl (hs2.same (Same.below hE4)) (tcs_one _) (by simp [tcs_length] <;> omega) (by simp [tcs_length] <;> omega) hE4.size (fun v5 w5 hown5 hb5 _ => ?_)
                            have hE5 : Ext wd w5 := Below.trans hE4 hb5
                            have HO5 := Lib.hid hown5
                            refine hK.out _ _ hE5 ?_
                            clear hK
                            simp only [Act.put, List.setIfInBounds_toArray, List.set_cons_zero, List.set_cons_succ]
                            clear hown2 hown4 hown5 hk5
                            ((refine WalkN.take 12 _ ?_ (by simp only [List.getElem?_toArray, List.getElem?_cons_succ, List.getElem?_cons_zero]; rfl) (by kernel_rfl) (by kernel_rfl) (by rfl) (fun W hW => ?_) ?_; rotate_left; · (go_simp; try with_reducible rfl)); simp only [Act.put, List.setIfInBounds_toArray, List.set_cons_zero, List.set_cons_succ])
                            refine WalkN.done (by kernel_rfl) ?_
                            go_wp2
                            go_roundw
                            case rel => exact ⟨i + 1, by omega, by go_num, _, HS.out, HLI.out, (HIN.out ▸ HO5.out : Own w5 wd.heap.size 38 5 v5 (tcs (insT q ⟨tn, tl, ts, tf, tla⟩))).base hbd.size, hbd.trans (Below.mono hE5 hbd.size)⟩
                            case measure => simp [intOf]; omega
                        · refine ⟨_, (by simp only [List.getElem?_toArray, List.getElem?_cons_succ, List.getElem?_cons_zero]; rfl), by rfl, fun K hK => ?_⟩
                          go_simp
                          have hE1 := Below.alloc hE0 (Nat.le_refl _) (.cells #[.int .i64 tn, .int .i64 tl, .int .i64 ts, .string tf, .string tla] 38)
                          have hk1 : Sl (fun b => b = wd.heap.size) (wd.alloc (.cells #[.int .i64 tn, .int .i64 tl, .int .i64 ts, .string tf, .string tla] 38)) 5 (.slice (some ⟨wd.heap.size, 0, none⟩) 1 1) (tcs [⟨tn, tl, ts, tf, tla⟩]) := Sl.made wd (fun b => b = wd.heap.size) 5 1 38 #[.int .i64 tn, .int .i64 tl, .int .i64 ts, .string tf, .string tla] rfl (by decide) rfl
                          refine hK.out _ _ hE1 ?_
                          clear hK
                          obtain ⟨w1, hw1⟩ : ∃ w1, w1 = wd.alloc (.cells #[.int .i64 tn, .int .i64 tl, .int .i64 ts, .string tf, .string tla] 38) := ⟨_, rfl⟩
                          rw [← hw1] at hk1 hE1 ⊢
                          have hs1' : w1.heap.size = wd.heap.size + 1 := by rw [hw1]; simp
                          have HS1 := Lib.hid hs1'
                          clear hw1 hs1'
                          refine WalkN.one 0 (by kernel_rfl) ?_
                          refine ⟨_, (by simp only [List.getElem?_toArray, List.getElem?_cons_zero]; rfl), by rfl, fun K hK => ?_⟩
                          go_simp
                          have hown1 : Own (w1.alloc (.cells #[] 38)) wd.heap.size 38 5 (.slice (some ⟨w1.heap.size, 0, none⟩) 0 0) [] := Own.made w1 hE1.size _ _
                          have hE3 := Below.alloc hE1 hE1.size (.cells #[] 38)
                          have hk3 := hk1.same (w' := w1.alloc (.cells #[] 38)) (fun x hx => Below.heap_alloc w1 _ x (by subst hx; have := HS1.out; omega))
                          refine hK.out _ _ hE3 ?_
                          clear hK
                          refine WalkN.one 4 (by kernel_rfl) ?_
                          refine ⟨_, (by simp only [List.getElem?_toArray, List.getElem?_cons_succ, List.getElem?_cons_zero]; rfl), by rfl, fun K hK => ?_⟩
                          refine wp_own tabsT (.tmp 101) (.tmp 104) rfl rfl hown1 rfl (hs1.same (Same.below hE3)) (tcs_one _) (by simp [tcs_length] <;> omega) (by simp [tcs_length] <;> omega) hE3.size (fun v2 w2 hown2 hb2 hg2' => ?_)
                          have hE2 : Ext wd w2 := Below.trans hE3 hb2
                          have hk5 := hk3.same (w' := w2) (fun x hx => hg2'.block x (by subst hx; have := HS1.out; simp; omega) (fun h => by subst hx; have h2 := Option.some.inj (show some wd.heap.size = some w1.heap.size from h); have := HS1.out; omega))
                          refine hK.out _ _ hE2 ?_
                          clear hK
                          simp only [Act.put, List.setIfInBounds_toArray, List.set_cons_zero, List.set_cons_succ]
                          refine WalkN.one 7 (by kernel_rfl) ?_
                          refine ⟨_, (by simp only [List.getElem?_toArray, List.getElem?_cons_succ, List.getElem?_cons_zero]; rfl), by rfl, fun K hK => ?_⟩
                          refine wp_own tabsT (.tmp 105) (.tmp 107) rfl rfl hown2 rfl hk5 (tcs_one _) (by simp [tcs_length] <;> omega) (by simp [tcs_length] <;> omega) hE2.size (fun v4 w4 hown4 hb4 _ => ?_)
                          have hE4 : Ext wd w4 := Below.trans hE2 hb4
                          refine hK.out _ _ hE4 ?_
                          clear hK
                          simp only [Act.put, List.setIfInBounds_toArray, List.set_cons_zero, List.set_cons_succ]
                          refine WalkN.one 11 (by kernel_rfl) ?_
                          refine ⟨_, (by simp only [List.getElem?_toArray, List.getElem?_cons_succ, List.getElem?_cons_zero]; rfl), by rfl, fun K hK => ?_⟩
                          refine wp_own tabsT (.tmp 108) (.tmp 111) rfl rfl hown4 rfl (hs2.same (Same.below hE4)) (tcs_one _) (by simp [tcs_length] <;> omega) (by simp [tcs_length] <;> omega) hE4.size (fun v5 w5 hown5 hb5 _ => ?_)
                          have hE5 : Ext wd w5 := Below.trans hE4 hb5
                          have HO5 := Lib.hid hown5
                          refine hK.out _ _ hE5 ?_
                          clear hK
                          simp only [Act.put, List.setIfInBounds_toArray, List.set_cons_zero, List.set_cons_succ]
                          clear hown2 hown4 hown5 hk5
                          ((refine WalkN.take 12 _ ?_ (by simp only [List.getElem?_toArray, List.getElem?_cons_succ, List.getElem?_cons_zero]; rfl) (by kernel_rfl) (by kernel_rfl) (by rfl) (fun W hW => ?_) ?_; rotate_left; · (go_simp; try with_reducible rfl)); simp only [Act.put, List.setIfInBounds_toArray, List.set_cons_zero, List.set_cons_succ])
                          refine WalkN.done (by kernel_rfl) ?_
                          go_wp2
                          go_roundw
                          case rel => exact ⟨i + 1, by omega, by go_num, _, HS.out, HLI.out, (HIN.out ▸ HO5.out : Own w5 wd.heap.size 38 5 v5 (tcs (insT q ⟨tn, tl, ts, tf, tla⟩))).base hbd.size, hbd.trans (Below.mono hE5 hbd.size)⟩
                          case measure => simp [intOf]; omega
                    · obtain rfl : k = q.length := by omega
                      have HIN := Lib.hid (insT_at (t := ⟨tn, tl, ts, tf, tla⟩) hk HALL.out (fun h => absurd h hkl))
                      have hkc : (q.length : Int) ≤ mc := by omega
                      have hkq : (q.length : Int) ≤ q.length := by omega
                      have hE4 : ∀ n, Ext wr (wr.drewN n) := fun n => below_drewN (Ext.refl _) n
                      clear hkl HALL
                      rcases HSH.out with ⟨hmn, -⟩ | ⟨b2, n', c', hmn⟩
                      · obtain rfl : mo = none := by injection hmn
                        clear hmn HSH
                        go_wp2_with fail
                        go_quiet (fail)
                        go_wp2_with fail
                        generalize hwn : wr.drewN _ = w4
                        have hE := hwn ▸ hE4 _
                        clear hwn hE4
                        have hT4 := hTz.below hE
                        have hS4 := HSR.out.up hE
                        have hb24 := hbR.trans (hE.mono hbR.size)
                        obtain ⟨wd, hwd⟩ : ∃ wd, wd = (w4).drew := ⟨_, rfl⟩
                        have hsd : Sl (· < wd.heap.size) wd 5 (.slice none q.length mc) (tcs q) := by rw [hwd]; exact hS4
                        have hbd : Below w2.heap.size w2 wd := by rw [hwd]; exact hb24.drew
                        have HTW : ∀ W, Ext (w4).drew W → ∀ i, W.cell? ⟨wP.heap.size, i, none⟩ = (#[Value.int .i64 tn, .int .i64 tl, .int .i64 ts, .string tf, .string tla] : Array Value)[i]? := fun W h => (hT4.drew.below h).cells
                        refine region_walkN (Ext (w4).drew) (Ext.refl _) (by kernel_rfl) (by kernel_rfl) (fun _ _ d _ _ h => by cases d <;> exact h) ?_
                        rw [← hwd] at HTW ⊢
                        clear hwd
                        ((refine WalkN.take 1 _ ?_ (by simp only [List.getElem?_toArray, List.getElem?_cons_succ, List.getElem?_cons_zero]; rfl) (by kernel_rfl) (by kernel_rfl) (by rfl) (fun W hW => ?_) ?_; rotate_left; · (go_simp; try with_reducible rfl)); simp only [Act.put, List.setIfInBounds_toArray, List.set_cons_zero, List.set_cons_succ]); ((refine WalkN.take 2 _ ?_ (by simp only [List.getElem?_toArray, List.getElem?_cons_succ, List.getElem?_cons_zero]; rfl) (by kernel_rfl) (by kernel_rfl) (by rfl) (fun W hW => ?_) ?_; rotate_left; · (go_simp; try with_reducible rfl)); simp only [Act.put, List.setIfInBounds_toArray, List.set_cons_zero, List.set_cons_succ]); ((refine WalkN.take 3 _ ?_ (by simp only [List.getElem?_toArray, List.getElem?_cons_succ, List.getElem?_cons_zero]; rfl) (by kernel_rfl) (by kernel_rfl) (by rfl) (fun W hW => ?_) ?_; rotate_left; · (go_simp; try with_reducible rfl)); simp only [Act.put, List.setIfInBounds_toArray, List.set_cons_zero, List.set_cons_succ]); ((refine WalkN.take 5 _ ?_ (by simp only [List.getElem?_toArray, List.getElem?_cons_succ, List.getElem?_cons_zero]; rfl) (by kernel_rfl) (by kernel_rfl) (by rfl) (fun W hW => ?_) ?_; rotate_left; · (go_simp; try with_reducible rfl)); simp only [Act.put, List.setIfInBounds_toArray, List.set_cons_zero, List.set_cons_succ]); ((refine WalkN.take 8 _ ?_ (by simp only [List.getElem?_toArray, List.getElem?_cons_succ, List.getElem?_cons_zero]; rfl) (by kernel_rfl) (by kernel_rfl) (by rfl) (fun W hW => ?_) ?_; rotate_left; · (go_simp; try with_reducible rfl)); simp only [Act.put, List.setIfInBounds_toArray, List.set_cons_zero, List.set_cons_succ]); ((refine WalkN.take 9 _ ?_ (by simp only [List.getElem?_toArray, List.getElem?_cons_succ, List.getElem?_cons_zero]; rfl) (by kernel_rfl) (by kernel_rfl) (by rfl) (fun W hW => ?_) ?_; rotate_left; · (go_simp; try with_reducible rfl)); simp only [Act.put, List.setIfInBounds_toArray, List.set_cons_zero, List.set_cons_succ]); ((refine WalkN.take 10 _ ?_ (by simp only [List.getElem?_toArray, List.getElem?_cons_succ, List.getElem?_cons_zero]; rfl) (by kernel_rfl) (by kernel_rfl) (by rfl) (fun W hW => ?_) ?_; rotate_left; · (go_simp; try with_reducible rfl)); simp only [Act.put, List.setIfInBounds_toArray, List.set_cons_zero, List.set_cons_succ])
                        clear HTW
                        have hE0 : Ext wd wd := Ext.refl _
                        have hs1 : Sl (· < wd.heap.size) wd 5 (.slice none q.length mc) (tcs (q.take q.length)) := by
                          have := hsd.take q.length (by omega)
                          rwa [tcs_take] at this
                        have hs2 : Sl (· < wd.heap.size) wd 5 (.slice none 0 (mc - q.length)) (tcs (q.drop q.length)) := by
                          have := hsd.tailK (ao' := none) q.length (by omega) (fun _ => rfl)
                          rwa [tcs_drop, Nat.sub_self] at this
                        have hl1 : (q.take q.length).length ≤ 2000 := by rw [List.length_take]; omega
                        have hl2 : (q.drop q.length).length ≤ 2000 := by rw [List.length_drop]; omega
                        clear hsd
                        refine WalkN.two 0 6 (by kernel_rfl) ?_ ?_
                        · refine ⟨_, (by simp only [List.getElem?_toArray, List.getElem?_cons_zero]; rfl), by rfl, fun K hK => ?_⟩
                          go_simp
                          have hown1 : Own (wd.alloc (.cells #[] 38)) wd.heap.size 38 5 (.slice (some ⟨wd.heap.size, 0, none⟩) 0 0) [] := Own.made wd (Nat.le_refl _) _ _
                          have hE1 := Below.alloc hE0 (Nat.le_refl _) (.cells #[] 38)
                          refine hK.out _ _ hE1 ?_
                          clear hK
                          refine WalkN.two 4 6 (by kernel_rfl) ?_ ?_
                          · refine ⟨_, (by simp only [List.getElem?_toArray, List.getElem?_cons_succ, List.getElem?_cons_zero]; rfl), by rfl, fun K hK => ?_⟩
                            refine wp_own tabsT (.tmp 101) (.tmp 104) rfl rfl hown1 rfl (hs1.same (Same.below hE1)) (tcs_one _) (by simp [tcs_length] <;> omega) (by simp [tcs_length] <;> omega) hE1.size (fun v2 w2 hown2 hb2 hg2' => ?_)
                            have hE2 : Ext wd w2 := Below.trans hE1 hb2
                            refine hK.out _ _ hE2 ?_
                            clear hK
                            simp only [Act.put, List.setIfInBounds_toArray, List.set_cons_zero, List.set_cons_succ]
                            refine WalkN.one 6 (by kernel_rfl) ?_
                            refine ⟨_, (by simp only [List.getElem?_toArray, List.getElem?_cons_succ, List.getElem?_cons_zero]; rfl), by rfl, fun K hK => ?_⟩
                            go_simp
                            have hE3 := Below.alloc hE2 hE2.size (.cells #[.int .i64 tn, .int .i64 tl, .int .i64 ts, .string tf, .string tla] 38)
                            have hown3 := hown2.below ((Below.refl _ _).alloc (Nat.le_refl _) (.cells #[.int .i64 tn, .int .i64 tl, .int .i64 ts, .string tf, .string tla] 38))
                            have hk3 : Sl (fun _ => True) (w2.alloc (.cells #[.int .i64 tn, .int .i64 tl, .int .i64 ts, .string tf, .string tla] 38)) 5 (.slice (some ⟨w2.heap.size, 0, none⟩) 1 1) (tcs [⟨tn, tl, ts, tf, tla⟩]) := Sl.made w2 (fun _ => True) 5 1 38 #[.int .i64 tn, .int .i64 tl, .int .i64 ts, .string tf, .string tla] rfl (by decide) trivial
                            refine hK.out _ _ hE3 ?_
                            clear hK
                            refine WalkN.one 7 (by kernel_rfl) ?_
                            refine ⟨_, (by simp only [List.getElem?_toArray, List.getElem?_cons_succ, List.getElem?_cons_zero]; rfl), by rfl, fun K hK => ?_⟩
                            refine wp_own tabsT (.tmp 105) (.tmp 107) rfl rfl hown3 rfl hk3 (tcs_one _) (by simp [tcs_length] <;> omega) (by simp [tcs_length] <;> omega) hE3.size (fun v4 w4 hown4 hb4 _ => ?_)
                            have hE4 : Ext wd w4 := Below.trans hE3 hb4
                            refine hK.out _ _ hE4 ?_
                            clear hK
                            simp only [Act.put, List.setIfInBounds_toArray, List.set_cons_zero, List.set_cons_succ]
                            refine WalkN.one 11 (by kernel_rfl) ?_
                            refine ⟨_, (by simp only [List.getElem?_toArray, List.getElem?_cons_succ, List.getElem?_cons_zero]; rfl), by rfl, fun K hK => ?_⟩
                            refine wp_own tabsT (.tmp 108) (.tmp 111) rfl rfl hown4 rfl (hs2.same (Same.below hE4)) (tcs_one _) (by simp [tcs_length] <;> omega) (by simp [tcs_length] <;> omega) hE4.size (fun v5 w5 hown5 hb5 _ => ?_)
                            have hE5 : Ext wd w5 := Below.trans hE4 hb5
                            have HO5 := Lib.hid hown5
                            refine hK.out _ _ hE5 ?_
                            clear hK
                            simp only [Act.put, List.setIfInBounds_toArray, List.set_cons_zero, List.set_cons_succ]
                            clear hown3 hown4 hown5 hk3
                            ((refine WalkN.take 12 _ ?_ (by simp only [List.getElem?_toArray, List.getElem?_cons_succ, List.getElem?_cons_zero]; rfl) (by kernel_rfl) (by kernel_rfl) (by rfl) (fun W hW => ?_) ?_; rotate_left; · (go_simp; try with_reducible rfl)); simp only [Act.put, List.setIfInBounds_toArray, List.set_cons_zero, List.set_cons_succ])
                            refine WalkN.done (by kernel_rfl) ?_
                            go_wp2
                            go_roundw
                            case rel => exact ⟨i + 1, by omega, by go_num, _, HS.out, HLI.out, (HIN.out ▸ HO5.out : Own w5 wd.heap.size 38 5 v5 (tcs (insT q ⟨tn, tl, ts, tf, tla⟩))).base hbd.size, hbd.trans (Below.mono hE5 hbd.size)⟩
                            case measure => simp [intOf]; omega
                          · obtain ⟨w1, hw1⟩ : ∃ w1, w1 = wd.alloc (.cells #[] 38) := ⟨_, rfl⟩
                            rw [← hw1] at hown1 hE1 ⊢
                            have hs1' : w1.heap.size = wd.heap.size + 1 := by rw [hw1]; simp
                            have HS1 := Lib.hid hs1'
                            clear hw1 hs1'
                            refine ⟨_, (by simp only [List.getElem?_toArray, List.getElem?_cons_succ, List.getElem?_cons_zero]; rfl), by rfl, fun K hK => ?_⟩
                            go_simp
                            have hE3 := Below.alloc hE1 hE1.size (.cells #[.int .i64 tn, .int .i64 tl, .int .i64 ts, .string tf, .string tla] 38)
                            have hown3 := hown1.below ((Below.refl _ _).alloc (Nat.le_refl _) (.cells #[.int .i64 tn, .int .i64 tl, .int .i64 ts, .string tf, .string tla] 38))
                            have hk3 : Sl (fun b => b = w1.heap.size) (w1.alloc (.cells #[.int .i64 tn, .int .i64 tl, .int .i64 ts, .string tf, .string tla] 38)) 5 (.slice (some ⟨w1.heap.size, 0, none⟩) 1 1) (tcs [⟨tn, tl, ts, tf, tla⟩]) := Sl.made w1 (fun b => b = w1.heap.size) 5 1 38 #[.int .i64 tn, .int .i64 tl, .int .i64 ts, .string tf, .string tla] rfl (by decide) rfl
                            refine hK.out _ _ hE3 ?_
                            clear hK
                            refine WalkN.one 4 (by kernel_rfl) ?_
                            refine ⟨_, (by simp only [List.getElem?_toArray, List.getElem?_cons_succ, List.getElem?_cons_zero]; rfl), by rfl, fun K hK => ?_⟩
                            refine wp_own tabsT (.tmp 101) (.tmp 104) rfl rfl hown3 rfl (hs1.same (Same.below hE3)) (tcs_one _) (by simp [tcs_length] <;> omega) (by simp [tcs_length] <;> omega) hE3.size (fun v2 w2 hown2 hb2 hg2' => ?_)
                            have hE2 : Ext wd w2 := Below.trans hE3 hb2
                            have hk5 := hk3.same (w' := w2) (fun x hx => hg2'.block x (by subst hx; simp) (fun h => by subst hx; have h2 := Option.some.inj (show some w1.heap.size = some wd.heap.size from h); have := HS1.out; omega))
                            refine hK.out _ _ hE2 ?_
                            clear hK
                            simp only [Act.put, List.setIfInBounds_toArray, List.set_cons_zero, List.set_cons_succ]
                            refine WalkN.one 7 (by kernel_rfl) ?_
                            refine ⟨_, (by simp only [List.getElem?_toArray, List.getElem?_cons_succ, List.getElem?_cons_zero]; rfl), by rfl, fun K hK => ?_⟩
                            refine wp_own tabsT (.tmp 105) (.tmp 107) rfl rfl hown2 rfl hk5 (tcs_one _) (by simp [tcs_length] <;> omega) (by simp [tcs_length] <;> omega) hE2.size (fun v4 w4 hown4 hb4 _ => ?_)
                            have hE4 : Ext wd w4 := Below.trans hE2 hb4
                            refine hK.out _ _ hE4 ?_
                            clear hK
                            simp only [Act.put, List.setIfInBounds_toArray, List.set_cons_zero, List.set_cons_succ]
                            refine WalkN.one 11 (by kernel_rfl) ?_
                            refine ⟨_, (by simp only [List.getElem?_toArray, List.getElem?_cons_succ, List.getElem?_cons_zero]; rfl), by rfl, fun K hK => ?_⟩
                            refine wp_own tabsT (.tmp 108) (.tmp 111) rfl rfl hown4 rfl (hs2.same (Same.below hE4)) (tcs_one _) (by simp [tcs_length] <;> omega) (by simp [tcs_length] <;> omega) hE4.size (fun v5 w5 hown5 hb5 _ => ?_)
                            have hE5 : Ext wd w5 := Below.trans hE4 hb5
                            have HO5 := Lib.hid hown5
                            refine hK.out _ _ hE5 ?_
                            clear hK
                            simp only [Act.put, List.setIfInBounds_toArray, List.set_cons_zero, List.set_cons_succ]
                            clear hown2 hown4 hown5 hk5
                            ((refine WalkN.take 12 _ ?_ (by simp only [List.getElem?_toArray, List.getElem?_cons_succ, List.getElem?_cons_zero]; rfl) (by kernel_rfl) (by kernel_rfl) (by rfl) (fun W hW => ?_) ?_; rotate_left; · (go_simp; try with_reducible rfl)); simp only [Act.put, List.setIfInBounds_toArray, List.set_cons_zero, List.set_cons_succ])
                            refine WalkN.done (by kernel_rfl) ?_
                            go_wp2
                            go_roundw
                            case rel => exact ⟨i + 1, by omega, by go_num, _, HS.out, HLI.out, (HIN.out ▸ HO5.out : Own w5 wd.heap.size 38 5 v5 (tcs (insT q ⟨tn, tl, ts, tf, tla⟩))).base hbd.size, hbd.trans (Below.mono hE5 hbd.size)⟩
                            case measure => simp [intOf]; omega
                        · refine ⟨_, (by simp only [List.getElem?_toArray, List.getElem?_cons_succ, List.getElem?_cons_zero]; rfl), by rfl, fun K hK => ?_⟩
                          go_simp
                          have hE1 := Below.alloc hE0 (Nat.le_refl _) (.cells #[.int .i64 tn, .int .i64 tl, .int .i64 ts, .string tf, .string tla] 38)
                          have hk1 : Sl (fun b => b = wd.heap.size) (wd.alloc (.cells #[.int .i64 tn, .int .i64 tl, .int .i64 ts, .string tf, .string tla] 38)) 5 (.slice (some ⟨wd.heap.size, 0, none⟩) 1 1) (tcs [⟨tn, tl, ts, tf, tla⟩]) := Sl.made wd (fun b => b = wd.heap.size) 5 1 38 #[.int .i64 tn, .int .i64 tl, .int .i64 ts, .string tf, .string tla] rfl (by decide) rfl
                          refine hK.out _ _ hE1 ?_
                          clear hK
                          obtain ⟨w1, hw1⟩ : ∃ w1, w1 = wd.alloc (.cells #[.int .i64 tn, .int .i64 tl, .int .i64 ts, .string tf, .string tla] 38) := ⟨_, rfl⟩
                          rw [← hw1] at hk1 hE1 ⊢
                          have hs1' : w1.heap.size = wd.heap.size + 1 := by rw [hw1]; simp
                          have HS1 := Lib.hid hs1'
                          clear hw1 hs1'
                          refine WalkN.one 0 (by kernel_rfl) ?_
                          refine ⟨_, (by simp only [List.getElem?_toArray, List.getElem?_cons_zero]; rfl), by rfl, fun K hK => ?_⟩
                          go_simp
                          have hown1 : Own (w1.alloc (.cells #[] 38)) wd.heap.size 38 5 (.slice (some ⟨w1.heap.size, 0, none⟩) 0 0) [] := Own.made w1 hE1.size _ _
                          have hE3 := Below.alloc hE1 hE1.size (.cells #[] 38)
                          have hk3 := hk1.same (w' := w1.alloc (.cells #[] 38)) (fun x hx => Below.heap_alloc w1 _ x (by subst hx; have := HS1.out; omega))
                          refine hK.out _ _ hE3 ?_
                          clear hK
                          refine WalkN.one 4 (by kernel_rfl) ?_
                          refine ⟨_, (by simp only [List.getElem?_toArray, List.getElem?_cons_succ, List.getElem?_cons_zero]; rfl), by rfl, fun K hK => ?_⟩
                          refine wp_own tabsT (.tmp 101) (.tmp 104) rfl rfl hown1 rfl (hs1.same (Same.below hE3)) (tcs_one _) (by simp [tcs_length] <;> omega) (by simp [tcs_length] <;> omega) hE3.size (fun v2 w2 hown2 hb2 hg2' => ?_)
                          have hE2 : Ext wd w2 := Below.trans hE3 hb2
                          have hk5 := hk3.same (w' := w2) (fun x hx => hg2'.block x (by subst hx; have := HS1.out; simp; omega) (fun h => by subst hx; have h2 := Option.some.inj (show some wd.heap.size = some w1.heap.size from h); have := HS1.out; omega))
                          refine hK.out _ _ hE2 ?_
                          clear hK
                          simp only [Act.put, List.setIfInBounds_toArray, List.set_cons_zero, List.set_cons_succ]
                          refine WalkN.one 7 (by kernel_rfl) ?_
                          refine ⟨_, (by simp only [List.getElem?_toArray, List.getElem?_cons_succ, List.getElem?_cons_zero]; rfl), by rfl, fun K hK => ?_⟩
                          refine wp_own tabsT (.tmp 105) (.tmp 107) rfl rfl hown2 rfl hk5 (tcs_one _) (by simp [tcs_length] <;> omega) (by simp [tcs_length] <;> omega) hE2.size (fun v4 w4 hown4 hb4 _ => ?_)
                          have hE4 : Ext wd w4 := Below.trans hE2 hb4
                          refine hK.out _ _ hE4 ?_
                          clear hK
                          simp only [Act.put, List.setIfInBounds_toArray, List.set_cons_zero, List.set_cons_succ]
                          refine WalkN.one 11 (by kernel_rfl) ?_
                          refine ⟨_, (by simp only [List.getElem?_toArray, List.getElem?_cons_succ, List.getElem?_cons_zero]; rfl), by rfl, fun K hK => ?_⟩
                          refine wp_own tabsT (.tmp 108) (.tmp 111) rfl rfl hown4 rfl (hs2.same (Same.below hE4)) (tcs_one _) (by simp [tcs_length] <;> omega) (by simp [tcs_length] <;> omega) hE4.size (fun v5 w5 hown5 hb5 _ => ?_)
                          have hE5 : Ext wd w5 := Below.trans hE4 hb5
                          have HO5 := Lib.hid hown5
                          refine hK.out _ _ hE5 ?_
                          clear hK
                          simp only [Act.put, List.setIfInBounds_toArray, List.set_cons_zero, List.set_cons_succ]
                          clear hown2 hown4 hown5 hk5
                          ((refine WalkN.take 12 _ ?_ (by simp only [List.getElem?_toArray, List.getElem?_cons_succ, List.getElem?_cons_zero]; rfl) (by kernel_rfl) (by kernel_rfl) (by rfl) (fun W hW => ?_) ?_; rotate_left; · (go_simp; try with_reducible rfl)); simp only [Act.put, List.setIfInBounds_toArray, List.set_cons_zero, List.set_cons_succ])
                          refine WalkN.done (by kernel_rfl) ?_
                          go_wp2
                          go_roundw
                          case rel => exact ⟨i + 1, by omega, by go_num, _, HS.out, HLI.out, (HIN.out ▸ HO5.out : Own w5 wd.heap.size 38 5 v5 (tcs (insT q ⟨tn, tl, ts, tf, tla⟩))).base hbd.size, hbd.trans (Below.mono hE5 hbd.size)⟩
                          case measure => simp [intOf]; omega
                      · obtain ⟨off2, rfl⟩ : ∃ off2, mo = some ⟨b2, off2, none⟩ := ⟨0, by injection hmn⟩
                        clear hmn HSH
                        go_wp2_with fail
                        go_quiet (fail)
                        go_wp2_with fail
                        generalize hwn : wr.drewN _ = w4
                        have hE := hwn ▸ hE4 _
                        clear hwn hE4
                        have hT4 := hTz.below hE
                        have hS4 := HSR.out.up hE
                        have hb24 := hbR.trans (hE.mono hbR.size)
                        obtain ⟨wd, hwd⟩ : ∃ wd, wd = (w4).drew := ⟨_, rfl⟩
                        have hsd : Sl (· < wd.heap.size) wd 5 (.slice (some ⟨b2, off2, none⟩) q.length mc) (tcs q) := by rw [hwd]; exact hS4
                        have hbd : Below w2.heap.size w2 wd := by rw [hwd]; exact hb24.drew
                        have HTW : ∀ W, Ext (w4).drew W → ∀ i, W.cell? ⟨wP.heap.size, i, none⟩ = (#[Value.int .i64 tn, .int .i64 tl, .int .i64 ts, .string tf, .string tla] : Array Value)[i]? := fun W h => (hT4.drew.below h).cells
                        refine region_walkN (Ext (w4).drew) (Ext.refl _) (by kernel_rfl) (by kernel_rfl) (fun _ _ d _ _ h => by cases d <;> exact h) ?_
                        rw [← hwd] at HTW ⊢
                        clear hwd
                        ((refine WalkN.take 1 _ ?_ (by simp only [List.getElem?_toArray, List.getElem?_cons_succ, List.getElem?_cons_zero]; rfl) (by kernel_rfl) (by kernel_rfl) (by rfl) (fun W hW => ?_) ?_; rotate_left; · (go_simp; try with_reducible rfl)); simp only [Act.put, List.setIfInBounds_toArray, List.set_cons_zero, List.set_cons_succ]); ((refine WalkN.take 2 _ ?_ (by simp only [List.getElem?_toArray, List.getElem?_cons_succ, List.getElem?_cons_zero]; rfl) (by kernel_rfl) (by kernel_rfl) (by rfl) (fun W hW => ?_) ?_; rotate_left; · (go_simp; try with_reducible rfl)); simp only [Act.put, List.setIfInBounds_toArray, List.set_cons_zero, List.set_cons_succ]); ((refine WalkN.take 3 _ ?_ (by simp only [List.getElem?_toArray, List.getElem?_cons_succ, List.getElem?_cons_zero]; rfl) (by kernel_rfl) (by kernel_rfl) (by rfl) (fun W hW => ?_) ?_; rotate_left; · (go_simp; try with_reducible rfl)); simp only [Act.put, List.setIfInBounds_toArray, List.set_cons_zero, List.set_cons_succ]); ((refine WalkN.take 5 _ ?_ (by simp only [List.getElem?_toArray, List.getElem?_cons_succ, List.getElem?_cons_zero]; rfl) (by kernel_rfl) (by kernel_rfl) (by rfl) (fun W hW => ?_) ?_; rotate_left; · (go_simp; try with_reducible rfl)); simp only [Act.put, List.setIfInBounds_toArray, List.set_cons_zero, List.set_cons_succ]); ((refine WalkN.take 8 _ ?_ (by simp only [List.getElem?_toArray, List.getElem?_cons_succ, List.getElem?_cons_zero]; rfl) (by kernel_rfl) (by kernel_rfl) (by rfl) (fun W hW => ?_) ?_; rotate_left; · (go_simp; try with_reducible rfl)); simp only [Act.put, List.setIfInBounds_toArray, List.set_cons_zero, List.set_cons_succ]); ((refine WalkN.take 9 _ ?_ (by simp only [List.getElem?_toArray, List.getElem?_cons_succ, List.getElem?_cons_zero]; rfl) (by kernel_rfl) (by kernel_rfl) (by rfl) (fun W hW => ?_) ?_; rotate_left; · (go_simp; try with_reducible rfl)); simp only [Act.put, List.setIfInBounds_toArray, List.set_cons_zero, List.set_cons_succ]); ((refine WalkN.take 10 _ ?_ (by simp only [List.getElem?_toArray, List.getElem?_cons_succ, List.getElem?_cons_zero]; rfl) (by kernel_rfl) (by kernel_rfl) (by rfl) (fun W hW => ?_) ?_; rotate_left; · (go_simp; try with_reducible rfl)); simp only [Act.put, List.setIfInBounds_toArray, List.set_cons_zero, List.set_cons_succ])
                        clear HTW
                        have hE0 : Ext wd wd := Ext.refl _
                        have hs1 : Sl (· < wd.heap.size) wd 5 (.slice (some ⟨b2, off2, none⟩) q.length mc) (tcs (q.take q.length)) := by
                          have := hsd.take q.length (by omega)
                          rwa [tcs_take] at this
                        have hs2 : Sl (· < wd.heap.size) wd 5 (.slice (if mc = q.length then (some ⟨b2, off2, none⟩) else (some ⟨b2, off2 + q.length * 5, none⟩)) 0 (mc - q.length)) (tcs (q.drop q.length)) := by
                          have := hsd.tailK (ao' := if mc = q.length then (some ⟨b2, off2, none⟩) else (some ⟨b2, off2 + q.length * 5, none⟩)) q.length (by omega) (fun h => by rw [if_neg h]; simp [Addr.add_lit])
                          rwa [tcs_drop, Nat.sub_self] at this
                        have hl1 : (q.take q.length).length ≤ 2000 := by rw [List.length_take]; omega
                        have hl2 : (q.drop q.length).length ≤ 2000 := by rw [List.length_drop]; omega
                        clear hsd
                        refine WalkN.two 0 6 (by kernel_rfl) ?_ ?_
                        · refine ⟨_, (by simp only [List.getElem?_toArray, List.getElem?_cons_zero]; rfl), by rfl, fun K hK => ?_⟩
                          go_simp
                          have hown1 : Own (wd.alloc (.cells #[] 38)) wd.heap.size 38 5 (.slice (some ⟨wd.heap.size, 0, none⟩) 0 0) [] := Own.made wd (Nat.le_refl _) _ _
                          have hE1 := Below.alloc hE0 (Nat.le_refl _) (.cells #[] 38)
                          refine hK.out _ _ hE1 ?_
                          clear hK
                          refine WalkN.two 4 6 (by kernel_rfl) ?_ ?_
                          · refine ⟨_, (by simp only [List.getElem?_toArray, List.getElem?_cons_succ, List.getElem?_cons_zero]; rfl), by rfl, fun K hK => ?_⟩
                            refine wp_own tabsT (.tmp 101) (.tmp 104) rfl rfl hown1 rfl (hs1.same (Same.below hE1)) (tcs_one _) (by simp [tcs_length] <;> omega) (by simp [tcs_length] <;> omega) hE1.size (fun v2 w2 hown2 hb2 hg2' => ?_)
                            have hE2 : Ext wd w2 := Below.trans hE1 hb2
                            refine hK.out _ _ hE2 ?_
                            clear hK
                            simp only [Act.put, List.setIfInBounds_toArray, List.set_cons_zero, List.set_cons_succ]
                            refine WalkN.one 6 (by kernel_rfl) ?_
                            refine ⟨_, (by simp only [List.getElem?_toArray, List.getElem?_cons_succ, List.getElem?_cons_zero]; rfl), by rfl, fun K hK => ?_⟩
                            go_simp
                            have hE3 := Below.alloc hE2 hE2.size (.cells #[.int .i64 tn, .int .i64 tl, .int .i64 ts, .string tf, .string tla] 38)
                            have hown3 := hown2.below ((Below.refl _ _).alloc (Nat.le_refl _) (.cells #[.int .i64 tn, .int .i64 tl, .int .i64 ts, .string tf, .string tla] 38))
                            have hk3 : Sl (fun _ => True) (w2.alloc (.cells #[.int .i64 tn, .int .i64 tl, .int .i64 ts, .string tf, .string tla] 38)) 5 (.slice (some ⟨w2.heap.size, 0, none⟩) 1 1) (tcs [⟨tn, tl, ts, tf, tla⟩]) := Sl.made w2 (fun _ => True) 5 1 38 #[.int .i64 tn, .int .i64 tl, .int .i64 ts, .string tf, .string tla] rfl (by decide) trivial
                            refine hK.out _ _ hE3 ?_
                            clear hK
                            refine WalkN.one 7 (by kernel_rfl) ?_
                            refine ⟨_, (by simp only [List.getElem?_toArray, List.getElem?_cons_succ, List.getElem?_cons_zero]; rfl), by rfl, fun K hK => ?_⟩
                            refine wp_own tabsT (.tmp 105) (.tmp 107) rfl rfl hown3 rfl hk3 (tcs_one _) (by simp [tcs_length] <;> omega) (by simp [tcs_length] <;> omega) hE3.size (fun v4 w4 hown4 hb4 _ => ?_)
                            have hE4 : Ext wd w4 := Below.trans hE3 hb4
                            refine hK.out _ _ hE4 ?_
                            clear hK
                            simp only [Act.put, List.setIfInBounds_toArray, List.set_cons_zero, List.set_cons_succ]
                            refine WalkN.one 11 (by kernel_rfl) ?_
                            refine ⟨_, (by simp only [List.getElem?_toArray, List.getElem?_cons_succ, List.getElem?_cons_zero]; rfl), by rfl, fun K hK => ?_⟩
                            refine wp_own tabsT (.tmp 108) (.tmp 111) rfl rfl hown4 rfl (hs2.same (Same.below hE4)) (tcs_one _) (by simp [tcs_length] <;> omega) (by simp [tcs_length] <;> omega) hE4.size (fun v5 w5 hown5 hb5 _ => ?_)
                            have hE5 : Ext wd w5 := Below.trans hE4 hb5
                            have HO5 := Lib.hid hown5
                            refine hK.out _ _ hE5 ?_
                            clear hK
                            simp only [Act.put, List.setIfInBounds_toArray, List.set_cons_zero, List.set_cons_succ]
                            clear hown3 hown4 hown5 hk3
                            ((refine WalkN.take 12 _ ?_ (by simp only [List.getElem?_toArray, List.getElem?_cons_succ, List.getElem?_cons_zero]; rfl) (by kernel_rfl) (by kernel_rfl) (by rfl) (fun W hW => ?_) ?_; rotate_left; · (go_simp; try with_reducible rfl)); simp only [Act.put, List.setIfInBounds_toArray, List.set_cons_zero, List.set_cons_succ])
                            refine WalkN.done (by kernel_rfl) ?_
                            go_wp2
                            go_roundw
                            case rel => exact ⟨i + 1, by omega, by go_num, _, HS.out, HLI.out, (HIN.out ▸ HO5.out : Own w5 wd.heap.size 38 5 v5 (tcs (insT q ⟨tn, tl, ts, tf, tla⟩))).base hbd.size, hbd.trans (Below.mono hE5 hbd.size)⟩
                            case measure => simp [intOf]; omega
                          · obtain ⟨w1, hw1⟩ : ∃ w1, w1 = wd.alloc (.cells #[] 38) := ⟨_, rfl⟩
                            rw [← hw1] at hown1 hE1 ⊢
                            have hs1' : w1.heap.size = wd.heap.size + 1 := by rw [hw1]; simp
                            have HS1 := Lib.hid hs1'
                            clear hw1 hs1'
                            refine ⟨_, (by simp only [List.getElem?_toArray, List.getElem?_cons_succ, List.getElem?_cons_zero]; rfl), by rfl, fun K hK => ?_⟩
                            go_simp
                            have hE3 := Below.alloc hE1 hE1.size (.cells #[.int .i64 tn, .int .i64 tl, .int .i64 ts, .string tf, .string tla] 38)
                            have hown3 := hown1.below ((Below.refl _ _).alloc (Nat.le_refl _) (.cells #[.int .i64 tn, .int .i64 tl, .int .i64 ts, .string tf, .string tla] 38))
                            have hk3 : Sl (fun b => b = w1.heap.size) (w1.alloc (.cells #[.int .i64 tn, .int .i64 tl, .int .i64 ts, .string tf, .string tla] 38)) 5 (.slice (some ⟨w1.heap.size, 0, none⟩) 1 1) (tcs [⟨tn, tl, ts, tf, tla⟩]) := Sl.made w1 (fun b => b = w1.heap.size) 5 1 38 #[.int .i64 tn, .int .i64 tl, .int .i64 ts, .string tf, .string tla] rfl (by decide) rfl
                            refine hK.out _ _ hE3 ?_
                            clear hK
                            refine WalkN.one 4 (by kernel_rfl) ?_
                            refine ⟨_, (by simp only [List.getElem?_toArray, List.getElem?_cons_succ, List.getElem?_cons_zero]; rfl), by rfl, fun K hK => ?_⟩
                            refine wp_own tabsT (.tmp 101) (.tmp 104) rfl rfl hown3 rfl (hs1.same (Same.below hE3)) (tcs_one _) (by simp [tcs_length] <;> omega) (by simp [tcs_length] <;> omega) hE3.size (fun v2 w2 hown2 hb2 hg2' => ?_)
                            have hE2 : Ext wd w2 := Below.trans hE3 hb2
                            have hk5 := hk3.same (w' := w2) (fun x hx => hg2'.block x (by subst hx; simp) (fun h => by subst hx; have h2 := Option.some.inj (show some w1.heap.size = some wd.heap.size from h); have := HS1.out; omega))
                            refine hK.out _ _ hE2 ?_
                            clear hK
                            simp only [Act.put, List.setIfInBounds_toArray, List.set_cons_zero, List.set_cons_succ]
                            refine WalkN.one 7 (by kernel_rfl) ?_
                            refine ⟨_, (by simp only [List.getElem?_toArray, List.getElem?_cons_succ, List.getElem?_cons_zero]; rfl), by rfl, fun K hK => ?_⟩
                            refine wp_own tabsT (.tmp 105) (.tmp 107) rfl rfl hown2 rfl hk5 (tcs_one _) (by simp [tcs_length] <;> omega) (by simp [tcs_length] <;> omega) hE2.size (fun v4 w4 hown4 hb4 _ => ?_)
                            have hE4 : Ext wd w4 := Below.trans hE2 hb4
                            refine hK.out _ _ hE4 ?_
                            clear hK
                            simp only [Act.put, List.setIfInBounds_toArray, List.set_cons_zero, List.set_cons_succ]
                            refine WalkN.one 11 (by kernel_rfl) ?_
                            refine ⟨_, (by simp only [List.getElem?_toArray, List.getElem?_cons_succ, List.getElem?_cons_zero]; rfl), by rfl, fun K hK => ?_⟩
                            refine wp_own tabsT (.tmp 108) (.tmp 111) rfl rfl hown4 rfl (hs2.same (Same.below hE4)) (tcs_one _) (by simp [tcs_length] <;> omega) (by simp [tcs_length] <;> omega) hE4.size (fun v5 w5 hown5 hb5 _ => ?_)
                            have hE5 : Ext wd w5 := Below.trans hE4 hb5
                            have HO5 := Lib.hid hown5
                            refine hK.out _ _ hE5 ?_
                            clear hK
                            simp only [Act.put, List.setIfInBounds_toArray, List.set_cons_zero, List.set_cons_succ]
                            clear hown2 hown4 hown5 hk5
                            ((refine WalkN.take 12 _ ?_ (by simp only [List.getElem?_toArray, List.getElem?_cons_succ, List.getElem?_cons_zero]; rfl) (by kernel_rfl) (by kernel_rfl) (by rfl) (fun W hW => ?_) ?_; rotate_left; · (go_simp; try with_reducible rfl)); simp only [Act.put, List.setIfInBounds_toArray, List.set_cons_zero, List.set_cons_succ])
                            refine WalkN.done (by kernel_rfl) ?_
                            go_wp2
                            go_roundw
                            case rel => exact ⟨i + 1, by omega, by go_num, _, HS.out, HLI.out, (HIN.out ▸ HO5.out : Own w5 wd.heap.size 38 5 v5 (tcs (insT q ⟨tn, tl, ts, tf, tla⟩))).base hbd.size, hbd.trans (Below.mono hE5 hbd.size)⟩
                            case measure => simp [intOf]; omega
                        · refine ⟨_, (by simp only [List.getElem?_toArray, List.getElem?_cons_succ, List.getElem?_cons_zero]; rfl), by rfl, fun K hK => ?_⟩
                          go_simp
                          have hE1 := Below.alloc hE0 (Nat.le_refl _) (.cells #[.int .i64 tn, .int .i64 tl, .int .i64 ts, .string tf, .string tla] 38)
                          have hk1 : Sl (fun b => b = wd.heap.size) (wd.alloc (.cells #[.int .i64 tn, .int .i64 tl, .int .i64 ts, .string tf, .string tla] 38)) 5 (.slice (some ⟨wd.heap.size, 0, none⟩) 1 1) (tcs [⟨tn, tl, ts, tf, tla⟩]) := Sl.made wd (fun b => b = wd.heap.size) 5 1 38 #[.int .i64 tn, .int .i64 tl, .int .i64 ts, .string tf, .string tla] rfl (by decide) rfl
                          refine hK.out _ _ hE1 ?_
                          clear hK
                          obtain ⟨w1, hw1⟩ : ∃ w1, w1 = wd.alloc (.cells #[.int .i64 tn, .int .i64 tl, .int .i64 ts, .string tf, .string tla] 38) := ⟨_, rfl⟩
                          rw [← hw1] at hk1 hE1 ⊢
                          have hs1' : w1.heap.size = wd.heap.size + 1 := by rw [hw1]; simp
                          have HS1 := Lib.hid hs1'
                          clear hw1 hs1'
                          refine WalkN.one 0 (by kernel_rfl) ?_
                          refine ⟨_, (by simp only [List.getElem?_toArray, List.getElem?_cons_zero]; rfl), by rfl, fun K hK => ?_⟩
                          go_simp
                          have hown1 : Own (w1.alloc (.cells #[] 38)) wd.heap.size 38 5 (.slice (some ⟨w1.heap.size, 0, none⟩) 0 0) [] := Own.made w1 hE1.size _ _
                          have hE3 := Below.alloc hE1 hE1.size (.cells #[] 38)
                          have hk3 := hk1.same (w' := w1.alloc (.cells #[] 38)) (fun x hx => Below.heap_alloc w1 _ x (by subst hx; have := HS1.out; omega))
                          refine hK.out _ _ hE3 ?_
                          clear hK
                          refine WalkN.one 4 (by kernel_rfl) ?_
                          refine ⟨_, (by simp only [List.getElem?_toArray, List.getElem?_cons_succ, List.getElem?_cons_zero]; rfl), by rfl, fun K hK => ?_⟩
                          refine wp_own tabsT (.tmp 101) (.tmp 104) rfl rfl hown1 rfl (hs1.same (Same.below hE3)) (tcs_one _) (by simp [tcs_length] <;> omega) (by simp [tcs_length] <;> omega) hE3.size (fun v2 w2 hown2 hb2 hg2' => ?_)
                          have hE2 : Ext wd w2 := Below.trans hE3 hb2
                          have hk5 := hk3.same (w' := w2) (fun x hx => hg2'.block x (by subst hx; have := HS1.out; simp; omega) (fun h => by subst hx; have h2 := Option.some.inj (show some wd.heap.size = some w1.heap.size from h); have := HS1.out; omega))
                          refine hK.out _ _ hE2 ?_
                          clear hK
                          simp only [Act.put, List.setIfInBounds_toArray, List.set_cons_zero, List.set_cons_succ]
                          refine WalkN.one 7 (by kernel_rfl) ?_
                          refine ⟨_, (by simp only [List.getElem?_toArray, List.getElem?_cons_succ, List.getElem?_cons_zero]; rfl), by rfl, fun K hK => ?_⟩
                          refine wp_own tabsT (.tmp 105) (.tmp 107) rfl rfl hown2 rfl hk5 (tcs_one _) (by simp [tcs_length] <;> omega) (by simp [tcs_length] <;> omega) hE2.size (fun v4 w4 hown4 hb4 _ => ?_)
                          have hE4 : Ext wd w4 := Below.trans hE2 hb4
                          refine hK.out _ _ hE4 ?_
                          clear hK
                          simp only [Act.put, List.setIfInBounds_toArray, List.set_cons_zero, List.set_cons_succ]
                          refine WalkN.one 11 (by kernel_rfl) ?_
                          refine ⟨_, (by simp only [List.getElem?_toArray, List.getElem?_cons_succ, List.getElem?_cons_zero]; rfl), by rfl, fun K hK => ?_⟩
                          refine wp_own tabsT (.tmp 108) (.tmp 111) rfl rfl hown4 rfl (hs2.same (Same.below hE4)) (tcs_one _) (by simp [tcs_length] <;> omega) (by simp [tcs_length] <;> omega) hE4.size (fun v5 w5 hown5 hb5 _ => ?_)
                          have hE5 : Ext wd w5 := Below.trans hE4 hb5
                          have HO5 := Lib.hid hown5
                          refine hK.out _ _ hE5 ?_
                          clear hK
                          simp only [Act.put, List.setIfInBounds_toArray, List.set_cons_zero, List.set_cons_succ]
                          clear hown2 hown4 hown5 hk5
                          ((refine WalkN.take 12 _ ?_ (by simp only [List.getElem?_toArray, List.getElem?_cons_succ, List.getElem?_cons_zero]; rfl) (by kernel_rfl) (by kernel_rfl) (by rfl) (fun W hW => ?_) ?_; rotate_left; · (go_simp; try with_reducible rfl)); simp only [Act.put, List.setIfInBounds_toArray, List.set_cons_zero, List.set_cons_succ])
                          refine WalkN.done (by kernel_rfl) ?_
                          go_wp2
                          go_roundw
                          case rel => exact ⟨i + 1, by omega, by go_num, _, HS.out, HLI.out, (HIN.out ▸ HO5.out : Own w5 wd.heap.size 38 5 v5 (tcs (insT q ⟨tn, tl, ts, tf, tla⟩))).base hbd.size, hbd.trans (Below.mono hE5 hbd.size)⟩
                          case measure => simp [intOf]; omega
            · obtain rfl : i = add.length := by omega
              have HQ2 := HQ.out
              rw [List.take_length] at HQ2
              have HR := AO q HQ2
              obtain ⟨mf, hmf⟩ : ∃ mf : Nat, max (fl : Int) (efl : Int) = mf := ⟨max fl efl, by omega⟩
              obtain ⟨mh, hmh⟩ : ∃ mh : Nat, max (hd' : Int) (ehd : Int) = mh := ⟨max hd' ehd, by omega⟩
              have HMF := Lib.hid (show max fl efl = mf from by omega)
              have HMH := Lib.hid (show max hd' ehd = mh from by omega)
              obtain ⟨qo, qc, rfl, _, _, _⟩ := hown.slU.tabs
              have hownA := hown.below ((Below.refl _ _).alloc (Nat.le_refl _) (.cells #[.slice qo q.length qc, .int .u64 mf, .int .u64 mh, .int .i64 (max lg elg), .int .i64 (max nx enx)] 25))
              have hbA := hbel.alloc hbel.size (.cells #[.slice qo q.length qc, .int .u64 mf, .int .u64 mh, .int .i64 (max lg elg), .int .i64 (max nx enx)] 25)
              have hBA := Blk.made wr #[.slice qo q.length qc, .int .u64 mf, .int .u64 mh, .int .i64 (max lg elg), .int .i64 (max nx enx)] 25
              have hcBA := hBA.cells
              have hc1M := H1.out _ hbel
              have hc2M := H2.out _ hbel
              have hck := refCheck_any (.slice qo q.length qc) ⟨q, mf, mh, max lg elg, max nx enx⟩ _ hownA.slU
              unfold vV at hck
              dsimp only at hck
              have HCK := Lib.hid hck
              have hRR := HR.out
              unfold outOf at hRR
              dsimp only at hRR
              rw [HMF.out, HMH.out] at hRR
              have HS := Lib.hid hownA.sl
              obtain ⟨wP, hwP⟩ : ∃ wP : World, wP = wr := ⟨_, rfl⟩
              subst hwP
              clear HQ HQ2 HAF HAC HR hown hownA hck
              rcases chkN_cases ⟨q, mf, mh, max lg elg, max nx enx⟩ with h0 | h0
              · have hck := HCK.out
                rw [h0] at hck
                rw [if_neg (by rw [h0]; decide)] at hRR
                have HA := Lib.hid hRR
                clear hRR h0 HCK
                go_wp2_with fail
                refine hck.mono ?_
                rintro e w8 ⟨rfl, hb8⟩
                have hcB8 := (hBA.below hb8).cells
                have hb28 := hbA.trans (hb8.mono hbA.size)
                have h3 := H3.out _ hb28
                have hc3 := h3.cells
                have hf3 := h3.free
                have HBW := HBW2.trans (hb28.mono (by omega))
                go_wp2
                refine bodyPost_ret (v := .tuple #[vV (.slice qo q.length qc) ⟨q, mf, mh, max lg elg, max nx enx⟩, .int .i64 0]) (by simp [results, Try.results10, go_sem, hc3]) rfl ?_
                rw [HA.out]
                refine ⟨_, rfl, ?_, ?_⟩
                · refine (HS.out.same (fun b hb => ?_)).mono fun b hb => ?_
                  · have hne : b ≠ w.heap.size + 1 + 1 := by have := hb.1; omega
                    exact (set5_block hne).trans (hb8.block b hb.2)
                  · simp
                    exact Nat.lt_of_lt_of_le hb.2 hb8.size
                · repeat (first | with_reducible exact HBW | with_reducible refine setUp ?_ (by omega) _)
              · have hck := HCK.out
                rw [h0] at hck
                rw [if_pos (by rw [h0]; decide)] at hRR
                have HA := Lib.hid hRR
                clear hRR h0 HCK
                go_wp2_with fail
                refine hck.mono ?_
                rintro e w8 ⟨rfl, hb8⟩
                have hb28 := hbA.trans (hb8.mono hbA.size)
                have h3 := H3.out _ hb28
                have hc3 := h3.cells
                have hf3 := h3.free
                have HBW := HBW2.trans (hb28.mono (by omega))
                go_wp2
                refine bodyPost_ret (v := .tuple #[vV (.slice none 0 0) ⟨[], 0, 0, 0, 0⟩, .int .i64 11]) (by simp [results, Try.results10, go_sem, hc3]) rfl ?_
                rw [HA.out]
                refine ⟨_, rfl, Sl.nil _ _ _, ?_⟩
                repeat (first | with_reducible exact HBW | with_reducible refine setUp ?_ (by omega) _)
  · have HA := A9 hc
    have HC := Lib.hid hc
    clear A9 A1 A4 A3 AO hc
    rw [HC.out] at HCK
    go_enter Try.func10, Try.ntmps10
    go_wp2_with fail
    refine HCK.out.mono ?_
    rintro e w1 ⟨rfl, hb1⟩
    have h3 := hB3.below hb1
    have hc3 := h3.cells
    have hf3 := h3.free
    go_wp2
    have HBW : Below w.heap.size w w1 := hw0.trans (hb1.mono (by simp <;> omega))
    refine bodyPost_ret (v := .tuple #[vV (.slice none 0 0) ⟨[], 0, 0, 0, 0⟩, .int .i64 9]) (by simp [results, Try.results10, go_sem, hc3]) rfl ?_
    rw [HA.out]
    refine ⟨_, rfl, Sl.nil _ _ _, ?_⟩
    repeat (first | with_reducible exact HBW | with_reducible refine setUp ?_ (by omega) _)

end Go.Proofs.Ytkllfdfipkcddaa
