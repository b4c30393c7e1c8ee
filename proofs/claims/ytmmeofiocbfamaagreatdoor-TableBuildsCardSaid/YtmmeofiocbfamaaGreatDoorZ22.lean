/- slices.ContainsFunc at texts; the table's odd keys; slices.IsSorted at texts. slices.Clone and slices.Compact at texts; when keys rise. What a table's bytes are: the plain definition and its bounds. No condition: lemmas. -/
import Derived.Test.YtmmeofiocbfamaaGreatDoorZ17
import Derived.Test.YtmmeofiocbfamaaGreatDoorZ6
import Derived.Test.YtmmeofiocbfamaaGreatDoorZ21
import Derived.Test.YtmmeofiocbfamaaGreatDoorZ4
namespace Go.Proofs.YtmmeofiocbfamaaGreatDoor
open Go Go.RowKit

theorem scs_at {S : Nat → Prop} {w : World} {ao : Option Addr} {l : List ByteArray} {c : Nat} (h : Sl S w 1 (.slice ao l.length c) (sc l)) : ∀ i (hi : i < l.length), ∃ b off, ao = some ⟨b, off, none⟩ ∧ S b ∧ w.cell? ⟨b, off + i, none⟩ = some (.string l[i]) := by
  obtain ⟨ao', n', c', hv, h1, h2, h3, h4, h5⟩ := h
  cases hv
  intro i hi
  obtain ⟨b, off, rfl, hb, hc⟩ := h5 (fun e => by have := congrArg List.length e; rw [sc_len2] at this; simp only [List.length_nil] at this; omega)
  exact ⟨b, off, rfl, hb, hc i _ (by simp [sc, hi])⟩
theorem uptoS_succ {n i : Nat} {p : (j : Nat) → j < n → Prop} (h : ∀ j (hj : j < n), j < i → p j hj) (hlt : i < n) (h2 : p i hlt) : ∀ j (hj : j < n), j < i + 1 → p j hj := fun j hj h' => by
  rcases Nat.lt_succ_iff_lt_or_eq.1 h' with h3 | rfl
  · exact h j hj h3
  · exact h2

set_option maxRecDepth 100000 in
set_option maxHeartbeats 2000000 in
theorem indexTS_any (w : World) (ps : List ByteArray) (pv : Value) (g : Nat) (cap : Array Value) (eg : ∀ args W, (callFunc g args).run Tryz.prog W = .ok (.enter g args) W) (q : ByteArray → Bool) (hat : Sl (· < w.heap.size) w 1 pv (sc ps)) (hf : ∀ i (hi : i < ps.length) W, Below w.heap.size w W → Calls Tryz.prog g (#[.string ps[i]] ++ cap) W fun e W' => e = .returned (.bool (q ps[i])) ∧ Below W.heap.size W W') :
    Calls Tryz.prog 54 #[pv, .func (.func g) #[] cap] w fun e w' => ∃ k : Int, e = .returned (.int .i64 k) ∧ (0 ≤ k ↔ ps.any q = true) ∧ Below w.heap.size w w' := by
  obtain ⟨ao, n, c, rfl, hn, hlc, hcm⟩ := hat.len
  rw [sc_len2, Nat.mul_one] at hn
  subst hn
  have HC := Lib.hid (scs_at hat)
  have HF := Lib.hid hf
  clear hat hf
  go_enter Tryz.func54, Tryz.ntmps54
  go_wp2_with fail
  go_loopw [5, 8] (fun _ ii wr => ∃ i : Nat, i ≤ ps.length ∧ ii = .int .i64 i ∧ (∀ j (hj : j < ps.length), j < i → q ps[j] = false) ∧ Below w.heap.size w wr) (fun _ ii _ => ps.length - (intOf ii).toNat)
  case atStart => exact ⟨0, by omega, rfl, fun _ _ h => absurd h (by omega), Below.refl _ _⟩
  case round =>
    obtain ⟨i, hi, rfl, hall, hbel⟩ := hrel
    have HALL := Lib.hid hall
    clear hall
    by_cases hlt : i < ps.length
    · have HUP := Lib.hid (fun h => uptoS_succ (p := fun j hj => q ps[j] = false) HALL.out hlt h)
      have HAN := Lib.hid (fun (h : q ps[i] = true) => (show ps.any q = true from List.any_eq_true.2 ⟨_, List.getElem_mem hlt, h⟩))
      obtain ⟨bb, off, hbo, hb, c0⟩ := HC.out i hlt
      cases hbo
      have d0 := (hbel.cell (p := ⟨bb, off + i, none⟩) hb).trans c0
      have HR := Lib.hid (HF.out i hlt wr hbel)
      clear c0 hb
      generalize ps[i] = p at *
      have HB := Lib.hid hbel
      clear hbel
      cases hq : q p with
      | true =>
        rw [hq] at HR
        have HT := Lib.hid (HAN.out hq)
        clear HUP HAN hq
        go_wp2_with fail
        refine HR.out.mono ?_
        rintro e w5 ⟨rfl, hb5⟩
        have HBE := Lib.hid (HB.out.trans (hb5.mono HB.out.size))
        clear HR hb5 d0
        go_wp2_with fail
        go_ret
        exact ⟨_, rfl, ⟨fun _ => HT.out, fun _ => by omega⟩, HBE.out⟩
      | false =>
        rw [hq] at HR
        have HN := Lib.hid (HUP.out hq)
        clear HUP HAN hq
        go_wp2_with fail
        refine HR.out.mono ?_
        rintro e w5 ⟨rfl, hb5⟩
        have HBE := Lib.hid (HB.out.trans (hb5.mono HB.out.size))
        clear HR hb5 d0
        go_wp2_with fail
        go_roundw
        case rel => exact ⟨i + 1, by omega, by go_num, HN.out, HBE.out⟩
        case measure => simp [intOf]; omega
    · obtain rfl : i = ps.length := by omega
      have HN := Lib.hid (show ¬ ps.any q = true from fun h => by
        obtain ⟨x, hx, hq⟩ := List.any_eq_true.1 h
        obtain ⟨j, hj, rfl⟩ := List.getElem_of_mem hx
        rw [HALL.out j hj hj] at hq
        cases hq)
      have HB := Lib.hid hbel
      clear hbel
      go_wp2_with fail
      go_ret
      exact ⟨_, rfl, ⟨fun h => absurd h (by omega), fun h => absurd h HN.out⟩, HB.out⟩

set_option maxRecDepth 100000 in
set_option maxHeartbeats 2000000 in
theorem containsTS_any (w : World) (ps : List ByteArray) (pv : Value) (g : Nat) (cap : Array Value) (eg : ∀ args W, (callFunc g args).run Tryz.prog W = .ok (.enter g args) W) (q : ByteArray → Bool) (hat : Sl (· < w.heap.size) w 1 pv (sc ps)) (hf : ∀ i (hi : i < ps.length) W, Below w.heap.size w W → Calls Tryz.prog g (#[.string ps[i]] ++ cap) W fun e W' => e = .returned (.bool (q ps[i])) ∧ Below W.heap.size W W') :
    Calls Tryz.prog 24 #[pv, .func (.func g) #[] cap] w fun e w' => e = .returned (.bool (ps.any q)) ∧ Below w.heap.size w w' := by
  have HI := Lib.hid (indexTS_any w ps pv g cap eg q hat hf)
  clear hat hf
  go_enter Tryz.func24, Tryz.ntmps24
  go_wp2_with fail
  refine HI.out.mono ?_
  rintro e w2 ⟨k, rfl, hk, hb⟩
  have HK := Lib.hid hk
  have HB := Lib.hid hb
  clear HI hk hb
  by_cases h0 : 0 ≤ k
  · have HM := Lib.hid (HK.out.1 h0)
    go_wp2_with fail
    go_ret
    exact ⟨by rw [HM.out]; simp [h0], HB.out⟩
  · have HM := Lib.hid (show ps.any q = false from by cases h : ps.any q with | false => rfl | true => exact absurd (HK.out.2 h) h0)
    go_wp2_with fail
    go_ret
    exact ⟨by rw [HM.out]; simp [h0], HB.out⟩


set_option maxRecDepth 100000 in
set_option maxHeartbeats 400000 in
theorem odd_any (k : ByteArray) (w : World) (henv : Env w) (hk : k.size ≤ 100000000) :
    Calls Tryz.prog 22 #[.string k] w fun e w' => e = .returned (.bool (outerS k.data.toList).isNone) ∧ Below w.heap.size w w' := by
  have HO := Lib.hid (outer_any k w henv hk)
  generalize outerS k.data.toList = o at *
  cases o with
  | none =>
    go_enter Tryz.func22, Tryz.ntmps22
    go_wp2_with fail
    refine HO.out.mono ?_
    rintro e w1 ⟨rfl, hb⟩
    have HB := Lib.hid hb
    clear hb
    unfold outV entV
    go_wp2_with fail
    go_ret
    exact ⟨rfl, HB.out.trans (Ext.alloc _ _ |>.mono HB.out.size)⟩
  | some r =>
    obtain ⟨a, b, c⟩ := r
    go_enter Tryz.func22, Tryz.ntmps22
    go_wp2_with fail
    refine HO.out.mono ?_
    rintro e w1 ⟨rfl, hb⟩
    have HB := Lib.hid hb
    clear hb
    unfold outV entV
    go_wp2_with fail
    go_ret
    exact ⟨rfl, HB.out.trans (Ext.alloc _ _ |>.mono HB.out.size)⟩

/-- A row that does not fall. -/
def SortK (ks : List ByteArray) : Prop := ∀ j, (h : j + 1 < ks.length) → ltS ks[j + 1] ks[j] = false

set_option maxRecDepth 100000 in
set_option maxHeartbeats 400000 in
theorem sorted_strs {S : Nat → Prop} (v : Value) (l : List ByteArray) (w : World) (h : Sl S w 1 v (sc l)) (hl : l.length ≤ 1000000) (q : Bool) (hq : q = true ↔ SortK l) :
    Calls Tryz.prog 25 #[v] w fun e w' => e = .returned (.bool q) ∧ Ext w w' := by
  have HQ := Lib.hid hq
  clear hq
  obtain ⟨ao, n, c, rfl, hn, hlc, hcm⟩ := h.len
  rw [sc_len2, Nat.mul_one] at hn
  subst hn
  have HC := Lib.hid (scs_at h)
  clear h
  go_enter Tryz.func25, Tryz.ntmps25
  go_wp2_with fail
  go_loopw [3] (fun iv wr => ∃ i : Int, iv = .int .i64 i ∧ i < l.length ∧ -1 ≤ i ∧ (∀ j, (h : j + 1 < l.length) → i < (j : Int) + 1 → ltS l[j + 1] l[j] = false) ∧ Ext w wr) (fun iv _ => (intOf iv).toNat)
  case atStart => exact ⟨(l.length : Int) - 1, rfl, by omega, by omega, fun j h h2 => by omega, Ext.refl _⟩
  case round =>
    obtain ⟨i, rfl, hi1, hi2, hs, hx⟩ := hrel
    have HS := Lib.hid hs
    have HX := Lib.hid hx
    clear hs hx
    by_cases hlt : 0 < i
    · obtain ⟨m, rfl⟩ : ∃ m : Nat, i = (m : Int) + 1 := ⟨(i - 1).toNat, by omega⟩
      obtain ⟨b, off, hbo, -, c1⟩ := HC.out (m + 1) (by omega)
      obtain ⟨b', off', hbo', -, c0⟩ := HC.out m (by omega)
      subst hbo
      cases hbo'
      have HLT := Lib.hid (lessStr_any l[m + 1] l[m])
      have HST := Lib.hid (fun (e : ltS l[m + 1] l[m] = false) => show ∀ j, (h : j + 1 < l.length) → (m : Int) < (j : Int) + 1 → ltS l[j + 1] l[j] = false from fun j h h2 => by
        by_cases hj : j = m
        · subst hj; exact e
        · exact HS.out j h (by omega))
      have HBD := Lib.hid (fun (e : ltS l[m + 1] l[m] = true) => show ¬ SortK l from fun hk => by have := hk m (by omega); rw [e] at this; cases this)
      generalize l[m + 1] = x at *
      generalize l[m] = y at *
      clear HS
      go_wp2_with fail
      obtain ⟨wd, hwd⟩ : ∃ wd, wd = wr.drew := ⟨_, rfl⟩
      have HXd := Lib.hid (show Ext w wd from by rw [hwd]; exact HX.out.trans (Ext.drew wr))
      refine region_walkN (Ext wd) (by rw [← hwd]; exact Ext.refl _) (by kernel_rfl) (by kernel_rfl) (fun _ _ d _ _ h => by cases d <;> exact h) ?_
      rw [← hwd]
      clear hwd
      have g1 : ∀ W, Ext wd W → W.cell? ⟨b, off + (m + 1), none⟩ = some (.string x) := fun W h => (HXd.out.trans h).cell (a := ⟨b, off + (m + 1), none⟩) c1
      have g0 : ∀ W, Ext wd W → W.cell? ⟨b, off + m, none⟩ = some (.string y) := fun W h => (HXd.out.trans h).cell (a := ⟨b, off + m, none⟩) c0
      have h01 : (0 : Int) ≤ (m : Int) + 1 := by omega
      have hm1 : (m : Int) < (l.length : Int) := by omega
      have hw1 : IntKind.i64.wrap (m : Int) = (m : Int) := IntWalk.i64_in _ (by omega)
      clear c0 c1
      ((refine WalkN.take 0 _ ?_ (by simp only [List.getElem?_toArray, List.getElem?_cons_zero]; rfl) (by kernel_rfl) (by kernel_rfl) (by rfl) (fun W hW => ?_) ?_; rotate_left; · (go_simp; try with_reducible rfl)); simp only [Act.put, List.setIfInBounds_toArray, List.set_cons_zero, List.set_cons_succ]); ((refine WalkN.take 1 _ ?_ (by simp only [List.getElem?_toArray, List.getElem?_cons_succ, List.getElem?_cons_zero]; rfl) (by kernel_rfl) (by kernel_rfl) (by rfl) (fun W hW => ?_) ?_; rotate_left; · (go_simp; try with_reducible rfl)); simp only [Act.put, List.setIfInBounds_toArray, List.set_cons_zero, List.set_cons_succ]); ((refine WalkN.take 2 _ ?_ (by simp only [List.getElem?_toArray, List.getElem?_cons_succ, List.getElem?_cons_zero]; rfl) (by kernel_rfl) (by kernel_rfl) (by rfl) (fun W hW => ?_) ?_; rotate_left; · (go_simp; try with_reducible rfl)); simp only [Act.put, List.setIfInBounds_toArray, List.set_cons_zero, List.set_cons_succ]); ((refine WalkN.take 3 _ ?_ (by simp only [List.getElem?_toArray, List.getElem?_cons_succ, List.getElem?_cons_zero]; rfl) (by kernel_rfl) (by kernel_rfl) (by rfl) (fun W hW => ?_) ?_; rotate_left; · (go_simp; try with_reducible rfl)); simp only [Act.put, List.setIfInBounds_toArray, List.set_cons_zero, List.set_cons_succ]); ((refine WalkN.take 4 _ ?_ (by simp only [List.getElem?_toArray, List.getElem?_cons_succ, List.getElem?_cons_zero]; rfl) (by kernel_rfl) (by kernel_rfl) (by rfl) (fun W hW => ?_) ?_; rotate_left; · (go_simp; try with_reducible rfl)); simp only [Act.put, List.setIfInBounds_toArray, List.set_cons_zero, List.set_cons_succ]); ((refine WalkN.take 5 _ ?_ (by simp only [List.getElem?_toArray, List.getElem?_cons_succ, List.getElem?_cons_zero]; rfl) (by kernel_rfl) (by kernel_rfl) (by rfl) (fun W hW => ?_) ?_; rotate_left; · (go_simp; try with_reducible rfl)); simp only [Act.put, List.setIfInBounds_toArray, List.set_cons_zero, List.set_cons_succ]); ((refine WalkN.take 6 _ ?_ (by simp only [List.getElem?_toArray, List.getElem?_cons_succ, List.getElem?_cons_zero]; rfl) (by kernel_rfl) (by kernel_rfl) (by rfl) (fun W hW => ?_) ?_; rotate_left; · (go_simp; try with_reducible rfl)); simp only [Act.put, List.setIfInBounds_toArray, List.set_cons_zero, List.set_cons_succ]); ((refine WalkN.take 7 _ ?_ (by simp only [List.getElem?_toArray, List.getElem?_cons_succ, List.getElem?_cons_zero]; rfl) (by kernel_rfl) (by kernel_rfl) (by rfl) (fun W hW => ?_) ?_; rotate_left; · (go_simp; try with_reducible rfl)); simp only [Act.put, List.setIfInBounds_toArray, List.set_cons_zero, List.set_cons_succ]); ((refine WalkN.take 8 _ ?_ (by simp only [List.getElem?_toArray, List.getElem?_cons_succ, List.getElem?_cons_zero]; rfl) (by kernel_rfl) (by kernel_rfl) (by rfl) (fun W hW => ?_) ?_; rotate_left; · (go_simp; try with_reducible rfl)); simp only [Act.put, List.setIfInBounds_toArray, List.set_cons_zero, List.set_cons_succ])
      refine WalkN.one 9 (by kernel_rfl) ?_
      refine ⟨_, (by simp only [List.getElem?_toArray, List.getElem?_cons_succ, List.getElem?_cons_zero]; rfl), by rfl, fun K hK => ?_⟩
      go_simp
      refine (HLT.out wd).mono ?_
      rintro e w6 ⟨rfl, rfl⟩
      refine hK.out _ _ (Ext.refl _) ?_
      clear hK g0 g1
      refine WalkN.done (by kernel_rfl) ?_
      cases hb : ltS x y with
      | true =>
        have HB := Lib.hid (HBD.out hb)
        clear HBD HST HLT hb
        go_wp2_with fail
        go_ret
        exact ⟨by rw [show q = false from by cases hq : q with | false => rfl | true => exact absurd (HQ.out.1 hq) HB.out]; rfl, HXd.out⟩
      | false =>
        have HB := Lib.hid (HST.out hb)
        clear HBD HST HLT hb
        go_wp2_with fail
        go_roundw
        case rel => exact ⟨(m : Int), rfl, by omega, by omega, HB.out, HXd.out⟩
        case measure => simp [intOf]
    · have HT := Lib.hid (show SortK l from fun j h => HS.out j h (by omega))
      go_wp2_with fail
      go_ret
      exact ⟨by rw [HQ.out.2 HT.out]; rfl, HX.out⟩

end Go.Proofs.YtmmeofiocbfamaaGreatDoor
namespace Go.Proofs.YtmmeofiocbfamaaGreatDoor
open Go Go.RowKit

set_option maxRecDepth 100000 in
set_option maxHeartbeats 1000000 in
theorem cloneS_own {S : Nat → Prop} (v : Value) (bs : List ByteArray) (w : World) (hSw : ∀ b, S b → b < w.heap.size) (h : Sl S w 1 v (sc bs)) (hl : bs.length ≤ 1000000000) :
    Calls Tryz.prog 27 #[v] w fun e w' => ∃ v', e = .returned v' ∧ Own w' w.heap.size 9 1 v' (sc bs) ∧ Ext w w' := by
  have HS := Lib.hid h
  have HL := Lib.hid hl
  obtain ⟨ao, c, rfl, hlc, hcm, hnil, -⟩ := Sl.strs0 h
  clear h
  rcases ao with _ | ad
  · obtain rfl : c = 0 := hnil rfl
    obtain rfl : bs = [] := List.eq_nil_of_length_eq_zero (by omega)
    simp only [List.length_nil] at *
    have hq : ∀ W, (binOp BinOp.eql 22 (.slice none 0 0) (.slice none 0 0)).run Tryz.prog W = .ok (.bool true) W := fun _ => by kernel_rfl
    go_enter Tryz.func27, Tryz.ntmps27
    go_wp2_with fail
    go_ret
    exact ⟨_, rfl, Own.nil _ _ _ _, Ext.refl _⟩
  · have hq : ∀ W, (binOp BinOp.eql 22 (.slice (some ad) bs.length c) (.slice none 0 0)).run Tryz.prog W = .ok (.bool false) W := fun _ => by kernel_rfl
    have HO := Lib.hid (Own.made w (Nat.le_refl _) 9 1)
    have HX := Lib.hid (Ext.alloc w (.cells #[] 9))
    have HS1 := Lib.hid (HS.out.same (w' := w.alloc (.cells #[] 9)) ((Same.below HX.out).mono hSw))
    go_enter Tryz.func27, Tryz.ntmps27
    go_wp2_with (at_builtin; go_must (refine wpList_own strsT rfl (.tmp 5) (.tmp 6) rfl rfl HO.out rfl HS1.out (sc_one2 _) (by have := HL.out; rw [sc_len2]; simp only [List.length_nil]; omega) (by have := HL.out; rw [sc_len2]; simp only [List.length_nil]; omega) (by simp) ?_; intro v5 w5 hown5 hb5 _; have HF := Lib.hid (show Own w5 w.heap.size 9 1 v5 (sc bs) from by rw [List.nil_append] at hown5; exact hown5); have HX5 := Lib.hid (show Ext w w5 from Below.trans HX.out hb5); obtain ⟨ao5, n5, c5, rfl, -, -, -⟩ := hown5.sl.len; clear hown5 hb5))
    go_ret
    exact ⟨_, rfl, HF.out, HX5.out⟩


theorem compact_len (ks : List ByteArray) : (Lib.compact (dl ks)).length ≤ ks.length ∧ ((Lib.compact (dl ks)).length = ks.length ↔ ∀ j, (h : j + 1 < ks.length) → ks[j] ≠ ks[j + 1]) := by
  have hl : (dl ks).length = ks.length := List.length_map _
  have e : (Lib.compact (dl ks)).length = ((List.range ks.length).filter (Lib.keeps (dl ks).toArray)).length := by
    unfold Lib.compact Lib.compactUpTo
    rw [List.length_map, hl]
  rw [e]
  refine ⟨by have := List.length_filter_le (Lib.keeps (dl ks).toArray) (List.range ks.length); simpa using this, ?_⟩
  have hr : ((List.range ks.length).filter (Lib.keeps (dl ks).toArray)).length = ks.length ↔ ∀ j ∈ List.range ks.length, Lib.keeps (dl ks).toArray j = true := by
    have := List.length_filter_eq_length_iff (p := Lib.keeps (dl ks).toArray) (l := List.range ks.length)
    rwa [List.length_range] at this
  rw [hr]
  have hg : ∀ j, (h : j < ks.length) → (dl ks).toArray[j]! = ks[j].data.toList := fun j h => by
    rw [getElem!_pos _ j (by simpa [hl] using h)]
    simp [dl]
  constructor
  · intro h j hj e2
    have := h (j + 1) (List.mem_range.2 hj)
    unfold Lib.keeps at this
    simp only [Nat.add_sub_cancel, decide_eq_true_eq] at this
    rcases this with h3 | h3
    · omega
    · rw [hg (j + 1) hj, hg j (by omega), e2] at h3
      exact h3 rfl
  · intro h j hj
    have hj' := List.mem_range.1 hj
    cases j with
    | zero => rfl
    | succ j =>
      refine Lib.keeps_pos ?_
      rw [Nat.add_sub_cancel, hg (j + 1) hj', hg j (by omega)]
      exact fun e2 => h j hj' (ByteArray.ext (Array.toList_inj.1 e2)).symm
theorem upK_iff (ks : List ByteArray) : UpK ks ↔ SortK ks ∧ (Lib.compact (dl ks)).length = ks.length := by
  rw [(compact_len ks).2]
  constructor
  · intro h
    refine ⟨fun j hj => ?_, fun j hj e => ?_⟩
    · cases h2 : ltS ks[j + 1] ks[j] with
      | false => rfl
      | true => have := ltS_trans (h j hj) h2; rw [ltS_irr] at this; cases this
    · have := h j hj
      rw [e, ltS_irr] at this
      cases this
  · intro ⟨h1, h2⟩ j hj
    exact ltS_total (h1 j hj) (fun e => h2 j hj e.symm)

theorem compactS_any {B : Nat} (v : Value) (l : List ByteArray) (w : World) (h : Own w B 9 1 v (sc l)) :
    Calls Tryz.prog 26 #[v] w fun e w' => ∃ ao c, e = .returned (.slice ao (Lib.compact (dl l)).length c) ∧ Below B w w' := by
  cases l with
  | nil =>
    obtain ⟨ao, c, rfl, -, -, -, -⟩ := Sl.strs0 h.sl
    refine (Tryz.slices_Compact_string_empty ao c w).mono ?_
    rintro e w' ⟨rfl, rfl⟩
    exact ⟨ao, c, rfl, Below.refl _ _⟩
  | cons a l =>
    obtain ⟨g, c, cs, rfl, hB, hblk, hlc, hcm, hcells⟩ := h.lay (by simp [sc])
    rw [sc_len2] at hlc
    have hd : (dl (a :: l)).length = (a :: l).length := List.length_map _
    have := Tryz.slices_Compact_string g 0 c (dl (a :: l)) w (fun j hj => ?_) (by rw [hd]; unfold maxLen at hcm; omega) (by rw [hd]; exact hlc)
    · rw [hd] at this
      rw [sc_len2]
      refine this.mono ?_
      rintro e w' ⟨rfl, q, rfl⟩
      refine ⟨_, _, rfl, rfl, rfl, rfl, by simp [Sort.putRow, Sort.mapBlock, Sort.ahead], fun k hk => ?_⟩
      show (w.heap.modify g _)[k]? = _
      rw [Array.getElem?_modify, if_neg (by omega)]
    · have hj' : j < (a :: l).length := by rw [← hd]; simpa using hj
      refine ⟨?_, hblk.free _⟩
      rw [hblk.cells (0 + j), Nat.zero_add, hcells j (by rw [sc_len2]; exact hj'), getElem!_pos _ j hj]
      have : ∀ (m : List ByteArray) (h1 : j < (sc m).length) (h2 : j < (dl m).toArray.size), (sc m)[j] = Value.string ⟨((dl m).toArray[j]).toArray⟩ := fun m _ _ => by simp [sc, dl]
      exact congrArg some (this _ _ _)

end Go.Proofs.YtmmeofiocbfamaaGreatDoor
namespace Go.Proofs.YtmmeofiocbfamaaGreatDoor
open Go Go.RowKit

def ws0 : WS := ⟨[], [], [], 0, []⟩
def addsW (split : Int) (ks : List ByteArray) : WS := ks.foldl (fun s k => s.add k split) ws0
def buildW (ks : List ByteArray) (split : Int) : WS := if (addsW split ks).keys = [] then addsW split ks else (addsW split ks).ended
/-- A table's bytes. -/
def tableB (ks : List ByteArray) (split bits : Int) : List UInt8 :=
  (buildW ks split).out ++ sealB (idxB (buildW ks split).idx) ++ sealB (bloomB (dl (buildW ks split).stems) bits) ++ eightB (buildW ks split).out.length ++ eightB ((buildW ks split).out ++ sealB (idxB (buildW ks split).idx)).length ++ eightB ks.length ++ [116, 98, 108, 49]
theorem UpK.right {a b : List ByteArray} (h : UpK (a ++ b)) : UpK b := fun j hj => by
  have := h (a.length + j) (by rw [List.length_append]; omega)
  rw [List.getElem_append_right (by omega)] at this
  simp only [Nat.add_assoc] at this
  rw [List.getElem_append_right (by omega)] at this
  simpa using this
theorem UpK.left {a b : List ByteArray} (h : UpK (a ++ b)) : UpK a := fun j hj => by
  have := h j (by rw [List.length_append]; omega)
  rwa [List.getElem_append_left (by omega), List.getElem_append_left hj] at this
theorem UpK.take {a : List ByteArray} (h : UpK a) (i : Nat) : UpK (a.take i) := by
  rw [← List.take_append_drop i a] at h
  exact h.left
/-- What holds of a table that grows, behind i keys. -/
structure WInv (ks : List ByteArray) (i : Nat) (s : WS) : Prop where
  pre : ∃ p, ks.take i = p ++ s.keys
  len : s.out.length + s.keys.length * 1036 ≤ i * 1036
  idx : s.idx.length ≤ i
  stems : s.stems.length ≤ i
  size : s.size ≤ i * 1000
  places : ∀ p ∈ s.idx, p.first.size ≤ 1000 ∧ p.at_ + p.size ≤ s.out.length
  stz : ∀ k ∈ s.stems, k.size ≤ 1000
theorem WInv.start (ks : List ByteArray) : WInv ks 0 ws0 := ⟨⟨[], rfl⟩, by simp [ws0], Nat.le_refl _, Nat.le_refl _, Nat.le_refl _, (fun p hp => by cases hp), (fun p hp => by cases hp)⟩
theorem addS_len (l : List ByteArray) (x : ByteArray) : (addS l x).length ≤ l.length + 1 := by
  unfold addS
  split
  · omega
  · rw [List.length_append]; simp
theorem addS_mem {l : List ByteArray} {x y : ByteArray} (h : y ∈ addS l x) : y ∈ l ∨ y = x := by
  unfold addS at h
  split at h
  · exact .inl h
  · rcases List.mem_append.1 h with h | h
    · exact .inl h
    · exact .inr (List.mem_singleton.1 h)
theorem stemB_size (k : ByteArray) : (stemB k).size ≤ k.size := by
  unfold stemB
  rw [ByteArray.size_extract]; omega
theorem blkF_bound {ks : List ByteArray} (h : ∀ k ∈ ks, k.size ≤ 1000) : (blkF (dl ks)).length ≤ ks.length * 1024 + 4 := by
  have h1 := blkF_len (dl ks)
  have h2 := blkL_bound 1000 (by decide) 0 [] (dl ks) (Nat.zero_le _) fun x hx => by
    obtain ⟨y, hy, rfl⟩ := List.mem_map.1 hx
    rw [show y.data.toList.length = y.size from Array.length_toList]
    exact h y hy
  have h3 : (dl ks).length = ks.length := List.length_map _
  rw [h3] at h1 h2
  omega
theorem WInv.pushed {ks : List ByteArray} {i : Nat} {s : WS} (h : WInv ks i s) (hi : i < ks.length) (hk : ∀ k ∈ ks, k.size ≤ 1000) : WInv ks (i + 1) (s.pushed ks[i]) := by
  obtain ⟨⟨p, hp⟩, h2, h3, h4, h5, h6, h7⟩ := h
  have hki := hk _ (List.getElem_mem hi)
  refine ⟨⟨p, ?_⟩, ?_, ?_, ?_, ?_, h6, fun k hk' => ?_⟩
  · rw [List.take_succ_eq_append_getElem hi, hp, List.append_assoc]; rfl
  · show s.out.length + (s.keys ++ [ks[i]]).length * 1036 ≤ (i + 1) * 1036
    rw [List.length_append, List.length_singleton, Nat.add_mul, Nat.add_mul, ← Nat.add_assoc]
    exact Nat.add_le_add_right h2 _
  · exact Nat.le_succ_of_le h3
  · exact Nat.le_trans (addS_len _ _) (Nat.succ_le_succ h4)
  · exact Nat.le_trans (Nat.add_le_add h5 hki) (by omega)
  · rcases addS_mem hk' with h | rfl
    · exact h7 k h
    · exact Nat.le_trans (stemB_size _) hki
theorem WInv.ended {ks : List ByteArray} {i : Nat} {s : WS} (h : WInv ks i s) (hne : s.keys ≠ []) (hi : i ≤ ks.length) (hk : ∀ k ∈ ks, k.size ≤ 1000) (hii : s.idx.length < i) : WInv ks i s.ended := by
  obtain ⟨⟨p, hp⟩, h2, h3, h4, h5, h6, h7⟩ := h
  have hsub : ∀ k ∈ s.keys, k ∈ ks := fun k hk' => List.mem_of_mem_take (i := i) (by rw [hp]; exact List.mem_append_right _ hk')
  have hb := blkF_bound fun k hk' => hk k (hsub k hk')
  have hs := sealB_length (blkF (dl s.keys))
  have hpos : 0 < s.keys.length := List.length_pos_iff.2 hne
  refine ⟨⟨ks.take i, ?_⟩, ?_, ?_, h4, Nat.zero_le _, fun q hq => ?_, h7⟩
  · unfold WS.ended; simp
  · unfold WS.ended; simp only [List.length_append, List.length_nil]; omega
  · unfold WS.ended; simp only [List.length_append, List.length_singleton]; omega
  · have hq' : q ∈ s.idx ∨ q = ⟨s.keys.headD ⟨#[]⟩, s.out.length, (sealB (blkF (dl s.keys))).length⟩ := by
      unfold WS.ended at hq
      simpa using hq
    have e : s.ended.out.length = s.out.length + (sealB (blkF (dl s.keys))).length := by unfold WS.ended; simp
    rcases hq' with hq' | rfl
    · have := h6 q hq'; omega
    · refine ⟨?_, by rw [e]; exact Nat.le_refl _⟩
      cases hkk : s.keys with
      | nil => exact absurd hkk hne
      | cons a l => exact hk a (hsub a (by rw [hkk]; simp))
theorem WInv.idxlt {ks : List ByteArray} {i : Nat} {s : WS} (h : WInv ks i s) (hi : i < ks.length) : (s.pushed ks[i]).idx.length < i + 1 := Nat.lt_succ_of_le h.idx
theorem WInv.add {ks : List ByteArray} {i : Nat} {s : WS} (h : WInv ks i s) (hi : i < ks.length) (hk : ∀ k ∈ ks, k.size ≤ 1000) (split : Int) : WInv ks (i + 1) (s.add ks[i] split) := by
  unfold WS.add
  split
  · exact (h.pushed hi hk).ended (by unfold WS.pushed; simp) hi hk (h.idxlt hi)
  · exact h.pushed hi hk
theorem addsW_take (split : Int) (ks : List ByteArray) (i : Nat) (hi : i < ks.length) : addsW split (ks.take (i + 1)) = (addsW split (ks.take i)).add ks[i] split := by
  unfold addsW
  rw [List.take_succ_eq_append_getElem hi, List.foldl_append]
  rfl
theorem WInv.adds {ks : List ByteArray} (hk : ∀ k ∈ ks, k.size ≤ 1000) (split : Int) : ∀ i, i ≤ ks.length → WInv ks i (addsW split (ks.take i))
  | 0, _ => by rw [List.take_zero]; exact WInv.start ks
  | i + 1, h => by rw [addsW_take split ks i h]; exact (WInv.adds hk split i (by omega)).add h hk split
/-- Where keys wait the index is shorter than the keys. -/
theorem addsW_idx (split : Int) (ks : List ByteArray) : ∀ i, i ≤ ks.length → (addsW split (ks.take i)).idx.length + (addsW split (ks.take i)).keys.length ≤ i
  | 0, _ => by rw [List.take_zero]; exact Nat.le_refl _
  | i + 1, h => by
    rw [addsW_take split ks i h]
    have ih := addsW_idx split ks i (by omega)
    unfold WS.add
    split
    · unfold WS.ended WS.pushed; simp only [List.length_append, List.length_singleton, List.length_nil]; omega
    · unfold WS.pushed; simp only [List.length_append, List.length_singleton]; omega
theorem WInv.build {ks : List ByteArray} (hk : ∀ k ∈ ks, k.size ≤ 1000) (split : Int) : WInv ks ks.length (buildW ks split) := by
  have h := WInv.adds hk split ks.length (Nat.le_refl _)
  have hx := addsW_idx split ks ks.length (Nat.le_refl _)
  rw [List.take_of_length_le (Nat.le_refl _)] at h hx
  unfold buildW
  split
  · exact h
  · next hne => exact h.ended hne (Nat.le_refl _) hk (by have : 0 < (addsW split ks).keys.length := List.length_pos_iff.2 hne; omega)

end Go.Proofs.YtmmeofiocbfamaaGreatDoor
