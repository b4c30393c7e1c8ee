/- block's Build. No condition: lemmas. -/
import Derived.Sort.Walk0
import Derived.Test.YtmmeofiocbfamaaGreatDoorZ11
namespace Go.Proofs.YtmmeofiocbfamaaGreatDoor
open Go Go.RowKit

def ic (l : List Nat) : List Value := l.map fun n => .int .i64 (n : Nat)
theorem ic_append (a b : List Nat) : ic (a ++ b) = ic a ++ ic b := by simp [ic]
theorem ic_length (a : List Nat) : (ic a).length = a.length := by simp [ic]
theorem intsT : ElemT Tryz.prog 120 3 1 8 := ElemT.mk' Tryz.underlying120 (show _ = some (some (.int .i64 0), 1, 8) by kernel_rfl) rfl (by decide)
theorem Own.mono {w : World} {B B' : Nat} {e : TypeId} {sz : Nat} {v : Value} {xs : List Value} (h : Own w B e sz v xs) (hb : B' ≤ B) : Own w B' e sz v xs := by
  obtain ⟨n, h1, h2⟩ := h
  refine ⟨n, h1, ?_⟩
  rcases h2 with hn | ⟨g, cap, cur, rfl, hbg, r⟩
  · exact .inl hn
  · exact .inr ⟨g, cap, cur, rfl, by omega, r⟩
theorem tb_iff (a b : ByteArray) : Op.bytesLess a.toList b.toList = decide (a.data.toList < b.data.toList) := by
  rw [ByteArray.toList_eq, ByteArray.toList_eq]
  exact bytesLess_eq _ _
theorem le_bad {a b : ByteArray} (h : ltS a b = false) : Op.bytesLess b.toList a.toList = true ∨ b = a := by
  have h' : Op.bytesLess a.toList b.toList = false := h
  rw [tb_iff] at h' ⊢
  simp only [decide_eq_true_eq, decide_eq_false_iff_not] at *
  rcases List.le_iff_lt_or_eq.1 (List.not_lt.1 h') with h2 | h2
  · exact .inl h2
  · exact .inr (ByteArray.ext (by rw [← Array.toList_inj]; exact h2))
theorem le_good {a b : ByteArray} (h : ltS a b = true) : Op.bytesLess b.toList a.toList = false ∧ (b.toList == a.toList) = false := by
  have h' : Op.bytesLess a.toList b.toList = true := h
  rw [tb_iff] at h'
  simp only [decide_eq_true_eq] at h'
  refine ⟨?_, ?_⟩
  · rw [tb_iff]
    simp only [decide_eq_false_iff_not]
    exact fun h2 => List.lt_irrefl _ (List.lt_trans h' h2)
  · rw [beq_eq_false_iff_ne]
    intro e
    rw [ByteArray.toList_eq, ByteArray.toList_eq] at e
    rw [e] at h'
    exact List.lt_irrefl _ h'
theorem endsL_snoc : ∀ (i a : Nat) (last : List UInt8) (ks : List (List UInt8)) (k : List UInt8), endsL i a last (ks ++ [k]) = endsL i a last ks ++ (if (i + ks.length) % 16 = 0 then [a + (blkL i last ks).length] else [])
  | i, a, last, [], k => by simp [endsL, blkL]
  | i, a, last, x :: ks, k => by
    rw [List.cons_append, endsL, endsL, endsL_snoc, List.append_assoc, blkL, List.length_cons, List.length_append]
    rw [show i + 1 + ks.length = i + (ks.length + 1) from by omega, Nat.add_assoc]
/-- The last one of the first i keys. -/
def lastK (ks : List ByteArray) (i : Nat) : ByteArray := (ks.take i).getLast?.getD ⟨#[]⟩
theorem lastK_zero (ks : List ByteArray) : lastK ks 0 = ⟨#[]⟩ := rfl
theorem lastK_succ (ks : List ByteArray) (i : Nat) (h : i < ks.length) : lastK ks (i + 1) = ks[i] := by
  unfold lastK
  rw [List.take_succ_eq_append_getElem h, List.getLast?_append]
  simp
theorem lastK_data (ks : List ByteArray) (i : Nat) : (((ks.map fun k => k.data.toList).take i).getLast?.getD []) = (lastK ks i).data.toList := by
  unfold lastK
  rw [← List.map_take, List.getLast?_map]
  cases (ks.take i).getLast? <;> rfl
theorem lastK_size (ks : List ByteArray) (i m : Nat) (h : ∀ k ∈ ks, k.size ≤ m) : (lastK ks i).size ≤ m := by
  unfold lastK
  cases e : (ks.take i).getLast? with
  | none => exact Nat.zero_le _
  | some k => exact h k (List.mem_of_mem_take (List.mem_of_getLast? e))
/-- Each key lies above the one before it. -/
def UpK (ks : List ByteArray) : Prop := ∀ j, (h : j + 1 < ks.length) → ltS ks[j] ks[j + 1] = true
/-- A block's bytes. -/
def blkF (ks : List (List UInt8)) : List UInt8 := blkL 0 [] ks ++ (endsL 0 0 [] ks).flatMap four ++ four (endsL 0 0 [] ks).length
theorem blkL_take (kl : List (List UInt8)) (i : Nat) (h : i < kl.length) : blkL 0 [] (kl.take (i + 1)) = blkL 0 [] (kl.take i) ++ blkK i ((kl.take i).getLast?.getD []) kl[i] := by
  rw [List.take_succ_eq_append_getElem h, blkL_snoc, Nat.zero_add, List.length_take, Nat.min_eq_left (by omega)]
theorem endsL_take (kl : List (List UInt8)) (i : Nat) (h : i < kl.length) : endsL 0 0 [] (kl.take (i + 1)) = endsL 0 0 [] (kl.take i) ++ (if i % 16 = 0 then [(blkL 0 [] (kl.take i)).length] else []) := by
  rw [List.take_succ_eq_append_getElem h, endsL_snoc, Nat.zero_add, Nat.zero_add, List.length_take, Nat.min_eq_left (by omega)]
theorem endsL_len : ∀ (i a : Nat) (last : List UInt8) (ks : List (List UInt8)), (endsL i a last ks).length ≤ ks.length
  | _, _, _, [] => Nat.le_refl _
  | i, a, last, k :: ks => by
    rw [endsL, List.length_append, List.length_cons]
    have := endsL_len (i + 1) (a + (blkK i last k).length) k ks
    split <;> simp <;> omega
theorem endsL_le : ∀ (i a : Nat) (last : List UInt8) (ks : List (List UInt8)), ∀ x ∈ endsL i a last ks, x ≤ a + (blkL i last ks).length
  | _, _, _, [], x, h => by simp [endsL] at h
  | i, a, last, k :: ks, x, h => by
    rw [endsL] at h
    rw [blkL, List.length_append]
    rcases List.mem_append.1 h with h | h
    · split at h
      · have := List.mem_singleton.1 h; omega
      · cases h
    · have := endsL_le (i + 1) (a + (blkK i last k).length) k ks x h; omega
theorem Sl.ints {S : Nat → Prop} {w : World} {ao : Option Addr} {n c : Nat} {l : List Nat} (h : Sl S w 1 (.slice ao n c) (ic l)) : n = l.length ∧ n ≤ c ∧ c ≤ 9223372036854775807 ∧ ∀ j, (hj : j < l.length) → ∃ b off, ao = some ⟨b, off, none⟩ ∧ w.cell? ⟨b, off + j, none⟩ = some (.int .i64 (l[j] : Nat)) := by
  obtain ⟨ao', n', c', hv, h1, h2, h3, h4, h5⟩ := h
  simp only [Value.slice.injEq] at hv
  obtain ⟨rfl, rfl, rfl⟩ := hv
  rw [ic_length] at h1
  refine ⟨by omega, h2, by have e : maxLen = 9223372036854775807 := rfl; omega, fun j hj => ?_⟩
  obtain ⟨b, off, rfl, _, hc⟩ := h5 (by intro e; have := congrArg List.length e; rw [ic_length, List.length_nil] at this; omega)
  exact ⟨b, off, rfl, hc j _ (by simp [ic, hj])⟩
theorem fours_len (l : List Nat) : (l.flatMap four).length = 4 * l.length := by
  induction l with
  | nil => rfl
  | cons x l ih => rw [List.flatMap_cons, List.length_append, ih, List.length_cons, four_length]; omega
theorem fours_take (l : List Nat) (k : Nat) (h : k < l.length) : (l.take (k + 1)).flatMap four = (l.take k).flatMap four ++ four l[k] := by
  rw [List.take_succ_eq_append_getElem h, List.flatMap_append, List.flatMap_cons, List.flatMap_nil, List.append_nil]
theorem blkL_pre (kl : List (List UInt8)) : ∀ i, (blkL 0 [] (kl.take i)).length ≤ (blkL 0 [] kl).length := by
  intro i
  have : ∀ (i0 : Nat) (last : List UInt8) (a b : List (List UInt8)), (blkL i0 last a).length ≤ (blkL i0 last (a ++ b)).length := by
    intro i0 last a
    induction a generalizing i0 last with
    | nil => intro b; simp [blkL]
    | cons x a ih => intro b; rw [List.cons_append, blkL, blkL, List.length_append, List.length_append]; have := ih (i0 + 1) x b; omega
  have := this 0 [] (kl.take i) (kl.drop i)
  rwa [List.take_append_drop] at this

set_option maxRecDepth 100000 in
set_option maxHeartbeats 1600000 in
theorem build_any {S : Nat → Prop} (v : Value) (ks : List ByteArray) (w : World) (hSw : ∀ b, S b → b < w.heap.size) (h : Sl S w 1 v (sc ks)) (hl : ks.length ≤ 1000000) (hk : ∀ k ∈ ks, k.size ≤ 10000000) (hb : (blkL 0 [] (ks.map fun k => k.data.toList)).length ≤ 4000000000) :
    Calls Tryz.prog 56 #[v] w fun e w' => (UpK ks ∧ ∃ v', e = .returned (.tuple #[v', .int .i64 0]) ∧ Own w' w.heap.size 5 1 v' (bc (blkF (ks.map fun k => k.data.toList))) ∧ Ext w w') ∨ (¬ UpK ks ∧ e = .returned (.tuple #[.slice none 0 0, .int .i64 11]) ∧ Ext w w') := by
  have HS := Lib.hid h
  obtain ⟨ao, c, rfl, hlc, hcm, -, hcell⟩ := Sl.strs0 h
  have HC := Lib.hid hcell
  have HK := Lib.hid hk
  have HBL := Lib.hid hb
  have HLD := Lib.hid (lastK_data ks)
  have HLS := Lib.hid (fun i => lastK_size ks i 10000000 hk)
  have HPRE := Lib.hid (blkL_pre (ks.map fun k => k.data.toList))
  generalize hks : ks.map (fun k => k.data.toList) = kl at *
  have HKL := Lib.hid (show kl.length = ks.length ∧ ∀ i (h : i < ks.length) (h' : i < kl.length), kl[i] = ks[i].data.toList from by subst hks; exact ⟨by rw [List.length_map], fun i h h' => by rw [List.getElem_map]⟩)
  have HKE := Lib.hid hks
  clear hks hcell h hk hb
  go_enter Tryz.func56, Tryz.ntmps56
  go_wp2_with fail
  go_loopw [4, 5, 6, 14] (fun bv ev lv iv wr => ∃ i : Nat, i ≤ ks.length ∧ iv = .int .i64 i ∧ lv = .string (lastK ks i) ∧ Own wr w.heap.size 5 1 bv (bc (blkL 0 [] (kl.take i))) ∧ Own wr w.heap.size 3 1 ev (ic (endsL 0 0 [] (kl.take i))) ∧ (∀ j, (h : j + 1 < ks.length) → j + 1 < i → ltS ks[j] ks[j + 1] = true) ∧ Ext w wr) (fun _ _ _ iv _ => ks.length - (intOf iv).toNat)
  case atStart => exact ⟨0, by omega, rfl, rfl, Own.nil _ _ _ _, Own.nil _ _ _ _, fun _ _ h => absurd h (Nat.not_lt_zero _), Ext.refl _⟩
  case round =>
    obtain ⟨i, hi, rfl, rfl, hb, he, hu, hx⟩ := hrel
    have HB := Lib.hid hb
    have HE := Lib.hid he
    have HU := Lib.hid hu
    have HX := Lib.hid hx
    obtain ⟨bo, bn, bcap, rfl, hbn, -, -⟩ := hb.sl.len
    obtain ⟨eo, en, ecap, rfl, hen, -, -⟩ := he.sl.len
    rw [bc_length, Nat.mul_one] at hbn
    clear hb he hu hx hen
    by_cases hlt : i < ks.length
    · obtain ⟨bk, off, rfl, hbk, hcc⟩ := HC.out (by omega)
      have hcl := HX.out.cell (hcc i hlt)
      by_cases hbad : 0 < i ∧ ltS (lastK ks i) ks[i] = false
      · have HNU := Lib.hid (show ¬ UpK ks from fun hup => by
          have := hup (i - 1) (by omega)
          have e := lastK_succ ks (i - 1) (by omega)
          rw [Nat.sub_add_cancel hbad.1] at e
          simp only [Nat.sub_add_cancel hbad.1] at this
          rw [← e, hbad.2] at this
          cases this)
        have h0 : (0 : Int) < (i : Int) := by omega
        have hne0 : ¬ (i = 0) := by omega
        have HORD := le_bad hbad.2
        clear hcc hbad
        generalize lastK ks i = last at *
        generalize ks[i] = key at *
        rcases HORD with hlt2 | rfl
        · go_wp2_with fail
          go_ret2
          exact .inr ⟨HNU.out, rfl, HX.out⟩
        · go_wp2_with fail
          go_ret2
          exact .inr ⟨HNU.out, rfl, HX.out⟩
      · have HU2 := Lib.hid (show ∀ j, (h : j + 1 < ks.length) → j + 1 < i + 1 → ltS ks[j] ks[j + 1] = true from fun j h hj => by
          rcases Nat.lt_succ_iff_lt_or_eq.1 hj with h2 | rfl
          · exact HU.out j h h2
          · have e := lastK_succ ks j (by omega)
            cases h3 : ltS ks[j] ks[j + 1]
            · exact absurd ⟨Nat.succ_pos _, by rw [e]; exact h3⟩ hbad
            · rfl)
        have HT1 := Lib.hid (blkL_take kl i (by rw [HKL.out.1]; exact hlt))
        have HT2 := Lib.hid (endsL_take kl i (by rw [HKL.out.1]; exact hlt))
        rw [HKL.out.2 i hlt (by rw [HKL.out.1]; exact hlt), HLD.out i] at HT1
        have HKS := Lib.hid (HK.out _ (List.getElem_mem hlt))
        have HLA := Lib.hid (lastK_succ ks i hlt)
        have HLZ := Lib.hid (HLS.out i)
        have HP1 := Lib.hid (HPRE.out (i + 1))
        have HGO := Lib.hid (show 0 < i → ltS (lastK ks i) ks[i] = true from fun h0 => by
          cases h3 : ltS (lastK ks i) ks[i]
          · exact absurd ⟨h0, h3⟩ hbad
          · rfl)
        clear hcc hbad HU
        generalize lastK ks i = last at *
        generalize ks[i] = key at *
        have HEL := Lib.hid (show (endsL 0 0 [] (kl.take i)).length ≤ 1000000 from by have := endsL_len 0 0 [] (kl.take i); rw [List.length_take] at this; omega)
        by_cases h16 : i % 16 = 0
        · have hm16 : (i : Int) % 16 = 0 := by omega
          by_cases hi0 : i = 0
          · have hz : ¬ ((0 : Int) < (i : Int)) := by omega
            have H16 := Lib.hid h16
            clear hi0
            go_wp2_with (at_builtin; go_must (refine wpList_own_lit intsT rfl (.tmp 34) (.tmp 37) rfl rfl HE.out rfl rfl (by simp [Value.oneCell']) (by have := HEL.out; rw [ic_length]; simp; omega) (by have := HEL.out; rw [ic_length]; simp; omega) HX.out.size ?_; intro v5 w5 hown5 hb5 hgr5; have HE5 := Lib.hid (show Own w5 w.heap.size 3 1 v5 (ic (endsL 0 0 [] (kl.take (i + 1)))) from by rw [HT2.out, if_pos H16.out, hbn, ic_append]; exact hown5); have HB5 := Lib.hid (HB.out.aside HE.out (by decide) hgr5); have HX5 := Lib.hid (show Ext w w5 from Below.trans HX.out hb5); obtain ⟨eo5, en5, ec5, rfl, -, -, -⟩ := hown5.sl.len; clear hown5 hb5 hgr5))
            have HN := Lib.hid (show blkN i last.data.toList key.data.toList = 0 from if_pos H16.out)
            have hw0 : IntKind.u64.wrap 0 = 0 := by decide
            obtain ⟨wd, hwd⟩ : ∃ wd, wd = w5.drew := ⟨_, rfl⟩
            have HXd := Lib.hid (show Ext w wd from by rw [hwd]; exact HX5.out.trans (Ext.drew w5))
            have HBd := Lib.hid (show Own wd w.heap.size 5 1 (.slice bo bn bcap) (bc (blkL 0 [] (kl.take i))) from by rw [hwd]; exact HB5.out)
            have HEd := Lib.hid (show Own wd w.heap.size 3 1 (.slice eo5 en5 ec5) (ic (endsL 0 0 [] (kl.take (i + 1)))) from by rw [hwd]; exact HE5.out)
            clear HX5 HB5 HE5
            refine region_walkN (Ext wd) (by rw [← hwd]; exact Ext.refl _) (by kernel_rfl) (by kernel_rfl) (fun _ _ d _ _ h => by cases d <;> exact h) ?_
            rw [← hwd]
            clear hwd
            ((refine WalkN.take 0 _ ?_ (by simp only [List.getElem?_toArray, List.getElem?_cons_zero]; rfl) (by kernel_rfl) (by kernel_rfl) (by rfl) (fun W hW => ?_) ?_; rotate_left; · (go_simp; try with_reducible rfl)); simp only [Act.put, List.setIfInBounds_toArray, List.set_cons_zero, List.set_cons_succ]); ((refine WalkN.take 1 _ ?_ (by simp only [List.getElem?_toArray, List.getElem?_cons_succ, List.getElem?_cons_zero]; rfl) (by kernel_rfl) (by kernel_rfl) (by rfl) (fun W hW => ?_) ?_; rotate_left; · (go_simp; try with_reducible rfl)); simp only [Act.put, List.setIfInBounds_toArray, List.set_cons_zero, List.set_cons_succ]); ((refine WalkN.take 2 _ ?_ (by simp only [List.getElem?_toArray, List.getElem?_cons_succ, List.getElem?_cons_zero]; rfl) (by kernel_rfl) (by kernel_rfl) (by rfl) (fun W hW => ?_) ?_; rotate_left; · (go_simp; try with_reducible rfl)); simp only [Act.put, List.setIfInBounds_toArray, List.set_cons_zero, List.set_cons_succ]); ((refine WalkN.take 4 _ ?_ (by simp only [List.getElem?_toArray, List.getElem?_cons_succ, List.getElem?_cons_zero]; rfl) (by kernel_rfl) (by kernel_rfl) (by rfl) (fun W hW => ?_) ?_; rotate_left; · (go_simp; try with_reducible rfl)); simp only [Act.put, List.setIfInBounds_toArray, List.set_cons_zero, List.set_cons_succ]); ((refine WalkN.take 5 _ ?_ (by simp only [List.getElem?_toArray, List.getElem?_cons_succ, List.getElem?_cons_zero]; rfl) (by kernel_rfl) (by kernel_rfl) (by rfl) (fun W hW => ?_) ?_; rotate_left; · (go_simp; try with_reducible rfl)); simp only [Act.put, List.setIfInBounds_toArray, List.set_cons_zero, List.set_cons_succ]); ((refine WalkN.take 6 _ ?_ (by simp only [List.getElem?_toArray, List.getElem?_cons_succ, List.getElem?_cons_zero]; rfl) (by kernel_rfl) (by kernel_rfl) (by rfl) (fun W hW => ?_) ?_; rotate_left; · (go_simp; try with_reducible rfl)); simp only [Act.put, List.setIfInBounds_toArray, List.set_cons_zero, List.set_cons_succ])
            have HP4 := Lib.hid (putO_any (.slice bo bn bcap) (blkL 0 [] (kl.take i)) 0 wd (Own.app HBd.out).sl (by have := HPRE.out i; have := HBL.out; omega) (by unfold U64; omega))
            refine WalkN.one 3 (by kernel_rfl) ?_
            refine ⟨_, (by simp only [List.getElem?_toArray, List.getElem?_cons_succ, List.getElem?_cons_zero]; rfl), by rfl, fun K hK => ?_⟩
            go_simp
            refine HP4.out.mono ?_
            rintro e w6 ⟨v6, rfl, ho6, hb6⟩
            have hE6 : Ext wd w6 := hb6
            refine hK.out _ _ hE6 ?_
            clear hK
            have HP5 := Lib.hid (putTextO_any v6 _ key w6 (Own.app ho6).sl (by have := HP1.out; rw [HT1.out, List.length_append] at this; unfold blkK at this; rw [HN.out, List.length_append] at this; have := HBL.out; rw [List.length_append]; omega) HKS.out)
            refine WalkN.one 7 (by kernel_rfl) ?_
            refine ⟨_, (by simp only [List.getElem?_toArray, List.getElem?_cons_succ, List.getElem?_cons_zero]; rfl), by rfl, fun K hK => ?_⟩
            go_simp
            refine HP5.out.mono ?_
            rintro e w7 ⟨v7, rfl, ho7, hb7⟩
            have hE7 : Ext wd w7 := hE6.trans hb7
            refine hK.out _ _ hE7 ?_
            clear hK
            ((refine WalkN.take 8 _ ?_ (by simp only [List.getElem?_toArray, List.getElem?_cons_succ, List.getElem?_cons_zero]; rfl) (by kernel_rfl) (by kernel_rfl) (by rfl) (fun W hW => ?_) ?_; rotate_left; · (go_simp; try with_reducible rfl)); simp only [Act.put, List.setIfInBounds_toArray, List.set_cons_zero, List.set_cons_succ])
            refine WalkN.done (by kernel_rfl) ?_
            have HO7 := Lib.hid (show Own w7 w.heap.size 5 1 v7 (bc (blkL 0 [] (kl.take (i + 1)))) from by
              rw [HT1.out]
              unfold blkK
              rw [HN.out, List.drop_zero, ← List.append_assoc]
              exact ho7.mono (by have := HXd.out.size; have := hE6.size; omega))
            have HE7 := Lib.hid (HEd.out.below hE7)
            have HX7 := Lib.hid (HXd.out.trans hE7)
            obtain ⟨ao7, n7, c7, rfl, -, -, -⟩ := ho7.sl.len
            clear ho6 hb6 hE6 ho7 hb7 hE7 HP4 HP5 hw0
            go_wp2_with fail
            go_roundw
            case rel => exact ⟨i + 1, by omega, by go_num, by rw [HLA.out], HO7.out, HE7.out, HU2.out, HX7.out⟩
            case measure => simp [intOf]; omega
          · have hz : (0 : Int) < (i : Int) := by omega
            obtain ⟨hf1, hf2⟩ := le_good (HGO.out (by omega))
            have H16 := Lib.hid h16
            clear hi0
            go_wp2_with (at_builtin; go_must (refine wpList_own_lit intsT rfl (.tmp 34) (.tmp 37) rfl rfl HE.out rfl rfl (by simp [Value.oneCell']) (by have := HEL.out; rw [ic_length]; simp; omega) (by have := HEL.out; rw [ic_length]; simp; omega) HX.out.size ?_; intro v5 w5 hown5 hb5 hgr5; have HE5 := Lib.hid (show Own w5 w.heap.size 3 1 v5 (ic (endsL 0 0 [] (kl.take (i + 1)))) from by rw [HT2.out, if_pos H16.out, hbn, ic_append]; exact hown5); have HB5 := Lib.hid (HB.out.aside HE.out (by decide) hgr5); have HX5 := Lib.hid (show Ext w w5 from Below.trans HX.out hb5); obtain ⟨eo5, en5, ec5, rfl, -, -, -⟩ := hown5.sl.len; clear hown5 hb5 hgr5))
            have HN := Lib.hid (show blkN i last.data.toList key.data.toList = 0 from if_pos H16.out)
            have hw0 : IntKind.u64.wrap 0 = 0 := by decide
            obtain ⟨wd, hwd⟩ : ∃ wd, wd = w5.drew := ⟨_, rfl⟩
            have HXd := Lib.hid (show Ext w wd from by rw [hwd]; exact HX5.out.trans (Ext.drew w5))
            have HBd := Lib.hid (show Own wd w.heap.size 5 1 (.slice bo bn bcap) (bc (blkL 0 [] (kl.take i))) from by rw [hwd]; exact HB5.out)
            have HEd := Lib.hid (show Own wd w.heap.size 3 1 (.slice eo5 en5 ec5) (ic (endsL 0 0 [] (kl.take (i + 1)))) from by rw [hwd]; exact HE5.out)
            clear HX5 HB5 HE5
            refine region_walkN (Ext wd) (by rw [← hwd]; exact Ext.refl _) (by kernel_rfl) (by kernel_rfl) (fun _ _ d _ _ h => by cases d <;> exact h) ?_
            rw [← hwd]
            clear hwd
            ((refine WalkN.take 0 _ ?_ (by simp only [List.getElem?_toArray, List.getElem?_cons_zero]; rfl) (by kernel_rfl) (by kernel_rfl) (by rfl) (fun W hW => ?_) ?_; rotate_left; · (go_simp; try with_reducible rfl)); simp only [Act.put, List.setIfInBounds_toArray, List.set_cons_zero, List.set_cons_succ]); ((refine WalkN.take 1 _ ?_ (by simp only [List.getElem?_toArray, List.getElem?_cons_succ, List.getElem?_cons_zero]; rfl) (by kernel_rfl) (by kernel_rfl) (by rfl) (fun W hW => ?_) ?_; rotate_left; · (go_simp; try with_reducible rfl)); simp only [Act.put, List.setIfInBounds_toArray, List.set_cons_zero, List.set_cons_succ]); ((refine WalkN.take 2 _ ?_ (by simp only [List.getElem?_toArray, List.getElem?_cons_succ, List.getElem?_cons_zero]; rfl) (by kernel_rfl) (by kernel_rfl) (by rfl) (fun W hW => ?_) ?_; rotate_left; · (go_simp; try with_reducible rfl)); simp only [Act.put, List.setIfInBounds_toArray, List.set_cons_zero, List.set_cons_succ]); ((refine WalkN.take 4 _ ?_ (by simp only [List.getElem?_toArray, List.getElem?_cons_succ, List.getElem?_cons_zero]; rfl) (by kernel_rfl) (by kernel_rfl) (by rfl) (fun W hW => ?_) ?_; rotate_left; · (go_simp; try with_reducible rfl)); simp only [Act.put, List.setIfInBounds_toArray, List.set_cons_zero, List.set_cons_succ]); ((refine WalkN.take 5 _ ?_ (by simp only [List.getElem?_toArray, List.getElem?_cons_succ, List.getElem?_cons_zero]; rfl) (by kernel_rfl) (by kernel_rfl) (by rfl) (fun W hW => ?_) ?_; rotate_left; · (go_simp; try with_reducible rfl)); simp only [Act.put, List.setIfInBounds_toArray, List.set_cons_zero, List.set_cons_succ]); ((refine WalkN.take 6 _ ?_ (by simp only [List.getElem?_toArray, List.getElem?_cons_succ, List.getElem?_cons_zero]; rfl) (by kernel_rfl) (by kernel_rfl) (by rfl) (fun W hW => ?_) ?_; rotate_left; · (go_simp; try with_reducible rfl)); simp only [Act.put, List.setIfInBounds_toArray, List.set_cons_zero, List.set_cons_succ])
            have HP4 := Lib.hid (putO_any (.slice bo bn bcap) (blkL 0 [] (kl.take i)) 0 wd (Own.app HBd.out).sl (by have := HPRE.out i; have := HBL.out; omega) (by unfold U64; omega))
            refine WalkN.one 3 (by kernel_rfl) ?_
            refine ⟨_, (by simp only [List.getElem?_toArray, List.getElem?_cons_succ, List.getElem?_cons_zero]; rfl), by rfl, fun K hK => ?_⟩
            go_simp
            refine HP4.out.mono ?_
            rintro e w6 ⟨v6, rfl, ho6, hb6⟩
            have hE6 : Ext wd w6 := hb6
            refine hK.out _ _ hE6 ?_
            clear hK
            have HP5 := Lib.hid (putTextO_any v6 _ key w6 (Own.app ho6).sl (by have := HP1.out; rw [HT1.out, List.length_append] at this; unfold blkK at this; rw [HN.out, List.length_append] at this; have := HBL.out; rw [List.length_append]; omega) HKS.out)
            refine WalkN.one 7 (by kernel_rfl) ?_
            refine ⟨_, (by simp only [List.getElem?_toArray, List.getElem?_cons_succ, List.getElem?_cons_zero]; rfl), by rfl, fun K hK => ?_⟩
            go_simp
            refine HP5.out.mono ?_
            rintro e w7 ⟨v7, rfl, ho7, hb7⟩
            have hE7 : Ext wd w7 := hE6.trans hb7
            refine hK.out _ _ hE7 ?_
            clear hK
            ((refine WalkN.take 8 _ ?_ (by simp only [List.getElem?_toArray, List.getElem?_cons_succ, List.getElem?_cons_zero]; rfl) (by kernel_rfl) (by kernel_rfl) (by rfl) (fun W hW => ?_) ?_; rotate_left; · (go_simp; try with_reducible rfl)); simp only [Act.put, List.setIfInBounds_toArray, List.set_cons_zero, List.set_cons_succ])
            refine WalkN.done (by kernel_rfl) ?_
            have HO7 := Lib.hid (show Own w7 w.heap.size 5 1 v7 (bc (blkL 0 [] (kl.take (i + 1)))) from by
              rw [HT1.out]
              unfold blkK
              rw [HN.out, List.drop_zero, ← List.append_assoc]
              exact ho7.mono (by have := HXd.out.size; have := hE6.size; omega))
            have HE7 := Lib.hid (HEd.out.below hE7)
            have HX7 := Lib.hid (HXd.out.trans hE7)
            obtain ⟨ao7, n7, c7, rfl, -, -, -⟩ := ho7.sl.len
            clear ho6 hb6 hE6 ho7 hb7 hE7 HP4 HP5 hw0
            go_wp2_with fail
            go_roundw
            case rel => exact ⟨i + 1, by omega, by go_num, by rw [HLA.out], HO7.out, HE7.out, HU2.out, HX7.out⟩
            case measure => simp [intOf]; omega
        · have hm16 : ((i : Int) % 16 == 0) = false := by have : ¬ ((i : Int) % 16 = 0) := by omega
                                                          simpa using this
          have hi0 : 0 < i := by rcases Nat.eq_zero_or_pos i with rfl | h0; · exact absurd rfl h16
                                 · exact h0
          have hz : (0 : Int) < (i : Int) := by omega
          obtain ⟨hf1, hf2⟩ := le_good (HGO.out hi0)
          have HCO := Lib.hid (common_any last key wr (by have := HLZ.out; omega) (by have := HKS.out; omega))
          have HN := Lib.hid (show blkN i last.data.toList key.data.toList = comm last.data.toList key.data.toList from if_neg h16)
          have HNL := Lib.hid (show comm last.data.toList key.data.toList ≤ key.size ∧ comm last.data.toList key.data.toList ≤ 10000000 from by have := (comm_le last.data.toList key.data.toList).2; have h2 : key.data.toList.length = key.size := Array.length_toList; have := HKS.out; omega)
          have H16 := Lib.hid h16
          clear hi0 h16
          generalize comm last.data.toList key.data.toList = n at *
          rw [if_neg H16.out, List.append_nil] at HT2
          go_wp2_with fail
          refine HCO.out.mono ?_
          rintro e w1 ⟨rfl, hx1⟩
          have HX5 := Lib.hid (HX.out.trans hx1)
          have HB5 := Lib.hid (HB.out.below hx1)
          have HE5 := Lib.hid (show Own w1 w.heap.size 3 1 (.slice eo en ecap) (ic (endsL 0 0 [] (kl.take (i + 1)))) from by rw [HT2.out]; exact HE.out.below hx1)
          have hw0 : IntKind.u64.wrap (n : Int) = (n : Int) := by have := HNL.out; rw [IntKind.wrap_u64]; omega
          have hnk := HNL.out.1
          clear hx1 HCO hf1 hf2 hz hm16
          go_wp2_with fail
          obtain ⟨wd, hwd⟩ : ∃ wd, wd = w1.drew := ⟨_, rfl⟩
          have HXd := Lib.hid (show Ext w wd from by rw [hwd]; exact HX5.out.trans (Ext.drew w1))
          have HBd := Lib.hid (show Own wd w.heap.size 5 1 (.slice bo bn bcap) (bc (blkL 0 [] (kl.take i))) from by rw [hwd]; exact HB5.out)
          have HEd := Lib.hid (show Own wd w.heap.size 3 1 (.slice eo en ecap) (ic (endsL 0 0 [] (kl.take (i + 1)))) from by rw [hwd]; exact HE5.out)
          clear HX5 HB5 HE5
          refine region_walkN (Ext wd) (by rw [← hwd]; exact Ext.refl _) (by kernel_rfl) (by kernel_rfl) (fun _ _ d _ _ h => by cases d <;> exact h) ?_
          rw [← hwd]
          clear hwd
          ((refine WalkN.take 0 _ ?_ (by simp only [List.getElem?_toArray, List.getElem?_cons_zero]; rfl) (by kernel_rfl) (by kernel_rfl) (by rfl) (fun W hW => ?_) ?_; rotate_left; · (go_simp; try with_reducible rfl)); simp only [Act.put, List.setIfInBounds_toArray, List.set_cons_zero, List.set_cons_succ]); ((refine WalkN.take 1 _ ?_ (by simp only [List.getElem?_toArray, List.getElem?_cons_succ, List.getElem?_cons_zero]; rfl) (by kernel_rfl) (by kernel_rfl) (by rfl) (fun W hW => ?_) ?_; rotate_left; · (go_simp; try with_reducible rfl)); simp only [Act.put, List.setIfInBounds_toArray, List.set_cons_zero, List.set_cons_succ]); ((refine WalkN.take 2 _ ?_ (by simp only [List.getElem?_toArray, List.getElem?_cons_succ, List.getElem?_cons_zero]; rfl) (by kernel_rfl) (by kernel_rfl) (by rfl) (fun W hW => ?_) ?_; rotate_left; · (go_simp; try with_reducible rfl)); simp only [Act.put, List.setIfInBounds_toArray, List.set_cons_zero, List.set_cons_succ]); ((refine WalkN.take 4 _ ?_ (by simp only [List.getElem?_toArray, List.getElem?_cons_succ, List.getElem?_cons_zero]; rfl) (by kernel_rfl) (by kernel_rfl) (by rfl) (fun W hW => ?_) ?_; rotate_left; · (go_simp; try with_reducible rfl)); simp only [Act.put, List.setIfInBounds_toArray, List.set_cons_zero, List.set_cons_succ]); ((refine WalkN.take 5 _ ?_ (by simp only [List.getElem?_toArray, List.getElem?_cons_succ, List.getElem?_cons_zero]; rfl) (by kernel_rfl) (by kernel_rfl) (by rfl) (fun W hW => ?_) ?_; rotate_left; · (go_simp; try with_reducible rfl)); simp only [Act.put, List.setIfInBounds_toArray, List.set_cons_zero, List.set_cons_succ]); ((refine WalkN.take 6 _ ?_ (by simp only [List.getElem?_toArray, List.getElem?_cons_succ, List.getElem?_cons_zero]; rfl) (by kernel_rfl) (by kernel_rfl) (by rfl) (fun W hW => ?_) ?_; rotate_left; · (go_simp; try with_reducible rfl)); simp only [Act.put, List.setIfInBounds_toArray, List.set_cons_zero, List.set_cons_succ])
          have HP4 := Lib.hid (putO_any (.slice bo bn bcap) (blkL 0 [] (kl.take i)) n wd (Own.app HBd.out).sl (by have := HPRE.out i; have := HBL.out; omega) (by have := HNL.out; unfold U64; omega))
          refine WalkN.one 3 (by kernel_rfl) ?_
          refine ⟨_, (by simp only [List.getElem?_toArray, List.getElem?_cons_succ, List.getElem?_cons_zero]; rfl), by rfl, fun K hK => ?_⟩
          go_simp
          refine HP4.out.mono ?_
          rintro e w6 ⟨v6, rfl, ho6, hb6⟩
          have hE6 : Ext wd w6 := hb6
          refine hK.out _ _ hE6 ?_
          clear hK
          have HP5 := Lib.hid (putTextO_any v6 _ (key.extract n key.size) w6 (Own.app ho6).sl (by have := HP1.out; rw [HT1.out, List.length_append] at this; unfold blkK at this; rw [HN.out, List.length_append] at this; have := HBL.out; rw [List.length_append]; omega) (by rw [ByteArray.size_extract]; have := HKS.out; omega))
          refine WalkN.one 7 (by kernel_rfl) ?_
          refine ⟨_, (by simp only [List.getElem?_toArray, List.getElem?_cons_succ, List.getElem?_cons_zero]; rfl), by rfl, fun K hK => ?_⟩
          go_simp
          refine HP5.out.mono ?_
          rintro e w7 ⟨v7, rfl, ho7, hb7⟩
          have hE7 : Ext wd w7 := hE6.trans hb7
          refine hK.out _ _ hE7 ?_
          clear hK
          ((refine WalkN.take 8 _ ?_ (by simp only [List.getElem?_toArray, List.getElem?_cons_succ, List.getElem?_cons_zero]; rfl) (by kernel_rfl) (by kernel_rfl) (by rfl) (fun W hW => ?_) ?_; rotate_left; · (go_simp; try with_reducible rfl)); simp only [Act.put, List.setIfInBounds_toArray, List.set_cons_zero, List.set_cons_succ])
          refine WalkN.done (by kernel_rfl) ?_
          have HO7 := Lib.hid (show Own w7 w.heap.size 5 1 v7 (bc (blkL 0 [] (kl.take (i + 1)))) from by
            rw [HT1.out]
            unfold blkK
            rw [HN.out, ← List.append_assoc]
            rw [show (key.extract n key.size).data.toList = key.data.toList.drop n from Lib.extract_to_end key _] at ho7
            exact ho7.mono (by have := HXd.out.size; have := hE6.size; omega))
          have HE7 := Lib.hid (HEd.out.below hE7)
          have HX7 := Lib.hid (HXd.out.trans hE7)
          obtain ⟨ao7, n7, c7, rfl, -, -, -⟩ := ho7.sl.len
          clear ho6 hb6 hE6 ho7 hb7 hE7 HP4 HP5 hw0
          go_wp2_with fail
          go_roundw
          case rel => exact ⟨i + 1, by omega, by go_num, by rw [HLA.out], HO7.out, HE7.out, HU2.out, HX7.out⟩
          case measure => simp [intOf]; omega
    · obtain rfl : i = ks.length := by omega
      have HUP := Lib.hid (show UpK ks from fun j h => HU.out j h h)
      have e := HKL.out.1
      rw [List.take_of_length_le (by omega)] at HB HE hbn
      have HEL := Lib.hid (show (endsL 0 0 [] kl).length ≤ 1000000 from by have := endsL_len 0 0 [] kl; omega)
      have HEB := Lib.hid (show ∀ x ∈ endsL 0 0 [] kl, x ≤ 4000000000 from fun x hx => by have := endsL_le 0 0 [] kl x hx; have := HBL.out; omega)
      have HBF := Lib.hid (show blkF kl = blkL 0 [] kl ++ (endsL 0 0 [] kl).flatMap four ++ four (endsL 0 0 [] kl).length from rfl)
      clear HU HPRE HC e
      generalize blkL 0 [] kl = bl at *
      generalize endsL 0 0 [] kl = es at *
      obtain ⟨hen, hec, hecm, -⟩ := Sl.ints HE.out.sl
      subst hen
      go_wp2_with fail
      go_loopw [4, 51] (fun bv jv wr => ∃ j : Nat, j ≤ es.length ∧ jv = .int .i64 j ∧ Own wr w.heap.size 5 1 bv (bc (bl ++ (es.take j).flatMap four)) ∧ Own wr w.heap.size 3 1 (.slice eo es.length ecap) (ic es) ∧ Ext w wr) (fun _ jv _ => es.length - (intOf jv).toNat)
      case atStart => exact ⟨0, by omega, rfl, by rw [List.take_zero, List.flatMap_nil, List.append_nil]; exact HB.out, HE.out, HX.out⟩
      case round =>
        clear HB HE HX hbn
        obtain ⟨j, hj, rfl, hb, he, hx⟩ := hrel
        have HB := Lib.hid hb
        have HE := Lib.hid he
        have HX := Lib.hid hx
        obtain ⟨bo, bn, bcap, rfl, -, -, -⟩ := hb.sl.len
        clear hb he hx
        by_cases hlj : j < es.length
        · obtain ⟨-, -, -, hce⟩ := Sl.ints HE.out.sl
          obtain ⟨eb, eoff, rfl, hcj⟩ := hce j hlj
          have HF := Lib.hid (fours_take es j hlj)
          have HP := Lib.hid (put_block (B := w.heap.size) (.slice bo bn bcap) (bl ++ (es.take j).flatMap four) es[j] _ HX.out.size HB.out (by rw [List.length_append, fours_len, List.length_take]; have := HBL.out; have := HEL.out; omega) (by have := HEB.out _ (List.getElem_mem hlj); omega))
          generalize es[j] = ej at *
          clear hce
          go_wp2_with fail
          refine HP.out.mono ?_
          rintro e w5 ⟨v5, rfl, ho5, hb5, hg5⟩
          have HB5 := Lib.hid (show Own w5 w.heap.size 5 1 v5 (bc (bl ++ (es.take (j + 1)).flatMap four)) from by rw [HF.out, ← List.append_assoc]; exact ho5)
          have HE5 := Lib.hid (HE.out.aside HB.out (by decide) hg5)
          have HX5 := Lib.hid (show Ext w w5 from Below.trans HX.out hb5)
          obtain ⟨ao7, n7, c7, rfl, -, -, -⟩ := ho5.sl.len
          clear ho5 hb5 hg5 HP hcj
          go_wp2_with fail
          go_roundw
          case rel => exact ⟨j + 1, by omega, by go_num, HB5.out, HE5.out, HX5.out⟩
          case measure => simp [intOf]; omega
        · obtain rfl : j = es.length := by omega
          rw [List.take_of_length_le (Nat.le_refl _)] at HB
          have HP := Lib.hid (put_block (B := w.heap.size) (.slice bo bn bcap) (bl ++ es.flatMap four) es.length _ HX.out.size HB.out (by rw [List.length_append, fours_len]; have := HBL.out; have := HEL.out; omega) (by have := HEL.out; omega))
          go_wp2_with fail
          refine HP.out.mono ?_
          rintro e w5 ⟨v5, rfl, ho5, hb5, hg5⟩
          have HB5 := Lib.hid (show Own w5 w.heap.size 5 1 v5 (bc (blkF kl)) from by rw [HBF.out]; exact ho5)
          have HX5 := Lib.hid (show Ext w w5 from Below.trans HX.out hb5)
          obtain ⟨ao7, n7, c7, rfl, -, -, -⟩ := ho5.sl.len
          clear ho5 hb5 hg5 HP
          go_wp2_with fail
          go_ret2
          exact .inl ⟨HUP.out, _, rfl, HB5.out, HX5.out⟩

end Go.Proofs.YtmmeofiocbfamaaGreatDoor
