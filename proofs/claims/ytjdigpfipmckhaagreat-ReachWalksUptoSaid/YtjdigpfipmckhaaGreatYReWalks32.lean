/- Lemmas for the claim, no condition. -/
import Derived.Test.YtjdigpfipmckhaaGreatYReWalks28
import Derived.Test.YtjdigpfipmckhaaGreatYReWalks9
import Derived.Test.YtjdigpfipmckhaaGreatYReWalks8
import Derived.Test.YtjdigpfipmckhaaGreatYReWalks10
import Derived.Test.YtjdigpfipmckhaaGreatYReWalks0
import Derived.Test.YtjdigpfipmckhaaGreatYReWalks11
import Derived.Test.YtjdigpfipmckhaaGreatYReWalks24
import Derived.Test.YtjdigpfipmckhaaGreatYReWalks30
namespace Go.Proofs.YtjdigpfipmckhaaGreat
open Go Go.RowKit
def prtL (t : Tup) : List ByteArray := [t.o.t, t.o.i, t.o.r, t.s.t, t.s.i, t.s.r]
def cmpL : List ByteArray → List ByteArray → Int
  | a :: l, b :: m => if ltS a b then -1 else if ltS b a then 1 else cmpL l m
  | [], _ => 0
  | _ :: _, [] => 0
theorem cmpL_step {a b : ByteArray} (l m : List ByteArray) (h : a ≠ b) : cmpL (a :: l) (b :: m) = if ltS a b then -1 else 1 := by
  rw [cmpL]
  cases h1 : ltS a b with
  | true => rfl
  | false => rw [ltS_total h1 h]; rfl
theorem cmpL_same (a : ByteArray) (l m : List ByteArray) : cmpL (a :: l) (a :: m) = cmpL l m := by
  rw [cmpL, ltS_irr]
  rfl
theorem cmp_prt (a b : Tup) : cmpL (prtL a) (prtL b) = cmpT a b := by
  obtain ⟨⟨a1, a2, a3⟩, ⟨a4, a5, a6⟩⟩ := a
  obtain ⟨⟨b1, b2, b3⟩, ⟨b4, b5, b6⟩⟩ := b
  unfold cmpT prtL
  dsimp only
  by_cases h1 : a1 = b1
  · subst h1
    rw [cmpL_same]
    by_cases h2 : a2 = b2
    · subst h2
      rw [cmpL_same]
      by_cases h3 : a3 = b3
      · subst h3
        rw [cmpL_same]
        by_cases h4 : a4 = b4
        · subst h4
          rw [cmpL_same]
          by_cases h5 : a5 = b5
          · subst h5
            rw [cmpL_same]
            by_cases h6 : a6 = b6
            · subst h6
              rw [cmpL_same]
              simp [cmpL, ltT, ltP_irr]
            · rw [cmpL_step _ _ h6]
              simp [ltT, ltP, h6]
          · rw [cmpL_step _ _ h5]
            simp [ltT, ltP, h5]
        · rw [cmpL_step _ _ h4]
          simp [ltT, ltP, h4]
      · rw [cmpL_step _ _ h3]
        simp [ltT, ltP, h3]
    · rw [cmpL_step _ _ h2]
      simp [ltT, ltP, h2]
  · rw [cmpL_step _ _ h1]
    simp [ltT, ltP, h1]
theorem gtr_eq {x y : ByteArray} (h : ltS x y = false) : (!Op.bytesLess x.toList y.toList && !x.toList == y.toList) = ltS y x := by
  rw [show Op.bytesLess x.toList y.toList = false from h]
  by_cases e : x = y
  · subst e
    rw [ltS_irr]
    simp
  · have hn := ba_beq' e
    rw [← ByteArray.toList_eq, ← ByteArray.toList_eq] at hn
    rw [hn, ltS_total h e]
    rfl
theorem cmpL_drop (l m : List ByteArray) {i : Nat} (h : i < l.length) (k : i < m.length) : cmpL (l.drop i) (m.drop i) = if ltS l[i] m[i] then -1 else if ltS m[i] l[i] then 1 else cmpL (l.drop (i + 1)) (m.drop (i + 1)) := by
  rw [List.drop_eq_getElem_cons h, List.drop_eq_getElem_cons k, cmpL]
set_option maxRecDepth 100000 in
set_option maxHeartbeats 2000000 in
theorem cmp04_any (a b : Tup) (w : World) : Calls Tryz.prog 65 #[tV a, tV b] w fun e w' => e = .returned (.int .i64 (cmpT a b)) ∧ Below w.heap.size w w' := by
  have HC := Lib.hid (cmp_prt a b)
  have HPA := Lib.hid (fun W => parts_any a W)
  have HPB := Lib.hid (fun W => parts_any b W)
  have HLA := Lib.hid (show prtL a = [a.o.t, a.o.i, a.o.r, a.s.t, a.s.i, a.s.r] from rfl)
  have HLB := Lib.hid (show prtL b = [b.o.t, b.o.i, b.o.r, b.s.t, b.s.i, b.s.r] from rfl)
  generalize hpa : prtL a = pa at *
  generalize hpb : prtL b = pb at *
  generalize cmpT a b = cv at *
  obtain ⟨⟨a1, a2, a3⟩, ⟨a4, a5, a6⟩⟩ := a
  obtain ⟨⟨b1, b2, b3⟩, ⟨b4, b5, b6⟩⟩ := b
  clear hpa hpb
  unfold tV at HPA HPB ⊢
  dsimp only at HPA HPB HLA HLB ⊢
  have x1 := Ext.alloc w (.cells #[.string a1, .string a2, .string a3, .string a4, .string a5, .string a6] 104)
  have x2 := Ext.alloc (w.alloc (.cells #[.string a1, .string a2, .string a3, .string a4, .string a5, .string a6] 104)) (.cells #[.string b1, .string b2, .string b3, .string b4, .string b5, .string b6] 104)
  have bA := (Blk.made w #[.string a1, .string a2, .string a3, .string a4, .string a5, .string a6] 104).below x2
  have bB := Blk.made' (w := w.alloc (.cells #[.string a1, .string a2, .string a3, .string a4, .string a5, .string a6] 104)) (B := w.heap.size + 1) (by simp) #[.string b1, .string b2, .string b3, .string b4, .string b5, .string b6] 104
  have HX := Lib.hid (show Ext w ((w.alloc (.cells #[.string a1, .string a2, .string a3, .string a4, .string a5, .string a6] 104)).alloc (.cells #[.string b1, .string b2, .string b3, .string b4, .string b5, .string b6] 104)) from x1.trans x2)
  have HBA := Lib.hid bA
  have HBB := Lib.hid bB
  clear x1 x2 bA bB
  go_enter Tryz.func65, Tryz.ntmps65
  go_wp2_with fail
  obtain ⟨wd, hwd⟩ : ∃ y : World, y = World.drew ((w.alloc (.cells #[.string a1, .string a2, .string a3, .string a4, .string a5, .string a6] 104)).alloc (.cells #[.string b1, .string b2, .string b3, .string b4, .string b5, .string b6] 104)) := ⟨_, rfl⟩
  have DX := Lib.hid (show Ext w wd from by rw [hwd]; exact HX.out.trans (Ext.drew _))
  have DA := Lib.hid (show Blk wd w.heap.size #[.string a1, .string a2, .string a3, .string a4, .string a5, .string a6] 104 from by rw [hwd]; exact HBA.out.drew)
  have DB := Lib.hid (show Blk wd (w.heap.size + 1) #[.string b1, .string b2, .string b3, .string b4, .string b5, .string b6] 104 from by rw [hwd]; exact HBB.out.drew)
  refine region_walkN (Ext wd) (by rw [← hwd]; exact Ext.refl _) (by kernel_rfl) (by kernel_rfl) (fun _ _ d _ _ h => by cases d <;> exact h) ?_
  rw [← hwd]
  clear hwd HX HBA HBB
  have h1 := fun W (h : Ext wd W) => (DA.out.below h).cells
  have h2 := fun W (h : Ext wd W) => (DB.out.below h).cells
  (refine WalkN.tk [0, 2] ?_; (iterate 2 ((refine TkN.c _ ?_ (by simp only [gtA, gtS, gtZ]; rfl) (by kernel_rfl) (by kernel_rfl) (by rfl) (fun W hW => ?_) ?_; rotate_left; · (go_simp; try with_reducible rfl)); simp only [Act.put, puA, puZ, puS])); refine TkN.n ?_)
  clear h1 h2
  refine WalkN.one 1 (by kernel_rfl) ?_
  refine ⟨_, (by simp only [gtA, gtS, gtZ]; rfl), by rfl, fun K hK => ?_⟩
  go_simp
  refine (HPA.out _).mono ?_
  rintro e w3 ⟨rfl, hb3, hx3⟩
  refine hK.out _ _ hx3 ?_
  clear hK HPA
  refine WalkN.one 3 (by kernel_rfl) ?_
  refine ⟨_, (by simp only [gtA, gtS, gtZ]; rfl), by rfl, fun K hK => ?_⟩
  go_simp
  refine (HPB.out _).mono ?_
  rintro e w4 ⟨rfl, hb4, hx4⟩
  refine hK.out _ _ (Ext.trans hx3 hx4) ?_
  clear hK HPB
  (refine WalkN.tk [4, 5] ?_; (iterate 2 ((refine TkN.c _ ?_ (by simp only [gtA, gtS, gtZ]; rfl) (by kernel_rfl) (by kernel_rfl) (by rfl) (fun W hW => ?_) ?_; rotate_left; · (go_simp; try with_reducible rfl)); simp only [Act.put, puA, puZ, puS])); refine TkN.n ?_)
  refine WalkN.done (by kernel_rfl) ?_
  have HA := Lib.hid (show ∀ (i : Nat) (hi : i < pa.length) W, Ext w4 W → W.cell? ⟨wd.heap.size + 1, i, none⟩ = some (.string pa[i]) from fun i hi W hW => by
    have h := ((hb3.below hx4).below hW).cells i
    have hp := HLA.out
    subst hp
    match i, hi with
    | 0, _ => exact h
    | 1, _ => exact h
    | 2, _ => exact h
    | 3, _ => exact h
    | 4, _ => exact h
    | 5, _ => exact h)
  have HB := Lib.hid (show ∀ (i : Nat) (hi : i < pb.length) W, Ext w4 W → W.cell? ⟨w3.heap.size + 1, i, none⟩ = some (.string pb[i]) from fun i hi W hW => by
    have h := (hb4.below hW).cells i
    have hp := HLB.out
    subst hp
    match i, hi with
    | 0, _ => exact h
    | 1, _ => exact h
    | 2, _ => exact h
    | 3, _ => exact h
    | 4, _ => exact h
    | 5, _ => exact h)
  have H6 := Lib.hid (show pa.length = 6 ∧ pb.length = 6 from ⟨by rw [HLA.out]; rfl, by rw [HLB.out]; rfl⟩)
  have HX4 := Lib.hid (show Ext w w4 from DX.out.trans (Ext.trans hx3 hx4))
  clear hb3 hx3 hb4 hx4 HLA HLB DX DA DB
  generalize wd.heap.size + 1 = ba at *
  generalize w3.heap.size + 1 = bb at *
  go_wp2_with fail
  go_loopw [14] (fun ii wr => ∃ i : Nat, i ≤ 6 ∧ ii = .int .i64 i ∧ cmpL (pa.drop i) (pb.drop i) = cv ∧ Ext w4 wr) (fun ii _ => 6 - (intOf ii).toNat)
  case atStart => exact ⟨0, by omega, rfl, by rw [List.drop_zero, List.drop_zero]; exact HC.out, Ext.refl _⟩
  case round =>
    obtain ⟨i, hi, rfl, hcv, hxr⟩ := hrel
    have HXR := Lib.hid hxr
    have HCV := Lib.hid hcv
    clear hxr hcv HC
    by_cases hlt : i < 6
    · have hpa : i < pa.length := by rw [H6.out.1]; exact hlt
      have hpb : i < pb.length := by rw [H6.out.2]; exact hlt
      have HST := Lib.hid (cmpL_drop pa pb hpa hpb)
      have HAI := Lib.hid (HA.out i hpa)
      have HBI := Lib.hid (HB.out i hpb)
      generalize pa[i] = x at *
      generalize pb[i] = y at *
      have HLT := Lib.hid hlt
      have hii : (i : Int) < 6 := by omega
      clear hpa hpb hlt
      go_wp2_with fail
      obtain ⟨wq, hwq⟩ : ∃ z : World, z = World.drew wr := ⟨_, rfl⟩
      have QX := Lib.hid (show Ext w4 wq from by rw [hwq]; exact HXR.out.trans (Ext.drew _))
      refine region_walkN (Ext wq) (by rw [← hwq]; exact Ext.refl _) (by kernel_rfl) (by kernel_rfl) (fun _ _ d _ _ h => by cases d <;> exact h) ?_
      rw [← hwq]
      clear hwq
      have h1 := fun W (h : Ext wq W) => HAI.out W (QX.out.trans h)
      have h2 := fun W (h : Ext wq W) => HBI.out W (QX.out.trans h)
      (refine WalkN.tk [0, 1, 2, 3, 4, 5, 6, 7, 8] ?_; (iterate 9 ((refine TkN.c _ ?_ (by simp only [gtA, gtS, gtZ]; rfl) (by kernel_rfl) (by kernel_rfl) (by rfl) (fun W hW => ?_) ?_; rotate_left; · (go_simp; try with_reducible rfl)); simp only [Act.put, puA, puZ, puS])); refine TkN.n ?_)
      refine WalkN.done (by kernel_rfl) ?_
      clear h1 h2
      rcases hxy : ltS x y with _ | _
      · have hbl : Op.bytesLess x.toList y.toList = false := hxy
        rw [hbl]
        go_wp2_with fail
        clear hbl
        obtain ⟨wp, hwp⟩ : ∃ z : World, z = World.drew wq := ⟨_, rfl⟩
        have PX := Lib.hid (show Ext w4 wp from by rw [hwp]; exact QX.out.trans (Ext.drew _))
        refine region_walkN (Ext wp) (by rw [← hwp]; exact Ext.refl _) (by kernel_rfl) (by kernel_rfl) (fun _ _ d _ _ h => by cases d <;> exact h) ?_
        rw [← hwp]
        clear hwp
        have h1 := fun W (h : Ext wp W) => HAI.out W (PX.out.trans h)
        have h2 := fun W (h : Ext wp W) => HBI.out W (PX.out.trans h)
        (refine WalkN.tk [0, 1, 2, 3, 4, 5, 6, 7, 8] ?_; (iterate 9 ((refine TkN.c _ ?_ (by simp only [gtA, gtS, gtZ]; rfl) (by kernel_rfl) (by kernel_rfl) (by rfl) (fun W hW => ?_) ?_; rotate_left; · (go_simp; try with_reducible rfl)); simp only [Act.put, puA, puZ, puS])); refine TkN.n ?_)
        refine WalkN.done (by kernel_rfl) ?_
        clear h1 h2
        rcases hyx : ltS y x with _ | _
        · have hbl : (!Op.bytesLess x.toList y.toList && !x.toList == y.toList) = false := (gtr_eq hxy).trans hyx
          have HCW := Lib.hid (show cmpL (pa.drop (i + 1)) (pb.drop (i + 1)) = cv from by
            have h1 := HST.out
            rw [hxy, hyx] at h1
            rw [← HCV.out, h1]
            rfl)
          rw [hbl]
          clear hbl hxy hyx
          go_wp2_with fail
          go_roundw
          case rel => exact ⟨i + 1, HLT.out, by go_num, HCW.out, PX.out⟩
          case measure => have := HLT.out; simp [intOf]; omega
        · have hbl : (!Op.bytesLess x.toList y.toList && !x.toList == y.toList) = true := (gtr_eq hxy).trans hyx
          have HCW := Lib.hid (show cv = 1 from by
            have h1 := HST.out
            rw [hxy, hyx] at h1
            rw [← HCV.out, h1]
            rfl)
          rw [hbl]
          clear hbl hxy hyx
          go_wp2_with fail
          go_ret
          exact ⟨by rw [HCW.out]; rfl, HX4.out.trans PX.out⟩
      · have hbl : Op.bytesLess x.toList y.toList = true := hxy
        have HCW := Lib.hid (show cv = -1 from by
          have h1 := HST.out
          rw [hxy] at h1
          rw [← HCV.out, h1]
          rfl)
        rw [hbl]
        clear hbl hxy
        go_wp2_with fail
        go_ret
        exact ⟨by rw [HCW.out]; rfl, HX4.out.trans QX.out⟩
    · obtain rfl : i = 6 := by omega
      have HCW := Lib.hid (show cv = 0 from by
        have h1 := HCV.out
        rw [List.drop_of_length_le (by rw [H6.out.1]; omega), List.drop_of_length_le (by rw [H6.out.2]; omega)] at h1
        rw [← h1]
        rfl)
      clear hlt
      go_wp2_with fail
      go_ret
      exact ⟨by rw [HCW.out]; rfl, HX4.out.trans HXR.out⟩
end Go.Proofs.YtjdigpfipmckhaaGreat
namespace Go.Proofs.YtjdigpfipmckhaaGreat
open Go Go.RowKit Go.Maps
theorem tuCs_drop (l : List Tup) (k : Nat) : (tuCs l).drop (k * 6) = tuCs (l.drop k) := by
  induction k generalizing l with
  | zero => simp [tuCs]
  | succ k ih =>
    cases l with
    | nil => simp [tuCs]
    | cons a l =>
      rw [List.drop_succ_cons, show tuCs (a :: l) = tuC a ++ tuCs l from rfl, ← ih l]
      rw [show (k + 1) * 6 = 6 + k * 6 from by omega, List.drop_append, List.drop_eq_nil_of_le (by rw [tuC_length]; omega), tuC_length, Nat.add_sub_cancel_left, List.nil_append]
theorem tuCs_one (l : List Tup) : ∀ u ∈ tuCs l, u.oneCell' = true := by
  intro u hu
  obtain ⟨a, _, ha⟩ := List.mem_flatMap.1 hu
  exact tuC_one a u ha
theorem cmpT_neg (a b : Tup) : decide (cmpT a b < 0) = ltT a b := by
  unfold cmpT
  cases h : ltT a b with
  | true => simp
  | false =>
    simp only [Bool.false_eq_true, if_false]
    split <;> simp
def insT (q : List Tup) (k : Nat) (p : Tup) : List Tup := q.take k ++ [p] ++ q.drop k
theorem insT_mem (q : List Tup) (k : Nat) (p x : Tup) : x ∈ insT q k p ↔ x ∈ q ∨ x = p := by
  unfold insT
  conv => rhs; rw [← List.take_append_drop k q]
  simp only [List.mem_append, List.mem_singleton]
  constructor
  · rintro ((h | h) | h)
    · exact .inl (.inl h)
    · exact .inr h
    · exact .inl (.inr h)
  · rintro ((h | h) | h)
    · exact .inl (.inl h)
    · exact .inr h
    · exact .inl (.inr h)
theorem insT_up {q : List Tup} {k : Nat} {p : Tup} (hq : UpT q) (h1 : ∀ j (hj : j < q.length), j < k → ltT q[j] p = true) (h2 : ∀ hk : k < q.length, ltT p q[k] = true) : UpT (insT q k p) := by
  have hq' : (q.take k ++ q.drop k).Pairwise fun a b => ltT a b = true := by rw [List.take_append_drop]; exact hq
  obtain ⟨ha, hb, hab⟩ := List.pairwise_append.1 hq'
  have hlt : ∀ x ∈ q.take k, ltT x p = true := fun x hx => by
    obtain ⟨j, hj, rfl⟩ := List.getElem_of_mem hx
    rw [List.length_take] at hj
    rw [List.getElem_take]
    exact h1 j (by omega) (by omega)
  have hgt : ∀ x ∈ q.drop k, ltT p x = true := fun x hx => by
    obtain ⟨j, hj, rfl⟩ := List.getElem_of_mem hx
    rw [List.length_drop] at hj
    rw [List.getElem_drop]
    have hk : k < q.length := by omega
    rcases Nat.eq_zero_or_pos j with rfl | hj0
    · exact h2 hk
    · exact ltT_trans (h2 hk) ((List.pairwise_iff_getElem.1 hq) k (k + j) hk (by omega) (by omega))
  unfold insT UpT
  rw [List.append_assoc, List.pairwise_append]
  refine ⟨ha, ?_, fun x hx y hy => ?_⟩
  · rw [List.singleton_append, List.pairwise_cons]
    exact ⟨hgt, hb⟩
  · rcases List.mem_append.1 hy with hy | hy
    · obtain rfl : y = p := by simpa using hy
      exact hlt x hx
    · exact hab x hx y hy
theorem insT_length (q : List Tup) (k : Nat) (p : Tup) : (insT q k p).length = q.length + 1 := by
  unfold insT
  have := congrArg List.length (List.take_append_drop k q)
  simp only [List.length_append, List.length_singleton] at this ⊢
  omega
set_option maxRecDepth 100000 in
set_option maxHeartbeats 8000000 in
theorem set25_any (v : Value) (l : List Tup) (w : World) (h : Sl (· < w.heap.size) w 6 v (tuCs l)) (hl : l.length ≤ 100000) (hok : ∀ t ∈ l, t.Ok) : Calls Tryz.prog 19 #[v] w fun e w' => ∃ (v' : Value) (l' : List Tup), e = .returned v' ∧ SetT l l' ∧ Own w' w.heap.size 104 6 v' (tuCs l') ∧ Below w.heap.size w w' := by
  obtain ⟨ao, c, rfl, hlc, hcm, hcell⟩ := Sl.rows tuC_length (by decide) (show Sl _ w 6 v (List.flatMap tuC l) from h)
  have HC := Lib.hid hcell
  have HL := Lib.hid hl
  have HOK := Lib.hid hok
  clear hcell h hl hok
  go_enter Tryz.func19, Tryz.ntmps19
  go_wp2_with fail
  go_loopw [3, 9] (fun vv ii wr => ∃ (i : Nat) (q : List Tup), i ≤ l.length ∧ ii = .int .i64 i ∧ Own wr w.heap.size 104 6 vv (tuCs q) ∧ UpT q ∧ (∀ x, x ∈ q ↔ x ∈ l.take i ∧ chkT x = true) ∧ q.length ≤ i ∧ Below w.heap.size w wr) (fun _ ii _ => l.length - (intOf ii).toNat)
  case atStart => exact ⟨0, [], by omega, rfl, Own.nil _ _ _ _, List.Pairwise.nil, by simp, by simp, Below.refl _ _⟩
  case round =>
    obtain ⟨i, q, hi, rfl, hown, hup, hmem, hql, hbel⟩ := hrel
    have HUPQ := Lib.hid hup
    have HMQ := Lib.hid hmem
    clear hup hmem
    by_cases hlt : i < l.length
    · obtain ⟨b, off, rfl, hb, hc⟩ := HC.out (by omega)
      have d0 := (hbel.cell (p := ⟨b, off + i * 6, none⟩) hb).trans (hc i hlt 0 _ rfl)
      have d1 := (hbel.cell (p := ⟨b, off + i * 6 + 1, none⟩) hb).trans (hc i hlt 1 _ rfl)
      have d2 := (hbel.cell (p := ⟨b, off + i * 6 + 2, none⟩) hb).trans (hc i hlt 2 _ rfl)
      have d3 := (hbel.cell (p := ⟨b, off + i * 6 + 3, none⟩) hb).trans (hc i hlt 3 _ rfl)
      have d4 := (hbel.cell (p := ⟨b, off + i * 6 + 4, none⟩) hb).trans (hc i hlt 4 _ rfl)
      have d5 := (hbel.cell (p := ⟨b, off + i * 6 + 5, none⟩) hb).trans (hc i hlt 5 _ rfl)
      have HOKP := Lib.hid (HOK.out _ (List.getElem_mem hlt))
      have HTK := Lib.hid (show ∀ x, x ∈ l.take (i + 1) ↔ x ∈ l.take i ∨ x = l[i] from fun x => by rw [List.take_succ_eq_append_getElem hlt, List.mem_append, List.mem_singleton])
      clear hc
      generalize l[i] = p at *
      obtain ⟨⟨pt, pi, pr⟩, ⟨qt, qi, qr⟩⟩ := p
      dsimp only at d0 d1 d2
      have hq2 : q.length ≤ 100000 := by have := HL.out; omega
      obtain ⟨mo, mc, rfl, hmk, hmm, hmc⟩ := Sl.rows tuC_length (by decide) (show Sl _ wr 6 u3 (List.flatMap tuC q) from hown.sl)
      have HSH := Lib.hid hown.shape
      obtain ⟨wP, hwP⟩ : ∃ wP, wP = wr.alloc (.cells #[.string pt, .string pi, .string pr, .string qt, .string qi, .string qr] 104) := ⟨_, rfl⟩
      have hbox : Blk wP wr.heap.size #[.string pt, .string pi, .string pr, .string qt, .string qi, .string qr] 104 := by rw [hwP]; exact Blk.made wr _ _
      have hE0 : Ext wr wP := by rw [hwP]; exact Ext.alloc _ _
      have HMC := Lib.hid (show 0 < q.length → ∃ b off, mo = some ⟨b, off, none⟩ ∧ b < wr.heap.size ∧ ∀ (k : Nat) (hk : k < q.length), wr.cell? ⟨b, off + k * 6, none⟩ = some (.string q[k].o.t) ∧ wr.cell? ⟨b, off + k * 6 + 1, none⟩ = some (.string q[k].o.i) ∧ wr.cell? ⟨b, off + k * 6 + 2, none⟩ = some (.string q[k].o.r) ∧ wr.cell? ⟨b, off + k * 6 + 3, none⟩ = some (.string q[k].s.t) ∧ wr.cell? ⟨b, off + k * 6 + 4, none⟩ = some (.string q[k].s.i) ∧ wr.cell? ⟨b, off + k * 6 + 5, none⟩ = some (.string q[k].s.r) from fun h0 => by
        obtain ⟨b, off, h1, h2, h3⟩ := hmc h0
        exact ⟨b, off, h1, h2.2, fun k hk => ⟨h3 k hk 0 _ rfl, h3 k hk 1 _ rfl, h3 k hk 2 _ rfl, h3 k hk 3 _ rfl, h3 k hk 4 _ rfl, h3 k hk 5 _ rfl⟩⟩)
      have HOW := Lib.hid hown
      have HBEL := Lib.hid hbel
      have HBOX := Lib.hid hbox
      have ht := hbox.cells
      have HCK := Lib.hid (refCheck_any ⟨⟨pt, pi, pr⟩, ⟨qt, qi, qr⟩⟩ HOKP.out wP)
      unfold tV at HCK
      dsimp only at HCK
      have HE0 := Lib.hid hE0
      have HLT := Lib.hid hlt
      have HWI := Lib.hid (show wrap64 ((i : Int) + 1) = ((i + 1 : Nat) : Int) from by have := HL.out; unfold wrap64; omega)
      have hli : (i : Int) < (l.length : Int) := by omega
      clear hown hmc hbox hE0 hbel hlt
      rw [hwP] at ht HCK
      go_wp2_with fail
      try rw [← hwP] at HCK ⊢
      clear hwP d0 d1 d2 d3 d4 d5 ht hli
      refine HCK.out.mono ?_
      rintro e wP2 ⟨rfl, hb2⟩
      have hE0 : Ext wr wP2 := HE0.out.trans hb2
      have hbox := HBOX.out.below hb2
      clear HCK HE0 HBOX hb2
      have HE0 := Lib.hid hE0
      have HBOX := Lib.hid hbox
      clear hE0 hbox wP
      obtain ⟨wP, rfl⟩ : ∃ x, x = wP2 := ⟨_, rfl⟩
      rcases hck : chkT ⟨⟨pt, pi, pr⟩, ⟨qt, qi, qr⟩⟩ with _ | _
      · have hcn : chkN ⟨⟨pt, pi, pr⟩, ⟨qt, qi, qr⟩⟩ = 2 := by simp [chkN, hck]
        have HMN := Lib.hid (show ∀ x, x ∈ q ↔ x ∈ l.take (i + 1) ∧ chkT x = true from fun x => by
          rw [HTK.out x, HMQ.out x]
          exact ⟨fun h => ⟨.inl h.1, h.2⟩, fun h => ⟨h.1.elim id fun e => absurd h.2 (by rw [e, hck]; decide), h.2⟩⟩)
        rw [hcn]
        clear hcn hck
        go_wp2_with fail
        go_roundw
        case rel => exact ⟨i + 1, q, by have := HLT.out; omega, by rw [HWI.out], HOW.out.below HE0.out, HUPQ.out, HMN.out, by have := HLT.out; omega, HBEL.out.trans (HE0.out.mono HBEL.out.size)⟩
        case measure => have := HLT.out; rw [HWI.out]; simp [intOf]; omega
      have hcn : chkN ⟨⟨pt, pi, pr⟩, ⟨qt, qi, qr⟩⟩ = 0 := by simp [chkN, hck]
      have HCHK := Lib.hid hck
      have hlt := HLT.out
      rw [hcn]
      clear hcn hck
      go_wp2_with fail
      obtain ⟨wr0, hwr0⟩ : ∃ wr0, wr0 = wr := ⟨_, rfl⟩
      rw [← hwr0] at HOW HBOX HE0 HMC HBEL ⊢
      clear hwr0
      go_loopw [6] (fun ii wr => ∃ k : Nat, k ≤ q.length ∧ ii = .int .i64 k ∧ (∀ j (hj : j < q.length), j < k → ltT q[j] ⟨⟨pt, pi, pr⟩, ⟨qt, qi, qr⟩⟩ = true) ∧ Below wP.heap.size wP wr) (fun ii _ => q.length - (intOf ii).toNat)
      case atStart => exact ⟨0, by omega, rfl, fun _ _ h => absurd h (by omega), Below.refl _ _⟩
      case round =>
        obtain ⟨k, hk, rfl, hall, hbr⟩ := hrel
        have HALL := Lib.hid hall
        have HEr := Lib.hid (HE0.out.trans hbr)
        have hBx := HBOX.out.below hbr
        clear hall
        by_cases hkl : k < q.length
        case' pos =>
          obtain ⟨b2, off2, rfl, hb2, hc2⟩ := HMC.out (by omega)
          obtain ⟨e0, e1, e2, e3, e4, e5⟩ := hc2 k hkl
          have hkd : decide ((k : Int) < (q.length : Int)) = true := by simp; omega
          have hNX := fun (h : ltT q[k] ⟨⟨pt, pi, pr⟩, ⟨qt, qi, qr⟩⟩ = true) => Lib.hid (upto_succ (p := fun j hj => ltT q[j] ⟨⟨pt, pi, pr⟩, ⟨qt, qi, qr⟩⟩ = true) HALL.out hkl h)
          have hIX := fun (h : ltT ⟨⟨pt, pi, pr⟩, ⟨qt, qi, qr⟩⟩ q[k] = true) => Lib.hid (insT_up (p := ⟨⟨pt, pi, pr⟩, ⟨qt, qi, qr⟩⟩) HUPQ.out HALL.out (fun _ => h))
          have hQM := List.getElem_mem hkl
          clear hc2
          generalize q[k] = u at *
          obtain ⟨⟨ut, ui, ur⟩, ⟨vt, vi, vr⟩⟩ := u
          dsimp only at e0 e1 e2
          have HLS := Lib.hid (fun W => cmp04_any ⟨⟨ut, ui, ur⟩, ⟨vt, vi, vr⟩⟩ ⟨⟨pt, pi, pr⟩, ⟨qt, qi, qr⟩⟩ W)
          have HCN := Lib.hid (cmpT_neg ⟨⟨ut, ui, ur⟩, ⟨vt, vi, vr⟩⟩ ⟨⟨pt, pi, pr⟩, ⟨qt, qi, qr⟩⟩)
          generalize cmpT ⟨⟨ut, ui, ur⟩, ⟨vt, vi, vr⟩⟩ ⟨⟨pt, pi, pr⟩, ⟨qt, qi, qr⟩⟩ = cv at *
          unfold tV at HLS
          dsimp only at HLS
          go_wp2_with fail
          obtain ⟨wd, hwd⟩ : ∃ wd, wd = wr.drew := ⟨_, rfl⟩
          have hEd : Ext wr0 wd := by rw [hwd]; exact HEr.out.trans (Ext.drew _)
          have hEw : Ext wr wd := by rw [hwd]; exact Ext.drew _
          have hBd : Blk wd wr0.heap.size #[.string pt, .string pi, .string pr, .string qt, .string qi, .string qr] 104 := by rw [hwd]; exact hBx.drew
          refine region_walkN (Ext wd) (by rw [← hwd]; exact Ext.refl _) (by kernel_rfl) (by kernel_rfl) (fun _ _ d _ _ h => by cases d <;> exact h) ?_
          rw [← hwd]
          clear hwd hBx
          have h1 : ∀ W, Ext wd W → ∀ i, W.cell? ⟨wr0.heap.size, i, none⟩ = (#[.string pt, .string pi, .string pr, .string qt, .string qi, .string qr] : Array Value)[i]? := fun W h => (hBd.below h).cells
          have g0 : ∀ W, Ext wd W → W.cell? ⟨b2, off2 + k * 6, none⟩ = some (.string ut) := fun W h => Ext.cell (hEd.trans h) e0
          have g1 : ∀ W, Ext wd W → W.cell? ⟨b2, off2 + k * 6 + 1, none⟩ = some (.string ui) := fun W h => Ext.cell (hEd.trans h) e1
          have g2 : ∀ W, Ext wd W → W.cell? ⟨b2, off2 + k * 6 + 2, none⟩ = some (.string ur) := fun W h => Ext.cell (hEd.trans h) e2
          have g3 : ∀ W, Ext wd W → W.cell? ⟨b2, off2 + k * 6 + 3, none⟩ = some (.string vt) := fun W h => Ext.cell (hEd.trans h) e3
          have g4 : ∀ W, Ext wd W → W.cell? ⟨b2, off2 + k * 6 + 4, none⟩ = some (.string vi) := fun W h => Ext.cell (hEd.trans h) e4
          have g5 : ∀ W, Ext wd W → W.cell? ⟨b2, off2 + k * 6 + 5, none⟩ = some (.string vr) := fun W h => Ext.cell (hEd.trans h) e5
          (refine WalkN.tk [0, 1, 2, 3, 4, 5, 6, 7, 8, 9] ?_; (iterate 10 ((refine TkN.c _ ?_ (by simp only [gtA, gtS, gtZ]; rfl) (by kernel_rfl) (by kernel_rfl) (by rfl) (fun W hW => ?_) ?_; rotate_left; · (go_simp; try with_reducible rfl)); simp only [Act.put, puA, puZ, puS])); refine TkN.n ?_)
          clear h1 g0 g1 g2 g3 g4 g5
          refine WalkN.one 10 (by kernel_rfl) ?_
          refine ⟨_, (by simp only [gtA, gtS, gtZ]; rfl), by rfl, fun K hK => ?_⟩
          go_simp
          refine (HLS.out _).mono ?_
          rintro e w4 ⟨rfl, hb4⟩
          refine hK.out _ _ hb4 ?_
          clear hK
          (refine WalkN.tk [11, 12] ?_; (iterate 2 ((refine TkN.c _ ?_ (by simp only [gtA, gtS, gtZ]; rfl) (by kernel_rfl) (by kernel_rfl) (by rfl) (fun W hW => ?_) ?_; rotate_left; · (go_simp; try with_reducible rfl)); simp only [Act.put, puA, puZ, puS])); refine TkN.n ?_)
          refine WalkN.done (by kernel_rfl) ?_
          rw [HCN.out]
          have HE4 := Lib.hid (hEd.trans hb4)
          have HBR4 := Lib.hid (show Ext wr w4 from hEw.trans hb4)
          have HB4 := Lib.hid (hBd.below hb4)
          clear hEd hBd hb4
          rcases hlb : ltT ⟨⟨ut, ui, ur⟩, ⟨vt, vi, vr⟩⟩ ⟨⟨pt, pi, pr⟩, ⟨qt, qi, qr⟩⟩ with _ | _
          rotate_left
          · have HH := hNX hlb
            clear hlb hNX hIX HALL
            go_wp2_with fail
            go_roundw
            case rel => exact ⟨k + 1, by omega, by go_num, HH.out, by exact hbr.trans (Below.mono (HBR4.out) hbr.size)⟩
            case measure => simp [intOf]; omega
          have hke : ((k : Int) == (q.length : Int)) = false := by rw [beq_eq_false_iff_ne]; omega
          have hne0 := fun W => tup_neq ⟨⟨ut, ui, ur⟩, ⟨vt, vi, vr⟩⟩ ⟨⟨pt, pi, pr⟩, ⟨qt, qi, qr⟩⟩ W
          unfold tV at hne0
          dsimp only at hne0
          by_cases hup : (⟨⟨ut, ui, ur⟩, ⟨vt, vi, vr⟩⟩ : Tup) = ⟨⟨pt, pi, pr⟩, ⟨qt, qi, qr⟩⟩
          · rw [decide_eq_false (fun h => h hup)] at hne0
            have HMN := Lib.hid (show ∀ x, x ∈ q ↔ x ∈ l.take (i + 1) ∧ chkT x = true from fun x => by
              rw [HTK.out x, HMQ.out x]
              constructor
              · exact fun h => ⟨.inl h.1, h.2⟩
              · rintro ⟨h | rfl, h2⟩
                · exact ⟨h, h2⟩
                · exact (HMQ.out _).1 (hup ▸ hQM))
            injection hup with hup1 hup2
            injection hup1 with hu1 hu2 hu3
            injection hup2 with hu4 hu5 hu6
            subst hu1 hu2 hu3 hu4 hu5 hu6
            clear hlb hNX hIX HALL hQM
            go_wp2_with fail
            obtain ⟨wd, hwd⟩ : ∃ wd, wd = w4.drew := ⟨_, rfl⟩
            have hEd : Ext wr0 wd := by rw [hwd]; exact HE4.out.trans (Ext.drew _)
            have hBd : Blk wd wr0.heap.size #[.string ut, .string ui, .string ur, .string vt, .string vi, .string vr] 104 := by rw [hwd]; exact HB4.out.drew
            refine region_walkN (Ext wd) (by rw [← hwd]; exact Ext.refl _) (by kernel_rfl) (by kernel_rfl) (fun _ _ d _ _ h => by cases d <;> exact h) ?_
            rw [← hwd]
            clear hwd
            have h1 : ∀ W, Ext wd W → ∀ i, W.cell? ⟨wr0.heap.size, i, none⟩ = (#[.string ut, .string ui, .string ur, .string vt, .string vi, .string vr] : Array Value)[i]? := fun W h => (hBd.below h).cells
            have g0 : ∀ W, Ext wd W → W.cell? ⟨b2, off2 + k * 6, none⟩ = some (.string ut) := fun W h => Ext.cell (hEd.trans h) e0
            have g1 : ∀ W, Ext wd W → W.cell? ⟨b2, off2 + k * 6 + 1, none⟩ = some (.string ui) := fun W h => Ext.cell (hEd.trans h) e1
            have g2 : ∀ W, Ext wd W → W.cell? ⟨b2, off2 + k * 6 + 2, none⟩ = some (.string ur) := fun W h => Ext.cell (hEd.trans h) e2
            have g3 : ∀ W, Ext wd W → W.cell? ⟨b2, off2 + k * 6 + 3, none⟩ = some (.string vt) := fun W h => Ext.cell (hEd.trans h) e3
            have g4 : ∀ W, Ext wd W → W.cell? ⟨b2, off2 + k * 6 + 4, none⟩ = some (.string vi) := fun W h => Ext.cell (hEd.trans h) e4
            have g5 : ∀ W, Ext wd W → W.cell? ⟨b2, off2 + k * 6 + 5, none⟩ = some (.string vr) := fun W h => Ext.cell (hEd.trans h) e5
            (refine WalkN.tk [0, 1, 2, 3, 4, 5, 6, 7, 8, 9, 10, 11] ?_; (iterate 12 ((refine TkN.c _ ?_ (by simp only [gtA, gtS, gtZ]; rfl) (by kernel_rfl) (by kernel_rfl) (by rfl) (fun W hW => ?_) ?_; rotate_left; · (go_simp; try with_reducible rfl)); simp only [Act.put, puA, puZ, puS])); refine TkN.n ?_)
            refine WalkN.done (by kernel_rfl) ?_
            have HOE := Lib.hid (HOW.out.below hEd)
            have HBE := Lib.hid (HBEL.out.trans (Below.mono hEd HBEL.out.size))
            clear h1 g0 g1 g2 g3 g4 g5 hEd hBd hne0 hke
            go_wp2_with fail
            go_roundw
            case rel => exact ⟨i + 1, q, by omega, by go_num, HOE.out, HUPQ.out, HMN.out, by omega, HBE.out⟩
            case measure => simp [intOf]; omega
          rw [decide_eq_true (show (⟨⟨ut, ui, ur⟩, ⟨vt, vi, vr⟩⟩ : Tup) ≠ ⟨⟨pt, pi, pr⟩, ⟨qt, qi, qr⟩⟩ from hup)] at hne0
          have HUP := hIX (ltT_total hlb hup)
          have HME := Lib.hid (show ∀ x, x ∈ insT q k ⟨⟨pt, pi, pr⟩, ⟨qt, qi, qr⟩⟩ ↔ x ∈ l.take (i + 1) ∧ chkT x = true from fun x => by rw [insT_mem, HMQ.out x, HTK.out x]; exact ⟨fun h => h.elim (fun h => ⟨.inl h.1, h.2⟩) fun h => ⟨.inr h, h ▸ HCHK.out⟩, fun h => h.1.elim (fun h1 => .inl ⟨h1, h.2⟩) .inr⟩)
          clear hlb hNX hIX HALL hQM hup
          go_wp2_with fail
          obtain ⟨wd, hwd⟩ : ∃ wd, wd = w4.drew := ⟨_, rfl⟩
          have hE6 : Ext wr0 wd := by rw [hwd]; exact HE4.out.trans (Ext.drew _)
          have hB6 : Blk wd wr0.heap.size #[.string pt, .string pi, .string pr, .string qt, .string qi, .string qr] 104 := by rw [hwd]; exact HB4.out.drew
          refine region_walkN (Ext wd) (by rw [← hwd]; exact Ext.refl _) (by kernel_rfl) (by kernel_rfl) (fun _ _ d _ _ h => by cases d <;> exact h) ?_
          rw [← hwd]
          clear hwd
          have h1 : ∀ W, Ext wd W → ∀ i, W.cell? ⟨wr0.heap.size, i, none⟩ = (#[.string pt, .string pi, .string pr, .string qt, .string qi, .string qr] : Array Value)[i]? := fun W h => (hB6.below h).cells
          have g0 : ∀ W, Ext wd W → W.cell? ⟨b2, off2 + k * 6, none⟩ = some (.string ut) := fun W h => Ext.cell (hE6.trans h) e0
          have g1 : ∀ W, Ext wd W → W.cell? ⟨b2, off2 + k * 6 + 1, none⟩ = some (.string ui) := fun W h => Ext.cell (hE6.trans h) e1
          have g2 : ∀ W, Ext wd W → W.cell? ⟨b2, off2 + k * 6 + 2, none⟩ = some (.string ur) := fun W h => Ext.cell (hE6.trans h) e2
          have g3 : ∀ W, Ext wd W → W.cell? ⟨b2, off2 + k * 6 + 3, none⟩ = some (.string vt) := fun W h => Ext.cell (hE6.trans h) e3
          have g4 : ∀ W, Ext wd W → W.cell? ⟨b2, off2 + k * 6 + 4, none⟩ = some (.string vi) := fun W h => Ext.cell (hE6.trans h) e4
          have g5 : ∀ W, Ext wd W → W.cell? ⟨b2, off2 + k * 6 + 5, none⟩ = some (.string vr) := fun W h => Ext.cell (hE6.trans h) e5
          (refine WalkN.tk [0, 1, 2, 3, 4, 5, 6, 7, 8, 9, 10, 11] ?_; (iterate 12 ((refine TkN.c _ ?_ (by simp only [gtA, gtS, gtZ]; rfl) (by kernel_rfl) (by kernel_rfl) (by rfl) (fun W hW => ?_) ?_; rotate_left; · (go_simp; try with_reducible rfl)); simp only [Act.put, puA, puZ, puS])); refine TkN.n ?_)
          refine WalkN.done (by kernel_rfl) ?_
          clear h1 g0 g1 g2 g3 g4 g5 hne0 hke e0 e1 e2 e3 e4 e5
          obtain ⟨w6, rfl⟩ : ∃ w6, w6 = wd := ⟨_, rfl⟩
          have hkc : (k : Int) ≤ mc := by omega
          have hkq : (k : Int) ≤ q.length := by omega
          go_wp2_with fail
          obtain ⟨wd, hwd⟩ : ∃ wd, wd = w6.drew := ⟨_, rfl⟩
          have hEd : Ext wr0 wd := by rw [hwd]; exact hE6.trans (Ext.drew _)
          have hBd : Blk wd wr0.heap.size #[.string pt, .string pi, .string pr, .string qt, .string qi, .string qr] 104 := by rw [hwd]; exact hB6.drew
          have hbd : Below w.heap.size w wd := HBEL.out.trans (Below.mono hEd HBEL.out.size)
          have hsd : Sl (· < wd.heap.size) wd 6 (.slice (some ⟨b2, off2, none⟩) q.length mc) (tuCs q) := HOW.out.slU.up hEd
          refine region_walkN (Ext wd) (by rw [← hwd]; exact Ext.refl _) (by kernel_rfl) (by kernel_rfl) (fun _ _ d _ _ h => by cases d <;> exact h) ?_
          rw [← hwd]
          clear hwd
          have HTW : ∀ W, Ext wd W → ∀ i, W.cell? ⟨wr0.heap.size, i, none⟩ = (#[.string pt, .string pi, .string pr, .string qt, .string qi, .string qr] : Array Value)[i]? := fun W h => (hBd.below h).cells
          (refine WalkN.tk [1, 2, 3, 5, 8, 9, 10] ?_; (iterate 7 ((refine TkN.c _ ?_ (by simp only [gtA, gtS, gtZ]; rfl) (by kernel_rfl) (by kernel_rfl) (by rfl) (fun W hW => ?_) ?_; rotate_left; · (go_simp; try with_reducible rfl)); simp only [Act.put, puA, puZ, puS])); refine TkN.n ?_)
          clear HTW
          have hE0 : Ext wd wd := Ext.refl _
          have hs1 : Sl (· < wd.heap.size) wd 6 (.slice (some ⟨b2, off2, none⟩) k mc) (tuCs (q.take k)) := by
            have := hsd.take k (by omega)
            rwa [tuCs_take] at this
          have hs2 : Sl (· < wd.heap.size) wd 6 (.slice (if mc = k then (some ⟨b2, off2, none⟩) else (some ⟨b2, off2 + k * 6, none⟩)) (q.length - k) (mc - k)) (tuCs (q.drop k)) := by
            have := hsd.tailK (ao' := (if mc = k then (some ⟨b2, off2, none⟩) else (some ⟨b2, off2 + k * 6, none⟩))) k (by omega) (fun h => by rw [if_neg h]; simp [Addr.add_lit])
            rwa [tuCs_drop] at this
          have HIN := Lib.hid (show [] ++ tuCs (q.take k) ++ tuCs [⟨⟨pt, pi, pr⟩, ⟨qt, qi, qr⟩⟩] ++ tuCs (q.drop k) = tuCs (insT q k ⟨⟨pt, pi, pr⟩, ⟨qt, qi, qr⟩⟩) from by rw [List.nil_append, ← tuCs_append, ← tuCs_append]; rfl)
          have hl1 : (q.take k).length ≤ 100000 := by rw [List.length_take]; omega
          have hl2 : (q.drop k).length ≤ 100000 := by rw [List.length_drop]; omega
          clear hsd
        case' neg =>
          obtain rfl : k = q.length := by omega
          have HUP := Lib.hid (insT_up (p := ⟨⟨pt, pi, pr⟩, ⟨qt, qi, qr⟩⟩) HUPQ.out HALL.out (fun h => absurd h hkl))
          have HME := Lib.hid (show ∀ x, x ∈ insT q q.length ⟨⟨pt, pi, pr⟩, ⟨qt, qi, qr⟩⟩ ↔ x ∈ l.take (i + 1) ∧ chkT x = true from fun x => by rw [insT_mem, HMQ.out x, HTK.out x]; exact ⟨fun h => h.elim (fun h => ⟨.inl h.1, h.2⟩) fun h => ⟨.inr h, h ▸ HCHK.out⟩, fun h => h.1.elim (fun h1 => .inl ⟨h1, h.2⟩) .inr⟩)
          have hkc : (q.length : Int) ≤ mc := by omega
          have hkq : (q.length : Int) ≤ q.length := by omega
          clear hkl HALL HMC hbr
          rcases HSH.out with ⟨hmn, -⟩ | ⟨b2, n', c', hmn⟩
          case' inl =>
            obtain rfl : mo = none := by injection hmn
            clear hmn HSH
            go_wp2_with fail
            obtain ⟨wc, hwc⟩ : ∃ wc, wc = wr.drew := ⟨_, rfl⟩
            have hEc : Ext wr0 wc := by rw [hwc]; exact HEr.out.trans (Ext.drew _)
            have hBc : Blk wc wr0.heap.size #[.string pt, .string pi, .string pr, .string qt, .string qi, .string qr] 104 := by rw [hwc]; exact hBx.drew
            refine region_walkN (Ext wc) (by rw [← hwc]; exact Ext.refl _) (by kernel_rfl) (by kernel_rfl) (fun _ _ d _ _ h => by cases d <;> exact h) ?_
            rw [← hwc]
            clear hwc
            (refine WalkN.tk [0, 1, 2, 3, 4] ?_; (iterate 5 ((refine TkN.c _ ?_ (by simp only [gtA, gtS, gtZ]; rfl) (by kernel_rfl) (by kernel_rfl) (by rfl) (fun W hW => ?_) ?_; rotate_left; · (go_simp; try with_reducible rfl)); simp only [Act.put, puA, puZ, puS])); refine TkN.n ?_)
            (refine WalkN.skip 5 _ (by simp only [gtA, gtS, gtZ]; rfl) (by kernel_rfl) (by kernel_rfl) (by rfl) ?_; simp only [Act.put, puA, puZ, puS]); (refine WalkN.skip 6 _ (by simp only [gtA, gtS, gtZ]; rfl) (by kernel_rfl) (by kernel_rfl) (by rfl) ?_; simp only [Act.put, puA, puZ, puS]); (refine WalkN.skip 7 _ (by simp only [gtA, gtS, gtZ]; rfl) (by kernel_rfl) (by kernel_rfl) (by rfl) ?_; simp only [Act.put, puA, puZ, puS]); (refine WalkN.skip 8 _ (by simp only [gtA, gtS, gtZ]; rfl) (by kernel_rfl) (by kernel_rfl) (by rfl) ?_; simp only [Act.put, puA, puZ, puS]); (refine WalkN.skip 9 _ (by simp only [gtA, gtS, gtZ]; rfl) (by kernel_rfl) (by kernel_rfl) (by rfl) ?_; simp only [Act.put, puA, puZ, puS]); (refine WalkN.skip 10 _ (by simp only [gtA, gtS, gtZ]; rfl) (by kernel_rfl) (by kernel_rfl) (by rfl) ?_; simp only [Act.put, puA, puZ, puS]); (refine WalkN.skip 11 _ (by simp only [gtA, gtS, gtZ]; rfl) (by kernel_rfl) (by kernel_rfl) (by rfl) ?_; simp only [Act.put, puA, puZ, puS])
            ((refine WalkN.take 12 _ ?_ (by simp only [gtA, gtS, gtZ]; rfl) (by kernel_rfl) (by kernel_rfl) (by rfl) (fun W hW => ?_) ?_; rotate_left; · (go_simp; try with_reducible rfl)); simp only [Act.put, puA, puZ, puS])
            refine WalkN.done (by kernel_rfl) ?_
            go_wp2_with fail
            obtain ⟨w6, hw6⟩ : ∃ w6, w6 = wc.drew := ⟨_, rfl⟩
            have hE6 : Ext wr0 w6 := by rw [hw6]; exact hEc.trans (Ext.drew _)
            have hB6 : Blk w6 wr0.heap.size #[.string pt, .string pi, .string pr, .string qt, .string qi, .string qr] 104 := by rw [hw6]; exact hBc.drew
            refine region_walkN (Ext w6) (by rw [← hw6]; exact Ext.refl _) (by kernel_rfl) (by kernel_rfl) (fun _ _ d _ _ h => by cases d <;> exact h) ?_
            rw [← hw6]
            clear hw6
            (refine WalkN.tk [0, 1, 2, 3, 4] ?_; (iterate 5 ((refine TkN.c _ ?_ (by simp only [gtA, gtS, gtZ]; rfl) (by kernel_rfl) (by kernel_rfl) (by rfl) (fun W hW => ?_) ?_; rotate_left; · (go_simp; try with_reducible rfl)); simp only [Act.put, puA, puZ, puS])); refine TkN.n ?_)
            (refine WalkN.skip 5 _ (by simp only [gtA, gtS, gtZ]; rfl) (by kernel_rfl) (by kernel_rfl) (by rfl) ?_; simp only [Act.put, puA, puZ, puS]); (refine WalkN.skip 6 _ (by simp only [gtA, gtS, gtZ]; rfl) (by kernel_rfl) (by kernel_rfl) (by rfl) ?_; simp only [Act.put, puA, puZ, puS]); (refine WalkN.skip 7 _ (by simp only [gtA, gtS, gtZ]; rfl) (by kernel_rfl) (by kernel_rfl) (by rfl) ?_; simp only [Act.put, puA, puZ, puS]); (refine WalkN.skip 8 _ (by simp only [gtA, gtS, gtZ]; rfl) (by kernel_rfl) (by kernel_rfl) (by rfl) ?_; simp only [Act.put, puA, puZ, puS]); (refine WalkN.skip 9 _ (by simp only [gtA, gtS, gtZ]; rfl) (by kernel_rfl) (by kernel_rfl) (by rfl) ?_; simp only [Act.put, puA, puZ, puS]); (refine WalkN.skip 10 _ (by simp only [gtA, gtS, gtZ]; rfl) (by kernel_rfl) (by kernel_rfl) (by rfl) ?_; simp only [Act.put, puA, puZ, puS])
            ((refine WalkN.take 11 _ ?_ (by simp only [gtA, gtS, gtZ]; rfl) (by kernel_rfl) (by kernel_rfl) (by rfl) (fun W hW => ?_) ?_; rotate_left; · (go_simp; try with_reducible rfl)); simp only [Act.put, puA, puZ, puS])
            refine WalkN.done (by kernel_rfl) ?_
            go_wp2_with fail
            obtain ⟨wd, hwd⟩ : ∃ wd, wd = w6.drew := ⟨_, rfl⟩
            have hEd : Ext wr0 wd := by rw [hwd]; exact hE6.trans (Ext.drew _)
            have hBd : Blk wd wr0.heap.size #[.string pt, .string pi, .string pr, .string qt, .string qi, .string qr] 104 := by rw [hwd]; exact hB6.drew
            have hbd : Below w.heap.size w wd := HBEL.out.trans (Below.mono hEd HBEL.out.size)
            have hsd : Sl (· < wd.heap.size) wd 6 (.slice none q.length mc) (tuCs q) := HOW.out.slU.up hEd
            refine region_walkN (Ext wd) (by rw [← hwd]; exact Ext.refl _) (by kernel_rfl) (by kernel_rfl) (fun _ _ d _ _ h => by cases d <;> exact h) ?_
            rw [← hwd]
            clear hwd
            have HTW : ∀ W, Ext wd W → ∀ i, W.cell? ⟨wr0.heap.size, i, none⟩ = (#[.string pt, .string pi, .string pr, .string qt, .string qi, .string qr] : Array Value)[i]? := fun W h => (hBd.below h).cells
            (refine WalkN.tk [1, 2, 3, 5, 8, 9, 10] ?_; (iterate 7 ((refine TkN.c _ ?_ (by simp only [gtA, gtS, gtZ]; rfl) (by kernel_rfl) (by kernel_rfl) (by rfl) (fun W hW => ?_) ?_; rotate_left; · (go_simp; try with_reducible rfl)); simp only [Act.put, puA, puZ, puS])); refine TkN.n ?_)
            clear HTW
            have hE0 : Ext wd wd := Ext.refl _
            have hs1 : Sl (· < wd.heap.size) wd 6 (.slice none q.length mc) (tuCs (q.take q.length)) := by
              have := hsd.take q.length (by omega)
              rwa [tuCs_take] at this
            have hs2 : Sl (· < wd.heap.size) wd 6 (.slice none 0 (mc - q.length)) (tuCs (q.drop q.length)) := by
              have := hsd.tailK (ao' := none) q.length (by omega) (fun _ => rfl)
              rwa [tuCs_drop, Nat.sub_self] at this
            obtain ⟨k, hk⟩ : ∃ k, k = q.length := ⟨_, rfl⟩
            have HUP := Lib.hid (show UpT (insT q k ⟨⟨pt, pi, pr⟩, ⟨qt, qi, qr⟩⟩) from by rw [hk]; exact HUP.out)
            have HME := Lib.hid (show ∀ x, x ∈ insT q k ⟨⟨pt, pi, pr⟩, ⟨qt, qi, qr⟩⟩ ↔ x ∈ l.take (i + 1) ∧ chkT x = true from by rw [hk]; exact HME.out)
            have HIN := Lib.hid (show [] ++ tuCs (q.take q.length) ++ tuCs [⟨⟨pt, pi, pr⟩, ⟨qt, qi, qr⟩⟩] ++ tuCs (q.drop q.length) = tuCs (insT q k ⟨⟨pt, pi, pr⟩, ⟨qt, qi, qr⟩⟩) from by rw [hk, List.nil_append, ← tuCs_append, ← tuCs_append]; rfl)
            clear hk
            have hl1 : (q.take q.length).length ≤ 100000 := by rw [List.length_take]; omega
            have hl2 : (q.drop q.length).length ≤ 100000 := by rw [List.length_drop]; omega
            clear hsd
          case' inr =>
            obtain ⟨off2, rfl⟩ : ∃ off2, mo = some ⟨b2, off2, none⟩ := ⟨0, by injection hmn⟩
            clear hmn HSH
            go_wp2_with fail
            obtain ⟨wc, hwc⟩ : ∃ wc, wc = wr.drew := ⟨_, rfl⟩
            have hEc : Ext wr0 wc := by rw [hwc]; exact HEr.out.trans (Ext.drew _)
            have hBc : Blk wc wr0.heap.size #[.string pt, .string pi, .string pr, .string qt, .string qi, .string qr] 104 := by rw [hwc]; exact hBx.drew
            refine region_walkN (Ext wc) (by rw [← hwc]; exact Ext.refl _) (by kernel_rfl) (by kernel_rfl) (fun _ _ d _ _ h => by cases d <;> exact h) ?_
            rw [← hwc]
            clear hwc
            (refine WalkN.tk [0, 1, 2, 3, 4] ?_; (iterate 5 ((refine TkN.c _ ?_ (by simp only [gtA, gtS, gtZ]; rfl) (by kernel_rfl) (by kernel_rfl) (by rfl) (fun W hW => ?_) ?_; rotate_left; · (go_simp; try with_reducible rfl)); simp only [Act.put, puA, puZ, puS])); refine TkN.n ?_)
            (refine WalkN.skip 5 _ (by simp only [gtA, gtS, gtZ]; rfl) (by kernel_rfl) (by kernel_rfl) (by rfl) ?_; simp only [Act.put, puA, puZ, puS]); (refine WalkN.skip 6 _ (by simp only [gtA, gtS, gtZ]; rfl) (by kernel_rfl) (by kernel_rfl) (by rfl) ?_; simp only [Act.put, puA, puZ, puS]); (refine WalkN.skip 7 _ (by simp only [gtA, gtS, gtZ]; rfl) (by kernel_rfl) (by kernel_rfl) (by rfl) ?_; simp only [Act.put, puA, puZ, puS]); (refine WalkN.skip 8 _ (by simp only [gtA, gtS, gtZ]; rfl) (by kernel_rfl) (by kernel_rfl) (by rfl) ?_; simp only [Act.put, puA, puZ, puS]); (refine WalkN.skip 9 _ (by simp only [gtA, gtS, gtZ]; rfl) (by kernel_rfl) (by kernel_rfl) (by rfl) ?_; simp only [Act.put, puA, puZ, puS]); (refine WalkN.skip 10 _ (by simp only [gtA, gtS, gtZ]; rfl) (by kernel_rfl) (by kernel_rfl) (by rfl) ?_; simp only [Act.put, puA, puZ, puS]); (refine WalkN.skip 11 _ (by simp only [gtA, gtS, gtZ]; rfl) (by kernel_rfl) (by kernel_rfl) (by rfl) ?_; simp only [Act.put, puA, puZ, puS])
            ((refine WalkN.take 12 _ ?_ (by simp only [gtA, gtS, gtZ]; rfl) (by kernel_rfl) (by kernel_rfl) (by rfl) (fun W hW => ?_) ?_; rotate_left; · (go_simp; try with_reducible rfl)); simp only [Act.put, puA, puZ, puS])
            refine WalkN.done (by kernel_rfl) ?_
            go_wp2_with fail
            obtain ⟨w6, hw6⟩ : ∃ w6, w6 = wc.drew := ⟨_, rfl⟩
            have hE6 : Ext wr0 w6 := by rw [hw6]; exact hEc.trans (Ext.drew _)
            have hB6 : Blk w6 wr0.heap.size #[.string pt, .string pi, .string pr, .string qt, .string qi, .string qr] 104 := by rw [hw6]; exact hBc.drew
            refine region_walkN (Ext w6) (by rw [← hw6]; exact Ext.refl _) (by kernel_rfl) (by kernel_rfl) (fun _ _ d _ _ h => by cases d <;> exact h) ?_
            rw [← hw6]
            clear hw6
            (refine WalkN.tk [0, 1, 2, 3, 4] ?_; (iterate 5 ((refine TkN.c _ ?_ (by simp only [gtA, gtS, gtZ]; rfl) (by kernel_rfl) (by kernel_rfl) (by rfl) (fun W hW => ?_) ?_; rotate_left; · (go_simp; try with_reducible rfl)); simp only [Act.put, puA, puZ, puS])); refine TkN.n ?_)
            (refine WalkN.skip 5 _ (by simp only [gtA, gtS, gtZ]; rfl) (by kernel_rfl) (by kernel_rfl) (by rfl) ?_; simp only [Act.put, puA, puZ, puS]); (refine WalkN.skip 6 _ (by simp only [gtA, gtS, gtZ]; rfl) (by kernel_rfl) (by kernel_rfl) (by rfl) ?_; simp only [Act.put, puA, puZ, puS]); (refine WalkN.skip 7 _ (by simp only [gtA, gtS, gtZ]; rfl) (by kernel_rfl) (by kernel_rfl) (by rfl) ?_; simp only [Act.put, puA, puZ, puS]); (refine WalkN.skip 8 _ (by simp only [gtA, gtS, gtZ]; rfl) (by kernel_rfl) (by kernel_rfl) (by rfl) ?_; simp only [Act.put, puA, puZ, puS]); (refine WalkN.skip 9 _ (by simp only [gtA, gtS, gtZ]; rfl) (by kernel_rfl) (by kernel_rfl) (by rfl) ?_; simp only [Act.put, puA, puZ, puS]); (refine WalkN.skip 10 _ (by simp only [gtA, gtS, gtZ]; rfl) (by kernel_rfl) (by kernel_rfl) (by rfl) ?_; simp only [Act.put, puA, puZ, puS])
            ((refine WalkN.take 11 _ ?_ (by simp only [gtA, gtS, gtZ]; rfl) (by kernel_rfl) (by kernel_rfl) (by rfl) (fun W hW => ?_) ?_; rotate_left; · (go_simp; try with_reducible rfl)); simp only [Act.put, puA, puZ, puS])
            refine WalkN.done (by kernel_rfl) ?_
            go_wp2_with fail
            obtain ⟨wd, hwd⟩ : ∃ wd, wd = w6.drew := ⟨_, rfl⟩
            have hEd : Ext wr0 wd := by rw [hwd]; exact hE6.trans (Ext.drew _)
            have hBd : Blk wd wr0.heap.size #[.string pt, .string pi, .string pr, .string qt, .string qi, .string qr] 104 := by rw [hwd]; exact hB6.drew
            have hbd : Below w.heap.size w wd := HBEL.out.trans (Below.mono hEd HBEL.out.size)
            have hsd : Sl (· < wd.heap.size) wd 6 (.slice (some ⟨b2, off2, none⟩) q.length mc) (tuCs q) := HOW.out.slU.up hEd
            refine region_walkN (Ext wd) (by rw [← hwd]; exact Ext.refl _) (by kernel_rfl) (by kernel_rfl) (fun _ _ d _ _ h => by cases d <;> exact h) ?_
            rw [← hwd]
            clear hwd
            have HTW : ∀ W, Ext wd W → ∀ i, W.cell? ⟨wr0.heap.size, i, none⟩ = (#[.string pt, .string pi, .string pr, .string qt, .string qi, .string qr] : Array Value)[i]? := fun W h => (hBd.below h).cells
            (refine WalkN.tk [1, 2, 3, 5, 8, 9, 10] ?_; (iterate 7 ((refine TkN.c _ ?_ (by simp only [gtA, gtS, gtZ]; rfl) (by kernel_rfl) (by kernel_rfl) (by rfl) (fun W hW => ?_) ?_; rotate_left; · (go_simp; try with_reducible rfl)); simp only [Act.put, puA, puZ, puS])); refine TkN.n ?_)
            clear HTW
            have hE0 : Ext wd wd := Ext.refl _
            have hs1 : Sl (· < wd.heap.size) wd 6 (.slice (some ⟨b2, off2, none⟩) q.length mc) (tuCs (q.take q.length)) := by
              have := hsd.take q.length (by omega)
              rwa [tuCs_take] at this
            have hs2 : Sl (· < wd.heap.size) wd 6 (.slice (if mc = q.length then (some ⟨b2, off2, none⟩) else (some ⟨b2, off2 + q.length * 6, none⟩)) 0 (mc - q.length)) (tuCs (q.drop q.length)) := by
              have := hsd.tailK (ao' := (if mc = q.length then (some ⟨b2, off2, none⟩) else (some ⟨b2, off2 + q.length * 6, none⟩))) q.length (by omega) (fun h => by rw [if_neg h]; simp [Addr.add_lit])
              rwa [tuCs_drop, Nat.sub_self] at this
            obtain ⟨k, hk⟩ : ∃ k, k = q.length := ⟨_, rfl⟩
            have HUP := Lib.hid (show UpT (insT q k ⟨⟨pt, pi, pr⟩, ⟨qt, qi, qr⟩⟩) from by rw [hk]; exact HUP.out)
            have HME := Lib.hid (show ∀ x, x ∈ insT q k ⟨⟨pt, pi, pr⟩, ⟨qt, qi, qr⟩⟩ ↔ x ∈ l.take (i + 1) ∧ chkT x = true from by rw [hk]; exact HME.out)
            have HIN := Lib.hid (show [] ++ tuCs (q.take q.length) ++ tuCs [⟨⟨pt, pi, pr⟩, ⟨qt, qi, qr⟩⟩] ++ tuCs (q.drop q.length) = tuCs (insT q k ⟨⟨pt, pi, pr⟩, ⟨qt, qi, qr⟩⟩) from by rw [hk, List.nil_append, ← tuCs_append, ← tuCs_append]; rfl)
            clear hk
            have hl1 : (q.take q.length).length ≤ 100000 := by rw [List.length_take]; omega
            have hl2 : (q.drop q.length).length ≤ 100000 := by rw [List.length_drop]; omega
            clear hsd
        all_goals
          refine WalkN.two 0 6 (by kernel_rfl) ?_ ?_
          · refine ⟨_, (by simp only [gtA, gtZ]; rfl), by rfl, fun K hK => ?_⟩
            go_simp
            have hown1 : Own (wd.alloc (.cells #[] 104)) wd.heap.size 104 6 (.slice (some ⟨wd.heap.size, 0, none⟩) 0 0) [] := Own.made wd (Nat.le_refl _) _ _
            have hE1 := Below.alloc hE0 (Nat.le_refl _) (.cells #[] 104)
            refine hK.out _ _ hE1 ?_
            clear hK
            refine WalkN.two 4 6 (by kernel_rfl) ?_ ?_
            · refine ⟨_, (by simp only [gtA, gtS, gtZ]; rfl), by rfl, fun K hK => ?_⟩
              refine wp_own tupT (.tmp 43) (.tmp 46) rfl rfl hown1 rfl (hs1.same (Same.below hE1)) (tuCs_one _) (by simp [tuCs_length] <;> omega) (by simp [tuCs_length] <;> omega) hE1.size (fun v2 w2 hown2 hb2 hg2' => ?_)
              have hE2 : Ext wd w2 := Below.trans hE1 hb2
              refine hK.out _ _ hE2 ?_
              clear hK
              simp only [Act.put, puA, puZ, puS]
              refine WalkN.one 6 (by kernel_rfl) ?_
              refine ⟨_, (by simp only [gtA, gtS, gtZ]; rfl), by rfl, fun K hK => ?_⟩
              go_simp
              have hE3 := Below.alloc hE2 hE2.size (.cells #[.string pt, .string pi, .string pr, .string qt, .string qi, .string qr] 104)
              have hown3 := hown2.below ((Below.refl _ _).alloc (Nat.le_refl _) (.cells #[.string pt, .string pi, .string pr, .string qt, .string qi, .string qr] 104))
              have hk3 : Sl (fun _ => True) (w2.alloc (.cells #[.string pt, .string pi, .string pr, .string qt, .string qi, .string qr] 104)) 6 (.slice (some ⟨w2.heap.size, 0, none⟩) 1 1) (tuCs [⟨⟨pt, pi, pr⟩, ⟨qt, qi, qr⟩⟩]) := Sl.made w2 (fun _ => True) 6 1 104 #[.string pt, .string pi, .string pr, .string qt, .string qi, .string qr] rfl (by decide) trivial
              refine hK.out _ _ hE3 ?_
              clear hK
              refine WalkN.one 7 (by kernel_rfl) ?_
              refine ⟨_, (by simp only [gtA, gtS, gtZ]; rfl), by rfl, fun K hK => ?_⟩
              refine wp_own tupT (.tmp 47) (.tmp 49) rfl rfl hown3 rfl hk3 (tuCs_one _) (by simp [tuCs_length] <;> omega) (by simp [tuCs_length] <;> omega) hE3.size (fun v4 w4 hown4 hb4 _ => ?_)
              have hE4 : Ext wd w4 := Below.trans hE3 hb4
              refine hK.out _ _ hE4 ?_
              clear hK
              simp only [Act.put, puA, puZ, puS]
              refine WalkN.one 11 (by kernel_rfl) ?_
              refine ⟨_, (by simp only [gtA, gtS, gtZ]; rfl), by rfl, fun K hK => ?_⟩
              refine wp_own tupT (.tmp 50) (.tmp 53) rfl rfl hown4 rfl (hs2.same (Same.below hE4)) (tuCs_one _) (by simp [tuCs_length] <;> omega) (by simp [tuCs_length] <;> omega) hE4.size (fun v5 w5 hown5 hb5 _ => ?_)
              have hE5 : Ext wd w5 := Below.trans hE4 hb5
              have HO5 := Lib.hid hown5
              refine hK.out _ _ hE5 ?_
              clear hK
              simp only [Act.put, puA, puZ, puS]
              clear hown3 hown4 hown5 hk3
              ((refine WalkN.take 12 _ ?_ (by simp only [gtA, gtS, gtZ]; rfl) (by kernel_rfl) (by kernel_rfl) (by rfl) (fun W hW => ?_) ?_; rotate_left; · (go_simp; try with_reducible rfl)); simp only [Act.put, puA, puZ, puS])
              refine WalkN.done (by kernel_rfl) ?_
              go_wp2
              go_roundw
              case rel => exact ⟨i + 1, insT q k ⟨⟨pt, pi, pr⟩, ⟨qt, qi, qr⟩⟩, by omega, by go_num, (HIN.out ▸ HO5.out : Own w5 wd.heap.size 104 6 v5 (tuCs (insT q k ⟨⟨pt, pi, pr⟩, ⟨qt, qi, qr⟩⟩))).base hbd.size, HUP.out, HME.out, by rw [insT_length]; omega, hbd.trans (Below.mono hE5 hbd.size)⟩
              case measure => simp [intOf]; omega
            · obtain ⟨w1, hw1⟩ : ∃ w1, w1 = wd.alloc (.cells #[] 104) := ⟨_, rfl⟩
              rw [← hw1] at hown1 hE1 ⊢
              have hs1' : w1.heap.size = wd.heap.size + 1 := by rw [hw1]; simp
              have HS1 := Lib.hid hs1'
              clear hw1 hs1'
              refine ⟨_, (by simp only [gtA, gtS, gtZ]; rfl), by rfl, fun K hK => ?_⟩
              go_simp
              have hE3 := Below.alloc hE1 hE1.size (.cells #[.string pt, .string pi, .string pr, .string qt, .string qi, .string qr] 104)
              have hown3 := hown1.below ((Below.refl _ _).alloc (Nat.le_refl _) (.cells #[.string pt, .string pi, .string pr, .string qt, .string qi, .string qr] 104))
              have hk3 : Sl (fun b => b = w1.heap.size) (w1.alloc (.cells #[.string pt, .string pi, .string pr, .string qt, .string qi, .string qr] 104)) 6 (.slice (some ⟨w1.heap.size, 0, none⟩) 1 1) (tuCs [⟨⟨pt, pi, pr⟩, ⟨qt, qi, qr⟩⟩]) := Sl.made w1 (fun b => b = w1.heap.size) 6 1 104 #[.string pt, .string pi, .string pr, .string qt, .string qi, .string qr] rfl (by decide) rfl
              refine hK.out _ _ hE3 ?_
              clear hK
              refine WalkN.one 4 (by kernel_rfl) ?_
              refine ⟨_, (by simp only [gtA, gtS, gtZ]; rfl), by rfl, fun K hK => ?_⟩
              refine wp_own tupT (.tmp 43) (.tmp 46) rfl rfl hown3 rfl (hs1.same (Same.below hE3)) (tuCs_one _) (by simp [tuCs_length] <;> omega) (by simp [tuCs_length] <;> omega) hE3.size (fun v2 w2 hown2 hb2 hg2' => ?_)
              have hE2 : Ext wd w2 := Below.trans hE3 hb2
              have hk5 := hk3.same (w' := w2) (fun x hx => hg2'.block x (by subst hx; simp) (fun h => by subst hx; have h2 := Option.some.inj (show some w1.heap.size = some wd.heap.size from h); have := HS1.out; omega))
              refine hK.out _ _ hE2 ?_
              clear hK
              simp only [Act.put, puA, puZ, puS]
              refine WalkN.one 7 (by kernel_rfl) ?_
              refine ⟨_, (by simp only [gtA, gtS, gtZ]; rfl), by rfl, fun K hK => ?_⟩
              refine wp_own tupT (.tmp 47) (.tmp 49) rfl rfl hown2 rfl hk5 (tuCs_one _) (by simp [tuCs_length] <;> omega) (by simp [tuCs_length] <;> omega) hE2.size (fun v4 w4 hown4 hb4 _ => ?_)
              have hE4 : Ext wd w4 := Below.trans hE2 hb4
              refine hK.out _ _ hE4 ?_
              clear hK
              simp only [Act.put, puA, puZ, puS]
              refine WalkN.one 11 (by kernel_rfl) ?_
              refine ⟨_, (by simp only [gtA, gtS, gtZ]; rfl), by rfl, fun K hK => ?_⟩
              refine wp_own tupT (.tmp 50) (.tmp 53) rfl rfl hown4 rfl (hs2.same (Same.below hE4)) (tuCs_one _) (by simp [tuCs_length] <;> omega) (by simp [tuCs_length] <;> omega) hE4.size (fun v5 w5 hown5 hb5 _ => ?_)
              have hE5 : Ext wd w5 := Below.trans hE4 hb5
              have HO5 := Lib.hid hown5
              refine hK.out _ _ hE5 ?_
              clear hK
              simp only [Act.put, puA, puZ, puS]
              clear hown2 hown4 hown5 hk5
              ((refine WalkN.take 12 _ ?_ (by simp only [gtA, gtS, gtZ]; rfl) (by kernel_rfl) (by kernel_rfl) (by rfl) (fun W hW => ?_) ?_; rotate_left; · (go_simp; try with_reducible rfl)); simp only [Act.put, puA, puZ, puS])
              refine WalkN.done (by kernel_rfl) ?_
              go_wp2
              go_roundw
              case rel => exact ⟨i + 1, insT q k ⟨⟨pt, pi, pr⟩, ⟨qt, qi, qr⟩⟩, by omega, by go_num, (HIN.out ▸ HO5.out : Own w5 wd.heap.size 104 6 v5 (tuCs (insT q k ⟨⟨pt, pi, pr⟩, ⟨qt, qi, qr⟩⟩))).base hbd.size, HUP.out, HME.out, by rw [insT_length]; omega, hbd.trans (Below.mono hE5 hbd.size)⟩
              case measure => simp [intOf]; omega
          · refine ⟨_, (by simp only [gtA, gtS, gtZ]; rfl), by rfl, fun K hK => ?_⟩
            go_simp
            have hE1 := Below.alloc hE0 (Nat.le_refl _) (.cells #[.string pt, .string pi, .string pr, .string qt, .string qi, .string qr] 104)
            have hk1 : Sl (fun b => b = wd.heap.size) (wd.alloc (.cells #[.string pt, .string pi, .string pr, .string qt, .string qi, .string qr] 104)) 6 (.slice (some ⟨wd.heap.size, 0, none⟩) 1 1) (tuCs [⟨⟨pt, pi, pr⟩, ⟨qt, qi, qr⟩⟩]) := Sl.made wd (fun b => b = wd.heap.size) 6 1 104 #[.string pt, .string pi, .string pr, .string qt, .string qi, .string qr] rfl (by decide) rfl
            refine hK.out _ _ hE1 ?_
            clear hK
            obtain ⟨w1, hw1⟩ : ∃ w1, w1 = wd.alloc (.cells #[.string pt, .string pi, .string pr, .string qt, .string qi, .string qr] 104) := ⟨_, rfl⟩
            rw [← hw1] at hk1 hE1 ⊢
            have hs1' : w1.heap.size = wd.heap.size + 1 := by rw [hw1]; simp
            have HS1 := Lib.hid hs1'
            clear hw1 hs1'
            refine WalkN.one 0 (by kernel_rfl) ?_
            refine ⟨_, (by simp only [gtA, gtZ]; rfl), by rfl, fun K hK => ?_⟩
            go_simp
            have hown1 : Own (w1.alloc (.cells #[] 104)) wd.heap.size 104 6 (.slice (some ⟨w1.heap.size, 0, none⟩) 0 0) [] := Own.made w1 hE1.size _ _
            have hE3 := Below.alloc hE1 hE1.size (.cells #[] 104)
            have hk3 := hk1.same (w' := w1.alloc (.cells #[] 104)) (fun x hx => Below.heap_alloc w1 _ x (by subst hx; have := HS1.out; omega))
            refine hK.out _ _ hE3 ?_
            clear hK
            refine WalkN.one 4 (by kernel_rfl) ?_
            refine ⟨_, (by simp only [gtA, gtS, gtZ]; rfl), by rfl, fun K hK => ?_⟩
            refine wp_own tupT (.tmp 43) (.tmp 46) rfl rfl hown1 rfl (hs1.same (Same.below hE3)) (tuCs_one _) (by simp [tuCs_length] <;> omega) (by simp [tuCs_length] <;> omega) hE3.size (fun v2 w2 hown2 hb2 hg2' => ?_)
            have hE2 : Ext wd w2 := Below.trans hE3 hb2
            have hk5 := hk3.same (w' := w2) (fun x hx => hg2'.block x (by subst hx; have := HS1.out; simp; omega) (fun h => by subst hx; have h2 := Option.some.inj (show some wd.heap.size = some w1.heap.size from h); have := HS1.out; omega))
            refine hK.out _ _ hE2 ?_
            clear hK
            simp only [Act.put, puA, puZ, puS]
            refine WalkN.one 7 (by kernel_rfl) ?_
            refine ⟨_, (by simp only [gtA, gtS, gtZ]; rfl), by rfl, fun K hK => ?_⟩
            refine wp_own tupT (.tmp 47) (.tmp 49) rfl rfl hown2 rfl hk5 (tuCs_one _) (by simp [tuCs_length] <;> omega) (by simp [tuCs_length] <;> omega) hE2.size (fun v4 w4 hown4 hb4 _ => ?_)
            have hE4 : Ext wd w4 := Below.trans hE2 hb4
            refine hK.out _ _ hE4 ?_
            clear hK
            simp only [Act.put, puA, puZ, puS]
            refine WalkN.one 11 (by kernel_rfl) ?_
            refine ⟨_, (by simp only [gtA, gtS, gtZ]; rfl), by rfl, fun K hK => ?_⟩
            refine wp_own tupT (.tmp 50) (.tmp 53) rfl rfl hown4 rfl (hs2.same (Same.below hE4)) (tuCs_one _) (by simp [tuCs_length] <;> omega) (by simp [tuCs_length] <;> omega) hE4.size (fun v5 w5 hown5 hb5 _ => ?_)
            have hE5 : Ext wd w5 := Below.trans hE4 hb5
            have HO5 := Lib.hid hown5
            refine hK.out _ _ hE5 ?_
            clear hK
            simp only [Act.put, puA, puZ, puS]
            clear hown2 hown4 hown5 hk5
            ((refine WalkN.take 12 _ ?_ (by simp only [gtA, gtS, gtZ]; rfl) (by kernel_rfl) (by kernel_rfl) (by rfl) (fun W hW => ?_) ?_; rotate_left; · (go_simp; try with_reducible rfl)); simp only [Act.put, puA, puZ, puS])
            refine WalkN.done (by kernel_rfl) ?_
            go_wp2
            go_roundw
            case rel => exact ⟨i + 1, insT q k ⟨⟨pt, pi, pr⟩, ⟨qt, qi, qr⟩⟩, by omega, by go_num, (HIN.out ▸ HO5.out : Own w5 wd.heap.size 104 6 v5 (tuCs (insT q k ⟨⟨pt, pi, pr⟩, ⟨qt, qi, qr⟩⟩))).base hbd.size, HUP.out, HME.out, by rw [insT_length]; omega, hbd.trans (Below.mono hE5 hbd.size)⟩
            case measure => simp [intOf]; omega
    · obtain rfl : i = l.length := by omega
      obtain ⟨mo, mc, rfl, -, -, -⟩ := Sl.rows tuC_length (by decide) (show Sl _ wr 6 u3 (List.flatMap tuC q) from hown.sl)
      rw [List.take_length] at HMQ
      have HOW := Lib.hid hown
      clear hown
      go_wp2_with fail
      go_ret
      exact ⟨_, q, rfl, ⟨HUPQ.out, HMQ.out⟩, HOW.out, hbel⟩
end Go.Proofs.YtjdigpfipmckhaaGreat
