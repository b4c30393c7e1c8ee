/- Lemmas for the claim, no condition. -/
import Derived.Test.YtjdigpfipmckhaaGreatYReWalks34
import Derived.Test.YtjdigpfipmckhaaGreatYReWalks28
import Derived.Test.YtjdigpfipmckhaaGreatYReWalks9
import Derived.Test.YtjdigpfipmckhaaGreatYReWalks10
import Derived.Test.YtjdigpfipmckhaaGreatYReWalks0
import Derived.Test.YtjdigpfipmckhaaGreatYReWalks21
import Derived.Test.YtjdigpfipmckhaaGreatYReWalks24
namespace Go.Proofs.YtjdigpfipmckhaaGreat
open Go Go.RowKit
attribute [local go_sem] Oper.semAt_some
set_option maxRecDepth 100000 in
set_option maxHeartbeats 2000000 in
theorem valsV_in (F : Fence) (n : Nat) (hf : F.fn 127) (hro : F.round = none) (hn : 1 ≤ n) (l Bs n₀ B0 : Nat) (ao : Option Addr) (cap : Nat) (zs : List P3) (hl : zs.length ≤ 1099511627776) (J Jx : List P3 → World → Prop) (hA : AbidesFrom B0 J)
    (hY : ∀ pre x W, J pre W → pre.length < zs.length → YieldAt F (n - 1) Tryz.prog l #[pV x] W fun e W' =>
      (e = .returned (.bool true) ∧ J (pre ++ [x]) W' ∧ Below n₀ W W') ∨ (e = .returned (.bool false) ∧ Jx (pre ++ [x]) W'))
    (W : World) (hn0 : n₀ ≤ W.heap.size) (hBs : W.cell? ⟨Bs, 0, none⟩ = some (.slice ao zs.length cap)) (hc : Sl (· < n₀) W 3 (.slice ao zs.length cap) (zs.flatMap pC)) (h0 : J [] W) :
    CallsIn F n Tryz.prog 127 #[.func (.yield l) #[] #[], .pointer (some ⟨Bs, 0, none⟩)] W fun e W' => (∃ v, e = .returned v) ∧
      ((∃ ys, ys = zs ∧ J ys W') ∨ (∃ pre, pre <+: zs ∧ Jx pre W')) := by
  refine callsIn_of_wp Tryz.func127 rfl hf ?_ hro
  simp only [Tryz.ntmps127, List.size_toArray, List.length_cons, List.length_nil, Nat.reduceAdd, Nat.reduceSub, Array.replicate_succ, Array.replicate_zero, List.push_toArray, List.append_toArray, List.nil_append, List.cons_append]
  gi_wp2
  gi_loopw [7] (fun i wr => ∃ k : Nat, k ≤ zs.length ∧ i = .int .i64 k ∧ J (zs.take k) wr ∧ Below n₀ W wr)
    (fun i _ => zs.length - (intOf i).toNat)
  case atStart => exact ⟨0, Nat.zero_le _, rfl, h0, Below.refl _ _⟩
  case round =>
    obtain ⟨k, hk, rfl, hJs, hnx⟩ := hrel
    by_cases hlt : k < zs.length
    · obtain ⟨ao', c', he', -, -, hcell⟩ := Sl.rows pC_length (by decide) (hc.same (w' := wr) fun x hx => hnx.block x hx)
      cases he'
      obtain ⟨bq, oq, rfl, -, hcell⟩ := hcell (by omega)
      have hck := hcell k hlt
      have hts := List.take_succ_eq_append_getElem hlt
      have hpl : (zs.take k).length < zs.length := by rw [List.length_take]; omega
      have hpre : zs.take (k + 1) <+: zs := List.take_prefix _ _
      generalize zs[k] = x at *
      obtain ⟨xa, xb, xc⟩ := x
      have c0 : wr.cell? ⟨bq, oq + k * 3, none⟩ = some (.string xa) := hck 0 _ rfl
      have c1 : wr.cell? ⟨bq, oq + k * 3 + 1, none⟩ = some (.string xb) := hck 1 _ rfl
      have c2 : wr.cell? ⟨bq, oq + k * 3 + 2, none⟩ = some (.string xc) := hck 2 _ rfl
      have hJ1 := hA _ _ _ none hJs (grown_alloc wr (.cells #[.string xa, .string xb, .string xc] 30)) (fun r e => by cases e)
      have hb1 : Below n₀ wr (wr.alloc (.cells #[.string xa, .string xb, .string xc] 30)) := (Below.refl _ _).alloc (Nat.le_trans hn0 hnx.size) _
      obtain ⟨fn, tmps, assign, body, hy, hR⟩ := hY _ ⟨xa, xb, xc⟩ _ hJ1 hpl
      try unfold pV at hy
      try dsimp only at hy
      clear hck hcell
      gi_wp2
      refine hR.mono ?_
      rintro e W3 (⟨rfl, hJ3, hk3⟩ | ⟨rfl, hJx3⟩)
      · gi_wp2
        go_roundw
        case rel => exact ⟨k + 1, by omega, by go_num, by rw [hts]; exact hJ3, hnx.trans (hb1.trans hk3)⟩
        case measure => simp [intOf]; omega
      · gi_wp2
        refine bodyPost_ret (results_none rfl _ _ _) rfl ?_
        exact ⟨⟨_, rfl⟩, .inr ⟨_, hpre, by rw [hts]; exact hJx3⟩⟩
    · obtain rfl : k = zs.length := by omega
      gi_wp2
      go_end0
      exact ⟨⟨_, rfl⟩, .inl ⟨_, List.take_length, hJs⟩⟩
theorem valsV_seq (F : Fence) (n : Nat) (hf : F.fn 127) (hro : F.round = none) (hn : 1 ≤ n) (Bs : Nat) (ao : Option Addr) (cap : Nat) (zs : List P3) (hl : zs.length ≤ 1099511627776) (w : World) (hBs : Bs < w.heap.size)
    (hc : w.cell? ⟨Bs, 0, none⟩ = some (.slice ao zs.length cap)) (hS : Sl (· < w.heap.size) w 3 (.slice ao zs.length cap) (zs.flatMap pC)) :
    SeqStopsK F n Tryz.prog 127 #[.pointer (some ⟨Bs, 0, none⟩)] (fun x : P3 => #[pV x]) (Below w.heap.size) (fun ys => ys = zs) (fun pre => pre <+: zs) zs.length w := fun l J Jx W hW hA _ hY h0 =>
  (valsV_in F n hf hro hn l Bs w.heap.size W.heap.size ao cap zs hl J Jx hA hY W hW.size ((hW.cell (p := ⟨Bs, 0, none⟩) hBs).trans hc) (hS.same fun x hx => hW.block x hx) h0).mono fun _ _ h => h
set_option maxRecDepth 100000 in
set_option maxHeartbeats 800000 in
theorem valuesV_any (ao : Option Addr) (k cap : Nat) (w : World) : Calls Tryz.prog 68 #[.slice ao k cap] w fun e w' => e = .returned (.func (.func 127) #[] #[.pointer (some ⟨w.heap.size, 0, none⟩)]) ∧ w' = w.alloc (.cells #[.slice ao k cap] 34) := by
  go_enter Tryz.func68, Tryz.ntmps68
  go_wp2
  go_ret
  exact ⟨rfl, rfl⟩
set_option maxRecDepth 100000 in
set_option maxHeartbeats 800000 in
theorem collectV_any (w : World) (Bs : Nat) (ao : Option Addr) (cap : Nat) (zs : List P3) (hl : zs.length ≤ 137438953472) (hBs : Bs < w.heap.size) (hc : w.cell? ⟨Bs, 0, none⟩ = some (.slice ao zs.length cap)) (hS : Sl (· < w.heap.size) w 3 (.slice ao zs.length cap) (zs.flatMap pC)) :
    Calls Tryz.prog 125 #[.func (.func 127) #[] #[.pointer (some ⟨Bs, 0, none⟩)]] w fun e w' => ∃ v', e = .returned v' ∧ Own w' w.heap.size 30 3 v' (pcs zs) ∧ Ext w w' := by
  have HP := Lib.hid (callsIn_wide.1 (appV_in Fence.wide 3 trivial rfl (by omega) 127 _ trivial (enters_of Tryz.func127 (by kernel_rfl) rfl) _ _ zs.length w hl (valsV_seq Fence.wide 2 trivial rfl (by omega) Bs ao cap zs (by omega) w hBs hc hS)))
  clear hS hc
  go_enter Tryz.func125, Tryz.ntmps125
  go_wp2_with fail
  refine HP.out.mono ?_
  rintro e w1 ⟨v, ss, rfl, rfl, ho, hx⟩
  go_wp2
  go_ret
  exact ⟨v, rfl, ho, hx⟩
end Go.Proofs.YtjdigpfipmckhaaGreat
namespace Go.Proofs.YtjdigpfipmckhaaGreat
open Go Go.RowKit
set_option maxRecDepth 100000 in
set_option maxHeartbeats 1600000 in
theorem orderRP_any (a b : P3) (w : World) : Calls Tryz.prog 69 #[pV a, pV b] w (fun e w' => e = .returned (.int .i64 (ordP a b)) ∧ Gr w w') := by
  obtain ⟨at_, ai, ar⟩ := a
  obtain ⟨bt, bi, br⟩ := b
  unfold pV
  dsimp only
  have hA := (Blk.made w #[.string at_, .string ai, .string ar] 30).alloc (.cells #[.string bt, .string bi, .string br] 30)
  have hB := Blk.made' (w := w.alloc (.cells #[.string at_, .string ai, .string ar] 30)) (B := w.heap.size + 1) (by simp) #[.string bt, .string bi, .string br] 30
  have hb0 : Gr w ((w.alloc (.cells #[.string at_, .string ai, .string ar] 30)).alloc (.cells #[.string bt, .string bi, .string br] 30)) := ((Gr.refl _).alloc _).alloc _
  go_enter Tryz.func69, Tryz.ntmps69
  go_wp2_with fail
  obtain ⟨wd, hwd⟩ : ∃ wd, wd = ((w.alloc (.cells #[.string at_, .string ai, .string ar] 30)).alloc (.cells #[.string bt, .string bi, .string br] 30)).drew := ⟨_, rfl⟩
  have hAd := hA.drew
  have hBd := hB.drew
  have hbd := hb0.drew
  rw [← hwd] at hAd hBd hbd
  refine region_walkN (Ext wd) (by rw [← hwd]; exact Ext.refl _) (by kernel_rfl) (by kernel_rfl) (fun _ _ d _ _ h => by cases d <;> exact h) ?_
  rw [← hwd]
  clear hwd hA hB hb0
  have h1 : ∀ W, Ext wd W → ∀ i, W.cell? ⟨w.heap.size, i, none⟩ = (#[.string at_, .string ai, .string ar] : Array Value)[i]? := fun W h => (hAd.below h).cells
  have h2 : ∀ W, Ext wd W → ∀ i, W.cell? ⟨w.heap.size + 1, i, none⟩ = (#[.string bt, .string bi, .string br] : Array Value)[i]? := fun W h => (hBd.below h).cells
  (refine WalkN.tk [0, 1, 2, 3, 4, 5, 7, 8, 9, 10, 11, 12, 14, 15, 16, 17] ?_; (iterate 16 ((refine TkN.c _ ?_ (by simp only [gtA, gtS, gtZ]; rfl) (by kernel_rfl) (by kernel_rfl) (by rfl) (fun W hW => ?_) ?_; rotate_left; · (go_simp; try with_reducible rfl)); simp only [Act.put, puA, puZ, puS])); refine TkN.n ?_)
  clear h1 h2
  have HP1 := Lib.hid (cmpS_any at_ bt wd)
  refine WalkN.one 6 (by kernel_rfl) ?_
  refine ⟨_, (by simp only [gtA, gtS, gtZ]; rfl), by rfl, fun K hK => ?_⟩
  go_simp
  refine HP1.out.mono ?_
  rintro e w1 ⟨rfl, rfl⟩
  refine hK.out _ _ (Ext.refl _) ?_
  clear hK HP1
  have HP2 := Lib.hid (cmpS_any ai bi wd)
  refine WalkN.one 13 (by kernel_rfl) ?_
  refine ⟨_, (by simp only [gtA, gtS, gtZ]; rfl), by rfl, fun K hK => ?_⟩
  go_simp
  refine HP2.out.mono ?_
  rintro e w1 ⟨rfl, rfl⟩
  refine hK.out _ _ (Ext.refl _) ?_
  clear hK HP2
  have HP3 := Lib.hid (cmpS_any ar br wd)
  refine WalkN.one 18 (by kernel_rfl) ?_
  refine ⟨_, (by simp only [gtA, gtS, gtZ]; rfl), by rfl, fun K hK => ?_⟩
  go_simp
  refine HP3.out.mono ?_
  rintro e w1 ⟨rfl, rfl⟩
  refine hK.out _ _ (Ext.refl _) ?_
  clear hK HP3
  refine WalkN.one 19 (by kernel_rfl) ?_
  refine ⟨_, (by simp only [gtA, gtS, gtZ]; rfl), by rfl, fun K hK => ?_⟩
  go_simp
  have hE : Ext wd (wd.alloc (.cells #[.int .i64 (cmpS at_ bt), .int .i64 (cmpS ai bi), .int .i64 (cmpS ar br)] 3)) := Ext.alloc _ _
  have hl : Sl (fun b => b = wd.heap.size) (wd.alloc (.cells #[.int .i64 (cmpS at_ bt), .int .i64 (cmpS ai bi), .int .i64 (cmpS ar br)] 3)) 1 (.slice (some ⟨wd.heap.size, 0, none⟩) 3 3) (icL [cmpS at_ bt, cmpS ai bi, cmpS ar br]) := Sl.made wd _ 1 3 3 _ rfl (by decide) rfl
  refine hK.out _ _ hE ?_
  clear hK
  have HP4 := Lib.hid (orL_any _ _ _ _ hl)
  have hbe := hbd.alloc (.cells #[.int .i64 (cmpS at_ bt), .int .i64 (cmpS ai bi), .int .i64 (cmpS ar br)] 3)
  refine WalkN.one 20 (by kernel_rfl) ?_
  refine ⟨_, (by simp only [gtA, gtS, gtZ]; rfl), by rfl, fun K hK => ?_⟩
  go_simp
  refine HP4.out.mono ?_
  rintro e w1 ⟨rfl, rfl⟩
  refine hK.out _ _ hE ?_
  clear hK HP4
  ((refine WalkN.take 21 _ ?_ (by simp only [gtA, gtS, gtZ]; rfl) (by kernel_rfl) (by kernel_rfl) (by rfl) (fun W hW => ?_) ?_; rotate_left; · (go_simp; try with_reducible rfl)); simp only [Act.put, puA, puZ, puS])
  refine WalkN.done (by kernel_rfl) ?_
  go_wp2
  go_ret
  exact ⟨rfl, hbe⟩
end Go.Proofs.YtjdigpfipmckhaaGreat
namespace Go.Proofs.YtjdigpfipmckhaaGreat
open Go Go.RowKit
theorem sortV_any {w : World} {B : Nat} {v : Value} {l : List P3} (h : Own w B 30 3 v (pcs l)) (hl : l.length < 4611686018427387904) :
    Calls Tryz.prog 126 #[v, .func (.func 69) #[] #[]] w fun e w' => e = .returned (.tuple #[]) ∧ ∃ l' : List P3, l'.Perm l ∧ (l'.Pairwise fun a b => ltP b a = false) ∧ Own w' B 30 3 v (pcs l') ∧ Kept (fun b => b < w.heap.size ∧ v.ownBlock ≠ some b) w w' := by
  refine Calls.mono (sort_own Tryz.sortP pC 3 pC_length (by decide) pC_one Tryz.isAgg30 Tryz.sizeOf30 ordP swoP 69 #[] (enters_of Tryz.func69 (by kernel_rfl) rfl) (fun W x y => orderRP_any x y W) h hl) ?_
  rintro e w' ⟨rfl, l', hp, hs, ho, hk⟩
  exact ⟨rfl, l', hp, hs.imp fun {a b} h => by rw [← lt_ordP]; exact h, ho, hk⟩
set_option maxRecDepth 100000 in
set_option maxHeartbeats 800000 in
theorem sortedV_any (w : World) (Bs : Nat) (ao : Option Addr) (cap : Nat) (zs : List P3) (hl : zs.length ≤ 137438953472) (hBs : Bs < w.heap.size) (hc : w.cell? ⟨Bs, 0, none⟩ = some (.slice ao zs.length cap)) (hS : Sl (· < w.heap.size) w 3 (.slice ao zs.length cap) (zs.flatMap pC)) :
    Calls Tryz.prog 67 #[.func (.func 127) #[] #[.pointer (some ⟨Bs, 0, none⟩)], .func (.func 69) #[] #[]] w fun e w' => ∃ (v' : Value) (l : List P3), e = .returned v' ∧ l.Perm zs ∧ (l.Pairwise fun a b => ltP b a = false) ∧ Own w' w.heap.size 30 3 v' (pcs l) ∧ Ext w w' := by
  have HP := Lib.hid (collectV_any w Bs ao cap zs hl hBs hc hS)
  clear hS hc
  go_enter Tryz.func67, Tryz.ntmps67
  go_wp2_with fail
  refine HP.out.mono ?_
  rintro e w1 ⟨v, rfl, ho, hb⟩
  have HP2 := Lib.hid (sortV_any ho (by omega))
  go_wp2_with fail
  refine HP2.out.mono ?_
  rintro e w2 ⟨rfl, l', hp', hu, ho', hk'⟩
  go_wp2
  go_ret
  exact ⟨v, l', rfl, hp', hu, ho', Below.trans (show Below w.heap.size w w1 from hb) (Kept.below (B := w.heap.size) hk' fun b hb' => ⟨Nat.lt_of_lt_of_le hb' hb.size, fun e => by have := (ho.block b e).1; omega⟩)⟩
set_option maxRecDepth 100000 in
set_option maxHeartbeats 800000 in
theorem pointsR_any (w : World) (pv fv : Value) (zs : List P3) (hl : zs.length ≤ 137438953472) (hS : Sl (· < w.heap.size) w 3 pv (pcs zs)) :
    Calls Tryz.prog 22 #[.agg #[pv, fv]] w fun e w' => ∃ (v' : Value) (l : List P3), e = .returned v' ∧ l.Perm zs ∧ (l.Pairwise fun a b => ltP b a = false) ∧ Own w' w.heap.size 30 3 v' (pcs l) ∧ Below w.heap.size w w' := by
  obtain ⟨ao, cap, rfl, -⟩ := Sl.rows pC_length (by decide) hS
  obtain ⟨wa, hwa⟩ : ∃ x, x = w.alloc (.cells #[.slice ao zs.length cap, fv] 37) := ⟨_, rfl⟩
  have hwb : Below w.heap.size w wa := hwa ▸ (Below.refl _ _).alloc (Nat.le_refl _) _
  have hG : wa.cell? ⟨w.heap.size, 0, none⟩ = some (.slice ao zs.length cap) := by rw [hwa]; exact (Blk.made w #[.slice ao zs.length cap, fv] 37).cells 0
  have HP := Lib.hid (valuesV_any ao zs.length cap wa)
  obtain ⟨wb, hb⟩ : ∃ x, x = wa.alloc (.cells #[.slice ao zs.length cap] 34) := ⟨_, rfl⟩
  rw [← hb] at HP
  have hbb : Below wa.heap.size wa wb := hb ▸ (Below.refl _ _).alloc (Nat.le_refl _) _
  have hcB : wb.cell? ⟨wa.heap.size, 0, none⟩ = some (.slice ao zs.length cap) := by rw [hb]; exact (Blk.made wa #[.slice ao zs.length cap] 34).cells 0
  have hlt : wa.heap.size < wb.heap.size := by rw [hb]; simp
  have hSb : Sl (· < wb.heap.size) wb 3 (.slice ao zs.length cap) (pcs zs) := (hS.same fun x hx => (hwb.trans (hbb.mono hwb.size)).block x hx).mono fun x hx => Nat.lt_of_lt_of_le hx (Nat.le_trans hwb.size hbb.size)
  have hsz : wa.heap.size = w.heap.size + 1 := by rw [hwa]; simp
  rw [hsz] at HP hcB hlt
  have HQ := Lib.hid (sortedV_any wb (w.heap.size + 1) ao cap zs hl hlt hcB hSb)
  clear hS hSb hcB hb hsz
  have HX := Lib.hid (And.intro hwb (And.intro hbb hlt))
  clear hwb hbb hlt hl
  go_enter Tryz.func22, Tryz.ntmps22
  go_wp2_with fail
  rw [← hwa]
  clear hwa hG
  refine HP.out.mono ?_
  rintro e w1 ⟨rfl, rfl⟩
  go_wp2_with fail
  refine HQ.out.mono ?_
  rintro e w2 ⟨v, l, rfl, hp, hu, ho, hx⟩
  go_wp2
  go_ret
  obtain ⟨hwb, hbb, hlt⟩ := HX.out
  exact ⟨v, l, rfl, hp, hu, Own.base ho (Nat.le_trans hwb.size hbb.size), hwb.trans ((hbb.mono hwb.size).trans (Below.mono (show Below w1.heap.size w1 w2 from hx) (Nat.le_trans hwb.size hbb.size)))⟩
end Go.Proofs.YtjdigpfipmckhaaGreat
namespace Go.Proofs.YtjdigpfipmckhaaGreat
open Go Go.RowKit Go.Maps
theorem pcs_take (l : List P3) (k : Nat) : (pcs l).take (k * 3) = pcs (l.take k) := by
  induction k generalizing l with
  | zero => simp [pcs]
  | succ k ih =>
    cases l with
    | nil => simp [pcs]
    | cons a l =>
      rw [List.take_succ_cons, show pcs (a :: l) = pC a ++ pcs l from rfl, show pcs (a :: l.take k) = pC a ++ pcs (l.take k) from rfl, ← ih l]
      rw [show (k + 1) * 3 = 3 + k * 3 from by omega, List.take_append, List.take_of_length_le (by rw [pC_length]; omega), pC_length, Nat.add_sub_cancel_left]
theorem pcs_drop (l : List P3) (k : Nat) : (pcs l).drop (k * 3) = pcs (l.drop k) := by
  induction k generalizing l with
  | zero => simp [pcs]
  | succ k ih =>
    cases l with
    | nil => simp [pcs]
    | cons a l =>
      rw [List.drop_succ_cons, show pcs (a :: l) = pC a ++ pcs l from rfl, ← ih l]
      rw [show (k + 1) * 3 = 3 + k * 3 from by omega, List.drop_append, List.drop_eq_nil_of_le (by rw [pC_length]; omega), pC_length, Nat.add_sub_cancel_left, List.nil_append]
set_option maxRecDepth 100000 in
set_option maxHeartbeats 8000000 in
theorem sorted_any (v : Value) (l : List P3) (w : World) (h : Sl (· < w.heap.size) w 3 v (pcs l)) (hl : l.length ≤ 100000000) : Calls Tryz.prog 23 #[v] w fun e w' => ∃ (v' : Value) (l' : List P3), e = .returned v' ∧ UpP l' ∧ (∀ x, x ∈ l' ↔ x ∈ l) ∧ Own w' w.heap.size 30 3 v' (pcs l') ∧ Below w.heap.size w w' := by
  obtain ⟨ao, c, rfl, hlc, hcm, hcell⟩ := Sl.rows pC_length (by decide) (show Sl _ w 3 v (List.flatMap pC l) from h)
  have HC := Lib.hid hcell
  have HL := Lib.hid hl
  clear hcell h hl
  go_enter Tryz.func23, Tryz.ntmps23
  go_wp2_with fail
  go_loopw [3, 9] (fun vv ii wr => ∃ (i : Nat) (q : List P3), i ≤ l.length ∧ ii = .int .i64 i ∧ Own wr w.heap.size 30 3 vv (pcs q) ∧ UpP q ∧ (∀ x, x ∈ q ↔ x ∈ l.take i) ∧ q.length ≤ i ∧ Below w.heap.size w wr) (fun _ ii _ => l.length - (intOf ii).toNat)
  case atStart => exact ⟨0, [], by omega, rfl, Own.nil _ _ _ _, List.Pairwise.nil, by simp, by simp, Below.refl _ _⟩
  case round =>
    obtain ⟨i, q, hi, rfl, hown, hup, hmem, hql, hbel⟩ := hrel
    have HUPQ := Lib.hid hup
    have HMQ := Lib.hid hmem
    clear hup hmem
    by_cases hlt : i < l.length
    · obtain ⟨b, off, rfl, hb, hc⟩ := HC.out (by omega)
      have d0 := (hbel.cell (p := ⟨b, off + i * 3, none⟩) hb).trans (hc i hlt 0 _ rfl)
      have d1 := (hbel.cell (p := ⟨b, off + i * 3 + 1, none⟩) hb).trans (hc i hlt 1 _ rfl)
      have d2 := (hbel.cell (p := ⟨b, off + i * 3 + 2, none⟩) hb).trans (hc i hlt 2 _ rfl)
      have HTK := Lib.hid (show ∀ x, x ∈ l.take (i + 1) ↔ x ∈ l.take i ∨ x = l[i] from fun x => by rw [List.take_succ_eq_append_getElem hlt, List.mem_append, List.mem_singleton])
      clear hc
      generalize l[i] = p at *
      obtain ⟨pt, pi, pr⟩ := p
      dsimp only at d0 d1 d2
      have hq2 : q.length ≤ 100000000 := by have := HL.out; omega
      obtain ⟨mo, mc, rfl, hmk, hmm, hmc⟩ := Sl.rows pC_length (by decide) (show Sl _ wr 3 u3 (List.flatMap pC q) from hown.sl)
      have HSH := Lib.hid hown.shape
      obtain ⟨wP, hwP⟩ : ∃ wP, wP = wr.alloc (.cells #[.string pt, .string pi, .string pr] 30) := ⟨_, rfl⟩
      have hbox : Blk wP wr.heap.size #[.string pt, .string pi, .string pr] 30 := by rw [hwP]; exact Blk.made wr _ _
      have hE0 : Ext wr wP := by rw [hwP]; exact Ext.alloc _ _
      have HMC := Lib.hid (show 0 < q.length → ∃ b off, mo = some ⟨b, off, none⟩ ∧ b < wr.heap.size ∧ ∀ (k : Nat) (hk : k < q.length), wr.cell? ⟨b, off + k * 3, none⟩ = some (.string q[k].t) ∧ wr.cell? ⟨b, off + k * 3 + 1, none⟩ = some (.string q[k].i) ∧ wr.cell? ⟨b, off + k * 3 + 2, none⟩ = some (.string q[k].r) from fun h0 => by
        obtain ⟨b, off, h1, h2, h3⟩ := hmc h0
        exact ⟨b, off, h1, h2.2, fun k hk => ⟨h3 k hk 0 _ rfl, h3 k hk 1 _ rfl, h3 k hk 2 _ rfl⟩⟩)
      have HOW := Lib.hid hown
      have HBOX := Lib.hid hbox
      have HE0 := Lib.hid hE0
      clear hown hmc hbox hE0
      go_wp2_with fail
      try rw [← hwP]
      clear hwP
      have HBEL := Lib.hid hbel
      clear hbel d0 d1 d2
      obtain ⟨wr0, hwr0⟩ : ∃ wr0, wr0 = wr := ⟨_, rfl⟩
      rw [← hwr0] at HOW HBOX HE0 HMC HBEL ⊢
      clear hwr0
      go_loopw [6] (fun ii wr => ∃ k : Nat, k ≤ q.length ∧ ii = .int .i64 k ∧ (∀ j (hj : j < q.length), j < k → ltP q[j] ⟨pt, pi, pr⟩ = true) ∧ Below wP.heap.size wP wr) (fun ii _ => q.length - (intOf ii).toNat)
      case atStart => exact ⟨0, by omega, rfl, fun _ _ h => absurd h (by omega), Below.refl _ _⟩
      case round =>
        obtain ⟨k, hk, rfl, hall, hbr⟩ := hrel
        have HALL := Lib.hid hall
        have HEr := Lib.hid (HE0.out.trans hbr)
        have hBx := HBOX.out.below hbr
        clear hall
        by_cases hkl : k < q.length
        case' pos =>
          obtain ⟨b2, off2, rfl, hb2, hc2⟩ := HMC.out (by omega)
          obtain ⟨e0, e1, e2⟩ := hc2 k hkl
          have hkd : decide ((k : Int) < (q.length : Int)) = true := by simp; omega
          have hNX := fun (h : ltP q[k] ⟨pt, pi, pr⟩ = true) => Lib.hid (upto_succ (p := fun j hj => ltP q[j] ⟨pt, pi, pr⟩ = true) HALL.out hkl h)
          have hIX := fun (h : ltP ⟨pt, pi, pr⟩ q[k] = true) => Lib.hid (insP_up (p := ⟨pt, pi, pr⟩) HUPQ.out HALL.out (fun _ => h))
          have hQM := List.getElem_mem hkl
          clear hc2
          generalize q[k] = u at *
          obtain ⟨ut, ui, ur⟩ := u
          dsimp only at e0 e1 e2
          have HLS := Lib.hid (fun W => less_any ⟨ut, ui, ur⟩ ⟨pt, pi, pr⟩ W)
          unfold pV at HLS
          dsimp only at HLS
          go_wp2_with fail
          obtain ⟨wd, hwd⟩ : ∃ wd, wd = wr.drew := ⟨_, rfl⟩
          have hEd : Ext wr0 wd := by rw [hwd]; exact HEr.out.trans (Ext.drew _)
          have hEw : Ext wr wd := by rw [hwd]; exact Ext.drew _
          have hBd : Blk wd wr0.heap.size #[.string pt, .string pi, .string pr] 30 := by rw [hwd]; exact hBx.drew
          refine region_walkN (Ext wd) (by rw [← hwd]; exact Ext.refl _) (by kernel_rfl) (by kernel_rfl) (fun _ _ d _ _ h => by cases d <;> exact h) ?_
          rw [← hwd]
          clear hwd hBx
          have h1 : ∀ W, Ext wd W → ∀ i, W.cell? ⟨wr0.heap.size, i, none⟩ = (#[.string pt, .string pi, .string pr] : Array Value)[i]? := fun W h => (hBd.below h).cells
          have g0 : ∀ W, Ext wd W → W.cell? ⟨b2, off2 + k * 3, none⟩ = some (.string ut) := fun W h => Ext.cell (hEd.trans h) e0
          have g1 : ∀ W, Ext wd W → W.cell? ⟨b2, off2 + k * 3 + 1, none⟩ = some (.string ui) := fun W h => Ext.cell (hEd.trans h) e1
          have g2 : ∀ W, Ext wd W → W.cell? ⟨b2, off2 + k * 3 + 2, none⟩ = some (.string ur) := fun W h => Ext.cell (hEd.trans h) e2
          (refine WalkN.tk [0, 1, 2, 3, 4, 5, 6, 7, 8, 9] ?_; (iterate 10 ((refine TkN.c _ ?_ (by simp only [gtA, gtS, gtZ]; rfl) (by kernel_rfl) (by kernel_rfl) (by rfl) (fun W hW => ?_) ?_; rotate_left; · (go_simp; try with_reducible rfl)); simp only [Act.put, puA, puZ, puS])); refine TkN.n ?_)
          clear h1 g0 g1 g2
          refine WalkN.one 10 (by kernel_rfl) ?_
          refine ⟨_, (by simp only [gtA, gtS, gtZ]; rfl), by rfl, fun K hK => ?_⟩
          go_simp
          refine (HLS.out _).mono ?_
          rintro e w4 ⟨rfl, hb4⟩
          refine hK.out _ _ hb4 ?_
          clear hK
          ((refine WalkN.take 11 _ ?_ (by simp only [gtA, gtS, gtZ]; rfl) (by kernel_rfl) (by kernel_rfl) (by rfl) (fun W hW => ?_) ?_; rotate_left; · (go_simp; try with_reducible rfl)); simp only [Act.put, puA, puZ, puS])
          refine WalkN.done (by kernel_rfl) ?_
          have HE4 := Lib.hid (hEd.trans hb4)
          have HBR4 := Lib.hid (show Ext wr w4 from hEw.trans hb4)
          have HB4 := Lib.hid (hBd.below hb4)
          clear hEd hBd hb4
          rcases hlb : ltP ⟨ut, ui, ur⟩ ⟨pt, pi, pr⟩ with _ | _
          rotate_left
          · have HH := hNX hlb
            clear hlb hNX hIX HALL
            go_wp2_with fail
            go_roundw
            case rel => exact ⟨k + 1, by omega, by go_num, HH.out, by exact hbr.trans (Below.mono (HBR4.out) hbr.size)⟩
            case measure => simp [intOf]; omega
          have hke : ((k : Int) == (q.length : Int)) = false := by rw [beq_eq_false_iff_ne]; omega
          have hne0 := fun W => p3_neq ⟨ut, ui, ur⟩ ⟨pt, pi, pr⟩ W
          unfold pV at hne0
          dsimp only at hne0
          by_cases hup : (⟨ut, ui, ur⟩ : P3) = ⟨pt, pi, pr⟩
          · rw [decide_eq_false (fun h => h hup)] at hne0
            have HMN := Lib.hid (show ∀ x, x ∈ q ↔ x ∈ l.take (i + 1) from fun x => by
              rw [HTK.out x, ← HMQ.out x]
              constructor
              · exact .inl
              · rintro (h | rfl)
                · exact h
                · exact hup ▸ hQM)
            injection hup with hu1 hu2 hu3
            subst hu1 hu2 hu3
            clear hlb hNX hIX HALL hQM
            go_wp2_with fail
            obtain ⟨wd, hwd⟩ : ∃ wd, wd = w4.drew := ⟨_, rfl⟩
            have hEd : Ext wr0 wd := by rw [hwd]; exact HE4.out.trans (Ext.drew _)
            have hBd : Blk wd wr0.heap.size #[.string ut, .string ui, .string ur] 30 := by rw [hwd]; exact HB4.out.drew
            refine region_walkN (Ext wd) (by rw [← hwd]; exact Ext.refl _) (by kernel_rfl) (by kernel_rfl) (fun _ _ d _ _ h => by cases d <;> exact h) ?_
            rw [← hwd]
            clear hwd
            have h1 : ∀ W, Ext wd W → ∀ i, W.cell? ⟨wr0.heap.size, i, none⟩ = (#[.string ut, .string ui, .string ur] : Array Value)[i]? := fun W h => (hBd.below h).cells
            have g0 : ∀ W, Ext wd W → W.cell? ⟨b2, off2 + k * 3, none⟩ = some (.string ut) := fun W h => Ext.cell (hEd.trans h) e0
            have g1 : ∀ W, Ext wd W → W.cell? ⟨b2, off2 + k * 3 + 1, none⟩ = some (.string ui) := fun W h => Ext.cell (hEd.trans h) e1
            have g2 : ∀ W, Ext wd W → W.cell? ⟨b2, off2 + k * 3 + 2, none⟩ = some (.string ur) := fun W h => Ext.cell (hEd.trans h) e2
            (refine WalkN.tk [0, 1, 2, 3, 4, 5, 6, 7, 8, 9, 10, 11] ?_; (iterate 12 ((refine TkN.c _ ?_ (by simp only [gtA, gtS, gtZ]; rfl) (by kernel_rfl) (by kernel_rfl) (by rfl) (fun W hW => ?_) ?_; rotate_left; · (go_simp; try with_reducible rfl)); simp only [Act.put, puA, puZ, puS])); refine TkN.n ?_)
            refine WalkN.done (by kernel_rfl) ?_
            have HOE := Lib.hid (HOW.out.below hEd)
            have HBE := Lib.hid (HBEL.out.trans (Below.mono hEd HBEL.out.size))
            clear h1 g0 g1 g2 hEd hBd hne0 hke
            go_wp2_with fail
            go_roundw
            case rel => exact ⟨i + 1, q, by omega, by go_num, HOE.out, HUPQ.out, HMN.out, by omega, HBE.out⟩
            case measure => simp [intOf]; omega
          rw [decide_eq_true (show (⟨ut, ui, ur⟩ : P3) ≠ ⟨pt, pi, pr⟩ from hup)] at hne0
          have HUP := hIX (ltP_total hlb hup)
          have HME := Lib.hid (show ∀ x, x ∈ insP q k ⟨pt, pi, pr⟩ ↔ x ∈ l.take (i + 1) from fun x => by rw [insP_mem, HMQ.out x, HTK.out x])
          clear hlb hNX hIX HALL hQM hup
          go_wp2_with fail
          obtain ⟨wd, hwd⟩ : ∃ wd, wd = w4.drew := ⟨_, rfl⟩
          have hE6 : Ext wr0 wd := by rw [hwd]; exact HE4.out.trans (Ext.drew _)
          have hB6 : Blk wd wr0.heap.size #[.string pt, .string pi, .string pr] 30 := by rw [hwd]; exact HB4.out.drew
          refine region_walkN (Ext wd) (by rw [← hwd]; exact Ext.refl _) (by kernel_rfl) (by kernel_rfl) (fun _ _ d _ _ h => by cases d <;> exact h) ?_
          rw [← hwd]
          clear hwd
          have h1 : ∀ W, Ext wd W → ∀ i, W.cell? ⟨wr0.heap.size, i, none⟩ = (#[.string pt, .string pi, .string pr] : Array Value)[i]? := fun W h => (hB6.below h).cells
          have g0 : ∀ W, Ext wd W → W.cell? ⟨b2, off2 + k * 3, none⟩ = some (.string ut) := fun W h => Ext.cell (hE6.trans h) e0
          have g1 : ∀ W, Ext wd W → W.cell? ⟨b2, off2 + k * 3 + 1, none⟩ = some (.string ui) := fun W h => Ext.cell (hE6.trans h) e1
          have g2 : ∀ W, Ext wd W → W.cell? ⟨b2, off2 + k * 3 + 2, none⟩ = some (.string ur) := fun W h => Ext.cell (hE6.trans h) e2
          (refine WalkN.tk [0, 1, 2, 3, 4, 5, 6, 7, 8, 9, 10, 11] ?_; (iterate 12 ((refine TkN.c _ ?_ (by simp only [gtA, gtS, gtZ]; rfl) (by kernel_rfl) (by kernel_rfl) (by rfl) (fun W hW => ?_) ?_; rotate_left; · (go_simp; try with_reducible rfl)); simp only [Act.put, puA, puZ, puS])); refine TkN.n ?_)
          refine WalkN.done (by kernel_rfl) ?_
          clear h1 g0 g1 g2 hne0 hke e0 e1 e2
          obtain ⟨w6, rfl⟩ : ∃ w6, w6 = wd := ⟨_, rfl⟩
          have hkc : (k : Int) ≤ mc := by omega
          have hkq : (k : Int) ≤ q.length := by omega
          go_wp2_with fail
          obtain ⟨wd, hwd⟩ : ∃ wd, wd = w6.drew := ⟨_, rfl⟩
          have hEd : Ext wr0 wd := by rw [hwd]; exact hE6.trans (Ext.drew _)
          have hBd : Blk wd wr0.heap.size #[.string pt, .string pi, .string pr] 30 := by rw [hwd]; exact hB6.drew
          have hbd : Below w.heap.size w wd := HBEL.out.trans (Below.mono hEd HBEL.out.size)
          have hsd : Sl (· < wd.heap.size) wd 3 (.slice (some ⟨b2, off2, none⟩) q.length mc) (pcs q) := HOW.out.slU.up hEd
          refine region_walkN (Ext wd) (by rw [← hwd]; exact Ext.refl _) (by kernel_rfl) (by kernel_rfl) (fun _ _ d _ _ h => by cases d <;> exact h) ?_
          rw [← hwd]
          clear hwd
          have HTW : ∀ W, Ext wd W → ∀ i, W.cell? ⟨wr0.heap.size, i, none⟩ = (#[.string pt, .string pi, .string pr] : Array Value)[i]? := fun W h => (hBd.below h).cells
          (refine WalkN.tk [1, 2, 3, 5, 8, 9, 10] ?_; (iterate 7 ((refine TkN.c _ ?_ (by simp only [gtA, gtS, gtZ]; rfl) (by kernel_rfl) (by kernel_rfl) (by rfl) (fun W hW => ?_) ?_; rotate_left; · (go_simp; try with_reducible rfl)); simp only [Act.put, puA, puZ, puS])); refine TkN.n ?_)
          clear HTW
          have hE0 : Ext wd wd := Ext.refl _
          have hs1 : Sl (· < wd.heap.size) wd 3 (.slice (some ⟨b2, off2, none⟩) k mc) (pcs (q.take k)) := by
            have := hsd.take k (by omega)
            rwa [pcs_take] at this
          have hs2 : Sl (· < wd.heap.size) wd 3 (.slice (if mc = k then (some ⟨b2, off2, none⟩) else (some ⟨b2, off2 + k * 3, none⟩)) (q.length - k) (mc - k)) (pcs (q.drop k)) := by
            have := hsd.tailK (ao' := (if mc = k then (some ⟨b2, off2, none⟩) else (some ⟨b2, off2 + k * 3, none⟩))) k (by omega) (fun h => by rw [if_neg h]; simp [Addr.add_lit])
            rwa [pcs_drop] at this
          have HIN := Lib.hid (show [] ++ pcs (q.take k) ++ pcs [⟨pt, pi, pr⟩] ++ pcs (q.drop k) = pcs (insP q k ⟨pt, pi, pr⟩) from by rw [List.nil_append, ← pcs_append, ← pcs_append]; rfl)
          have hl1 : (q.take k).length ≤ 100000000 := by rw [List.length_take]; omega
          have hl2 : (q.drop k).length ≤ 100000000 := by rw [List.length_drop]; omega
          clear hsd
        case' neg =>
          obtain rfl : k = q.length := by omega
          have HUP := Lib.hid (insP_up (p := ⟨pt, pi, pr⟩) HUPQ.out HALL.out (fun h => absurd h hkl))
          have HME := Lib.hid (show ∀ x, x ∈ insP q q.length ⟨pt, pi, pr⟩ ↔ x ∈ l.take (i + 1) from fun x => by rw [insP_mem, HMQ.out x, HTK.out x])
          have hkc : (q.length : Int) ≤ mc := by omega
          have hkq : (q.length : Int) ≤ q.length := by omega
          clear hkl HALL HMC hbr
          rcases HSH.out with ⟨hmn, -⟩ | ⟨b2, n', c', hmn⟩
          case' inl =>
            obtain rfl : mo = none := by injection hmn
            clear hmn HSH
            go_wp2_with fail
            obtain ⟨wc, hwc⟩ : ∃ wc, wc = wr.drew := ⟨_, rfl⟩
            have hEc : Ext wr0 wc := by rw [hwc]; exact HEr.out.trans (Ext.drew _)
            have hBc : Blk wc wr0.heap.size #[.string pt, .string pi, .string pr] 30 := by rw [hwc]; exact hBx.drew
            refine region_walkN (Ext wc) (by rw [← hwc]; exact Ext.refl _) (by kernel_rfl) (by kernel_rfl) (fun _ _ d _ _ h => by cases d <;> exact h) ?_
            rw [← hwc]
            clear hwc
            (refine WalkN.tk [0, 1, 2, 3, 4] ?_; (iterate 5 ((refine TkN.c _ ?_ (by simp only [gtA, gtS, gtZ]; rfl) (by kernel_rfl) (by kernel_rfl) (by rfl) (fun W hW => ?_) ?_; rotate_left; · (go_simp; try with_reducible rfl)); simp only [Act.put, puA, puZ, puS])); refine TkN.n ?_)
            (refine WalkN.skip 5 _ (by simp only [gtA, gtS, gtZ]; rfl) (by kernel_rfl) (by kernel_rfl) (by rfl) ?_; simp only [Act.put, puA, puZ, puS]); (refine WalkN.skip 6 _ (by simp only [gtA, gtS, gtZ]; rfl) (by kernel_rfl) (by kernel_rfl) (by rfl) ?_; simp only [Act.put, puA, puZ, puS]); (refine WalkN.skip 7 _ (by simp only [gtA, gtS, gtZ]; rfl) (by kernel_rfl) (by kernel_rfl) (by rfl) ?_; simp only [Act.put, puA, puZ, puS]); (refine WalkN.skip 8 _ (by simp only [gtA, gtS, gtZ]; rfl) (by kernel_rfl) (by kernel_rfl) (by rfl) ?_; simp only [Act.put, puA, puZ, puS]); (refine WalkN.skip 9 _ (by simp only [gtA, gtS, gtZ]; rfl) (by kernel_rfl) (by kernel_rfl) (by rfl) ?_; simp only [Act.put, puA, puZ, puS]); (refine WalkN.skip 10 _ (by simp only [gtA, gtS, gtZ]; rfl) (by kernel_rfl) (by kernel_rfl) (by rfl) ?_; simp only [Act.put, puA, puZ, puS])
            ((refine WalkN.take 11 _ ?_ (by simp only [gtA, gtS, gtZ]; rfl) (by kernel_rfl) (by kernel_rfl) (by rfl) (fun W hW => ?_) ?_; rotate_left; · (go_simp; try with_reducible rfl)); simp only [Act.put, puA, puZ, puS])
            refine WalkN.done (by kernel_rfl) ?_
            go_wp2_with fail
            obtain ⟨w6, hw6⟩ : ∃ w6, w6 = wc.drew := ⟨_, rfl⟩
            have hE6 : Ext wr0 w6 := by rw [hw6]; exact hEc.trans (Ext.drew _)
            have hB6 : Blk w6 wr0.heap.size #[.string pt, .string pi, .string pr] 30 := by rw [hw6]; exact hBc.drew
            refine region_walkN (Ext w6) (by rw [← hw6]; exact Ext.refl _) (by kernel_rfl) (by kernel_rfl) (fun _ _ d _ _ h => by cases d <;> exact h) ?_
            rw [← hw6]
            clear hw6
            (refine WalkN.tk [0, 1, 2, 3, 4] ?_; (iterate 5 ((refine TkN.c _ ?_ (by simp only [gtA, gtS, gtZ]; rfl) (by kernel_rfl) (by kernel_rfl) (by rfl) (fun W hW => ?_) ?_; rotate_left; · (go_simp; try with_reducible rfl)); simp only [Act.put, puA, puZ, puS])); refine TkN.n ?_)
            (refine WalkN.skip 5 _ (by simp only [gtA, gtS, gtZ]; rfl) (by kernel_rfl) (by kernel_rfl) (by rfl) ?_; simp only [Act.put, puA, puZ, puS]); (refine WalkN.skip 6 _ (by simp only [gtA, gtS, gtZ]; rfl) (by kernel_rfl) (by kernel_rfl) (by rfl) ?_; simp only [Act.put, puA, puZ, puS]); (refine WalkN.skip 7 _ (by simp only [gtA, gtS, gtZ]; rfl) (by kernel_rfl) (by kernel_rfl) (by rfl) ?_; simp only [Act.put, puA, puZ, puS]); (refine WalkN.skip 8 _ (by simp only [gtA, gtS, gtZ]; rfl) (by kernel_rfl) (by kernel_rfl) (by rfl) ?_; simp only [Act.put, puA, puZ, puS]); (refine WalkN.skip 9 _ (by simp only [gtA, gtS, gtZ]; rfl) (by kernel_rfl) (by kernel_rfl) (by rfl) ?_; simp only [Act.put, puA, puZ, puS]); (refine WalkN.skip 10 _ (by simp only [gtA, gtS, gtZ]; rfl) (by kernel_rfl) (by kernel_rfl) (by rfl) ?_; simp only [Act.put, puA, puZ, puS])
            ((refine WalkN.take 11 _ ?_ (by simp only [gtA, gtS, gtZ]; rfl) (by kernel_rfl) (by kernel_rfl) (by rfl) (fun W hW => ?_) ?_; rotate_left; · (go_simp; try with_reducible rfl)); simp only [Act.put, puA, puZ, puS])
            refine WalkN.done (by kernel_rfl) ?_
            go_wp2_with fail
            obtain ⟨wd, hwd⟩ : ∃ wd, wd = w6.drew := ⟨_, rfl⟩
            have hEd : Ext wr0 wd := by rw [hwd]; exact hE6.trans (Ext.drew _)
            have hBd : Blk wd wr0.heap.size #[.string pt, .string pi, .string pr] 30 := by rw [hwd]; exact hB6.drew
            have hbd : Below w.heap.size w wd := HBEL.out.trans (Below.mono hEd HBEL.out.size)
            have hsd : Sl (· < wd.heap.size) wd 3 (.slice none q.length mc) (pcs q) := HOW.out.slU.up hEd
            refine region_walkN (Ext wd) (by rw [← hwd]; exact Ext.refl _) (by kernel_rfl) (by kernel_rfl) (fun _ _ d _ _ h => by cases d <;> exact h) ?_
            rw [← hwd]
            clear hwd
            have HTW : ∀ W, Ext wd W → ∀ i, W.cell? ⟨wr0.heap.size, i, none⟩ = (#[.string pt, .string pi, .string pr] : Array Value)[i]? := fun W h => (hBd.below h).cells
            (refine WalkN.tk [1, 2, 3, 5, 8, 9, 10] ?_; (iterate 7 ((refine TkN.c _ ?_ (by simp only [gtA, gtS, gtZ]; rfl) (by kernel_rfl) (by kernel_rfl) (by rfl) (fun W hW => ?_) ?_; rotate_left; · (go_simp; try with_reducible rfl)); simp only [Act.put, puA, puZ, puS])); refine TkN.n ?_)
            clear HTW
            have hE0 : Ext wd wd := Ext.refl _
            have hs1 : Sl (· < wd.heap.size) wd 3 (.slice none q.length mc) (pcs (q.take q.length)) := by
              have := hsd.take q.length (by omega)
              rwa [pcs_take] at this
            have hs2 : Sl (· < wd.heap.size) wd 3 (.slice none 0 (mc - q.length)) (pcs (q.drop q.length)) := by
              have := hsd.tailK (ao' := none) q.length (by omega) (fun _ => rfl)
              rwa [pcs_drop, Nat.sub_self] at this
            obtain ⟨k, hk⟩ : ∃ k, k = q.length := ⟨_, rfl⟩
            have HUP := Lib.hid (show UpP (insP q k ⟨pt, pi, pr⟩) from by rw [hk]; exact HUP.out)
            have HME := Lib.hid (show ∀ x, x ∈ insP q k ⟨pt, pi, pr⟩ ↔ x ∈ l.take (i + 1) from by rw [hk]; exact HME.out)
            have HIN := Lib.hid (show [] ++ pcs (q.take q.length) ++ pcs [⟨pt, pi, pr⟩] ++ pcs (q.drop q.length) = pcs (insP q k ⟨pt, pi, pr⟩) from by rw [hk, List.nil_append, ← pcs_append, ← pcs_append]; rfl)
            clear hk
            have hl1 : (q.take q.length).length ≤ 100000000 := by rw [List.length_take]; omega
            have hl2 : (q.drop q.length).length ≤ 100000000 := by rw [List.length_drop]; omega
            clear hsd
          case' inr =>
            obtain ⟨off2, rfl⟩ : ∃ off2, mo = some ⟨b2, off2, none⟩ := ⟨0, by injection hmn⟩
            clear hmn HSH
            go_wp2_with fail
            obtain ⟨wc, hwc⟩ : ∃ wc, wc = wr.drew := ⟨_, rfl⟩
            have hEc : Ext wr0 wc := by rw [hwc]; exact HEr.out.trans (Ext.drew _)
            have hBc : Blk wc wr0.heap.size #[.string pt, .string pi, .string pr] 30 := by rw [hwc]; exact hBx.drew
            refine region_walkN (Ext wc) (by rw [← hwc]; exact Ext.refl _) (by kernel_rfl) (by kernel_rfl) (fun _ _ d _ _ h => by cases d <;> exact h) ?_
            rw [← hwc]
            clear hwc
            (refine WalkN.tk [0, 1, 2, 3, 4] ?_; (iterate 5 ((refine TkN.c _ ?_ (by simp only [gtA, gtS, gtZ]; rfl) (by kernel_rfl) (by kernel_rfl) (by rfl) (fun W hW => ?_) ?_; rotate_left; · (go_simp; try with_reducible rfl)); simp only [Act.put, puA, puZ, puS])); refine TkN.n ?_)
            (refine WalkN.skip 5 _ (by simp only [gtA, gtS, gtZ]; rfl) (by kernel_rfl) (by kernel_rfl) (by rfl) ?_; simp only [Act.put, puA, puZ, puS]); (refine WalkN.skip 6 _ (by simp only [gtA, gtS, gtZ]; rfl) (by kernel_rfl) (by kernel_rfl) (by rfl) ?_; simp only [Act.put, puA, puZ, puS]); (refine WalkN.skip 7 _ (by simp only [gtA, gtS, gtZ]; rfl) (by kernel_rfl) (by kernel_rfl) (by rfl) ?_; simp only [Act.put, puA, puZ, puS]); (refine WalkN.skip 8 _ (by simp only [gtA, gtS, gtZ]; rfl) (by kernel_rfl) (by kernel_rfl) (by rfl) ?_; simp only [Act.put, puA, puZ, puS]); (refine WalkN.skip 9 _ (by simp only [gtA, gtS, gtZ]; rfl) (by kernel_rfl) (by kernel_rfl) (by rfl) ?_; simp only [Act.put, puA, puZ, puS]); (refine WalkN.skip 10 _ (by simp only [gtA, gtS, gtZ]; rfl) (by kernel_rfl) (by kernel_rfl) (by rfl) ?_; simp only [Act.put, puA, puZ, puS])
            ((refine WalkN.take 11 _ ?_ (by simp only [gtA, gtS, gtZ]; rfl) (by kernel_rfl) (by kernel_rfl) (by rfl) (fun W hW => ?_) ?_; rotate_left; · (go_simp; try with_reducible rfl)); simp only [Act.put, puA, puZ, puS])
            refine WalkN.done (by kernel_rfl) ?_
            go_wp2_with fail
            obtain ⟨w6, hw6⟩ : ∃ w6, w6 = wc.drew := ⟨_, rfl⟩
            have hE6 : Ext wr0 w6 := by rw [hw6]; exact hEc.trans (Ext.drew _)
            have hB6 : Blk w6 wr0.heap.size #[.string pt, .string pi, .string pr] 30 := by rw [hw6]; exact hBc.drew
            refine region_walkN (Ext w6) (by rw [← hw6]; exact Ext.refl _) (by kernel_rfl) (by kernel_rfl) (fun _ _ d _ _ h => by cases d <;> exact h) ?_
            rw [← hw6]
            clear hw6
            (refine WalkN.tk [0, 1, 2, 3, 4] ?_; (iterate 5 ((refine TkN.c _ ?_ (by simp only [gtA, gtS, gtZ]; rfl) (by kernel_rfl) (by kernel_rfl) (by rfl) (fun W hW => ?_) ?_; rotate_left; · (go_simp; try with_reducible rfl)); simp only [Act.put, puA, puZ, puS])); refine TkN.n ?_)
            (refine WalkN.skip 5 _ (by simp only [gtA, gtS, gtZ]; rfl) (by kernel_rfl) (by kernel_rfl) (by rfl) ?_; simp only [Act.put, puA, puZ, puS]); (refine WalkN.skip 6 _ (by simp only [gtA, gtS, gtZ]; rfl) (by kernel_rfl) (by kernel_rfl) (by rfl) ?_; simp only [Act.put, puA, puZ, puS]); (refine WalkN.skip 7 _ (by simp only [gtA, gtS, gtZ]; rfl) (by kernel_rfl) (by kernel_rfl) (by rfl) ?_; simp only [Act.put, puA, puZ, puS]); (refine WalkN.skip 8 _ (by simp only [gtA, gtS, gtZ]; rfl) (by kernel_rfl) (by kernel_rfl) (by rfl) ?_; simp only [Act.put, puA, puZ, puS]); (refine WalkN.skip 9 _ (by simp only [gtA, gtS, gtZ]; rfl) (by kernel_rfl) (by kernel_rfl) (by rfl) ?_; simp only [Act.put, puA, puZ, puS]); (refine WalkN.skip 10 _ (by simp only [gtA, gtS, gtZ]; rfl) (by kernel_rfl) (by kernel_rfl) (by rfl) ?_; simp only [Act.put, puA, puZ, puS])
            ((refine WalkN.take 11 _ ?_ (by simp only [gtA, gtS, gtZ]; rfl) (by kernel_rfl) (by kernel_rfl) (by rfl) (fun W hW => ?_) ?_; rotate_left; · (go_simp; try with_reducible rfl)); simp only [Act.put, puA, puZ, puS])
            refine WalkN.done (by kernel_rfl) ?_
            go_wp2_with fail
            obtain ⟨wd, hwd⟩ : ∃ wd, wd = w6.drew := ⟨_, rfl⟩
            have hEd : Ext wr0 wd := by rw [hwd]; exact hE6.trans (Ext.drew _)
            have hBd : Blk wd wr0.heap.size #[.string pt, .string pi, .string pr] 30 := by rw [hwd]; exact hB6.drew
            have hbd : Below w.heap.size w wd := HBEL.out.trans (Below.mono hEd HBEL.out.size)
            have hsd : Sl (· < wd.heap.size) wd 3 (.slice (some ⟨b2, off2, none⟩) q.length mc) (pcs q) := HOW.out.slU.up hEd
            refine region_walkN (Ext wd) (by rw [← hwd]; exact Ext.refl _) (by kernel_rfl) (by kernel_rfl) (fun _ _ d _ _ h => by cases d <;> exact h) ?_
            rw [← hwd]
            clear hwd
            have HTW : ∀ W, Ext wd W → ∀ i, W.cell? ⟨wr0.heap.size, i, none⟩ = (#[.string pt, .string pi, .string pr] : Array Value)[i]? := fun W h => (hBd.below h).cells
            (refine WalkN.tk [1, 2, 3, 5, 8, 9, 10] ?_; (iterate 7 ((refine TkN.c _ ?_ (by simp only [gtA, gtS, gtZ]; rfl) (by kernel_rfl) (by kernel_rfl) (by rfl) (fun W hW => ?_) ?_; rotate_left; · (go_simp; try with_reducible rfl)); simp only [Act.put, puA, puZ, puS])); refine TkN.n ?_)
            clear HTW
            have hE0 : Ext wd wd := Ext.refl _
            have hs1 : Sl (· < wd.heap.size) wd 3 (.slice (some ⟨b2, off2, none⟩) q.length mc) (pcs (q.take q.length)) := by
              have := hsd.take q.length (by omega)
              rwa [pcs_take] at this
            have hs2 : Sl (· < wd.heap.size) wd 3 (.slice (if mc = q.length then (some ⟨b2, off2, none⟩) else (some ⟨b2, off2 + q.length * 3, none⟩)) 0 (mc - q.length)) (pcs (q.drop q.length)) := by
              have := hsd.tailK (ao' := (if mc = q.length then (some ⟨b2, off2, none⟩) else (some ⟨b2, off2 + q.length * 3, none⟩))) q.length (by omega) (fun h => by rw [if_neg h]; simp [Addr.add_lit])
              rwa [pcs_drop, Nat.sub_self] at this
            obtain ⟨k, hk⟩ : ∃ k, k = q.length := ⟨_, rfl⟩
            have HUP := Lib.hid (show UpP (insP q k ⟨pt, pi, pr⟩) from by rw [hk]; exact HUP.out)
            have HME := Lib.hid (show ∀ x, x ∈ insP q k ⟨pt, pi, pr⟩ ↔ x ∈ l.take (i + 1) from by rw [hk]; exact HME.out)
            have HIN := Lib.hid (show [] ++ pcs (q.take q.length) ++ pcs [⟨pt, pi, pr⟩] ++ pcs (q.drop q.length) = pcs (insP q k ⟨pt, pi, pr⟩) from by rw [hk, List.nil_append, ← pcs_append, ← pcs_append]; rfl)
            clear hk
            have hl1 : (q.take q.length).length ≤ 100000000 := by rw [List.length_take]; omega
            have hl2 : (q.drop q.length).length ≤ 100000000 := by rw [List.length_drop]; omega
            clear hsd
        all_goals
          refine WalkN.two 0 6 (by kernel_rfl) ?_ ?_
          · refine ⟨_, (by simp only [gtA, gtZ]; rfl), by rfl, fun K hK => ?_⟩
            go_simp
            have hown1 : Own (wd.alloc (.cells #[] 30)) wd.heap.size 30 3 (.slice (some ⟨wd.heap.size, 0, none⟩) 0 0) [] := Own.made wd (Nat.le_refl _) _ _
            have hE1 := Below.alloc hE0 (Nat.le_refl _) (.cells #[] 30)
            refine hK.out _ _ hE1 ?_
            clear hK
            refine WalkN.two 4 6 (by kernel_rfl) ?_ ?_
            · refine ⟨_, (by simp only [gtA, gtS, gtZ]; rfl), by rfl, fun K hK => ?_⟩
              refine wp_own pointsT (.tmp 39) (.tmp 42) rfl rfl hown1 rfl (hs1.same (Same.below hE1)) (pcs_one _) (by simp [pcs_length] <;> omega) (by simp [pcs_length] <;> omega) hE1.size (fun v2 w2 hown2 hb2 hg2' => ?_)
              have hE2 : Ext wd w2 := Below.trans hE1 hb2
              refine hK.out _ _ hE2 ?_
              clear hK
              simp only [Act.put, puA, puZ, puS]
              refine WalkN.one 6 (by kernel_rfl) ?_
              refine ⟨_, (by simp only [gtA, gtS, gtZ]; rfl), by rfl, fun K hK => ?_⟩
              go_simp
              have hE3 := Below.alloc hE2 hE2.size (.cells #[.string pt, .string pi, .string pr] 30)
              have hown3 := hown2.below ((Below.refl _ _).alloc (Nat.le_refl _) (.cells #[.string pt, .string pi, .string pr] 30))
              have hk3 : Sl (fun _ => True) (w2.alloc (.cells #[.string pt, .string pi, .string pr] 30)) 3 (.slice (some ⟨w2.heap.size, 0, none⟩) 1 1) (pcs [⟨pt, pi, pr⟩]) := Sl.made w2 (fun _ => True) 3 1 30 #[.string pt, .string pi, .string pr] rfl (by decide) trivial
              refine hK.out _ _ hE3 ?_
              clear hK
              refine WalkN.one 7 (by kernel_rfl) ?_
              refine ⟨_, (by simp only [gtA, gtS, gtZ]; rfl), by rfl, fun K hK => ?_⟩
              refine wp_own pointsT (.tmp 43) (.tmp 45) rfl rfl hown3 rfl hk3 (pcs_one _) (by simp [pcs_length] <;> omega) (by simp [pcs_length] <;> omega) hE3.size (fun v4 w4 hown4 hb4 _ => ?_)
              have hE4 : Ext wd w4 := Below.trans hE3 hb4
              refine hK.out _ _ hE4 ?_
              clear hK
              simp only [Act.put, puA, puZ, puS]
              refine WalkN.one 11 (by kernel_rfl) ?_
              refine ⟨_, (by simp only [gtA, gtS, gtZ]; rfl), by rfl, fun K hK => ?_⟩
              refine wp_own pointsT (.tmp 46) (.tmp 49) rfl rfl hown4 rfl (hs2.same (Same.below hE4)) (pcs_one _) (by simp [pcs_length] <;> omega) (by simp [pcs_length] <;> omega) hE4.size (fun v5 w5 hown5 hb5 _ => ?_)
              have hE5 : Ext wd w5 := Below.trans hE4 hb5
              have HO5 := Lib.hid hown5
              refine hK.out _ _ hE5 ?_
              clear hK
              simp only [Act.put, puA, puZ, puS]
              clear hown3 hown4 hown5 hk3
              ((refine WalkN.take 12 _ ?_ (by simp only [gtA, gtS, gtZ]; rfl) (by kernel_rfl) (by kernel_rfl) (by rfl) (fun W hW => ?_) ?_; rotate_left; · (go_simp; try with_reducible rfl)); simp only [Act.put, puA, puZ, puS])
              refine WalkN.done (by kernel_rfl) ?_
              go_wp2
              go_roundw
              case rel => exact ⟨i + 1, insP q k ⟨pt, pi, pr⟩, by omega, by go_num, (HIN.out ▸ HO5.out : Own w5 wd.heap.size 30 3 v5 (pcs (insP q k ⟨pt, pi, pr⟩))).base hbd.size, HUP.out, HME.out, by rw [insP_length]; omega, hbd.trans (Below.mono hE5 hbd.size)⟩
              case measure => simp [intOf]; omega
            · obtain ⟨w1, hw1⟩ : ∃ w1, w1 = wd.alloc (.cells #[] 30) := ⟨_, rfl⟩
              rw [← hw1] at hown1 hE1 ⊢
              have hs1' : w1.heap.size = wd.heap.size + 1 := by rw [hw1]; simp
              have HS1 := Lib.hid hs1'
              clear hw1 hs1'
              refine ⟨_, (by simp only [gtA, gtS, gtZ]; rfl), by rfl, fun K hK => ?_⟩
              go_simp
              have hE3 := Below.alloc hE1 hE1.size (.cells #[.string pt, .string pi, .string pr] 30)
              have hown3 := hown1.below ((Below.refl _ _).alloc (Nat.le_refl _) (.cells #[.string pt, .string pi, .string pr] 30))
              have hk3 : Sl (fun b => b = w1.heap.size) (w1.alloc (.cells #[.string pt, .string pi, .string pr] 30)) 3 (.slice (some ⟨w1.heap.size, 0, none⟩) 1 1) (pcs [⟨pt, pi, pr⟩]) := Sl.made w1 (fun b => b = w1.heap.size) 3 1 30 #[.string pt, .string pi, .string pr] rfl (by decide) rfl
              refine hK.out _ _ hE3 ?_
              clear hK
              refine WalkN.one 4 (by kernel_rfl) ?_
              refine ⟨_, (by simp only [gtA, gtS, gtZ]; rfl), by rfl, fun K hK => ?_⟩
              refine wp_own pointsT (.tmp 39) (.tmp 42) rfl rfl hown3 rfl (hs1.same (Same.below hE3)) (pcs_one _) (by simp [pcs_length] <;> omega) (by simp [pcs_length] <;> omega) hE3.size (fun v2 w2 hown2 hb2 hg2' => ?_)
              have hE2 : Ext wd w2 := Below.trans hE3 hb2
              have hk5 := hk3.same (w' := w2) (fun x hx => hg2'.block x (by subst hx; simp) (fun h => by subst hx; have h2 := Option.some.inj (show some w1.heap.size = some wd.heap.size from h); have := HS1.out; omega))
              refine hK.out _ _ hE2 ?_
              clear hK
              simp only [Act.put, puA, puZ, puS]
              refine WalkN.one 7 (by kernel_rfl) ?_
              refine ⟨_, (by simp only [gtA, gtS, gtZ]; rfl), by rfl, fun K hK => ?_⟩
              refine wp_own pointsT (.tmp 43) (.tmp 45) rfl rfl hown2 rfl hk5 (pcs_one _) (by simp [pcs_length] <;> omega) (by simp [pcs_length] <;> omega) hE2.size (fun v4 w4 hown4 hb4 _ => ?_)
              have hE4 : Ext wd w4 := Below.trans hE2 hb4
              refine hK.out _ _ hE4 ?_
              clear hK
              simp only [Act.put, puA, puZ, puS]
              refine WalkN.one 11 (by kernel_rfl) ?_
              refine ⟨_, (by simp only [gtA, gtS, gtZ]; rfl), by rfl, fun K hK => ?_⟩
              refine wp_own pointsT (.tmp 46) (.tmp 49) rfl rfl hown4 rfl (hs2.same (Same.below hE4)) (pcs_one _) (by simp [pcs_length] <;> omega) (by simp [pcs_length] <;> omega) hE4.size (fun v5 w5 hown5 hb5 _ => ?_)
              have hE5 : Ext wd w5 := Below.trans hE4 hb5
              have HO5 := Lib.hid hown5
              refine hK.out _ _ hE5 ?_
              clear hK
              simp only [Act.put, puA, puZ, puS]
              clear hown2 hown4 hown5 hk5
              ((refine WalkN.take 12 _ ?_ (by simp only [gtA, gtS, gtZ]; rfl) (by kernel_rfl) (by kernel_rfl) (by rfl) (fun W hW => ?_) ?_; rotate_left; · (go_simp; try with_reducible rfl)); simp only [Act.put, puA, puZ, puS])
              refine WalkN.done (by kernel_rfl) ?_
              go_wp2
              go_roundw
              case rel => exact ⟨i + 1, insP q k ⟨pt, pi, pr⟩, by omega, by go_num, (HIN.out ▸ HO5.out : Own w5 wd.heap.size 30 3 v5 (pcs (insP q k ⟨pt, pi, pr⟩))).base hbd.size, HUP.out, HME.out, by rw [insP_length]; omega, hbd.trans (Below.mono hE5 hbd.size)⟩
              case measure => simp [intOf]; omega
          · refine ⟨_, (by simp only [gtA, gtS, gtZ]; rfl), by rfl, fun K hK => ?_⟩
            go_simp
            have hE1 := Below.alloc hE0 (Nat.le_refl _) (.cells #[.string pt, .string pi, .string pr] 30)
            have hk1 : Sl (fun b => b = wd.heap.size) (wd.alloc (.cells #[.string pt, .string pi, .string pr] 30)) 3 (.slice (some ⟨wd.heap.size, 0, none⟩) 1 1) (pcs [⟨pt, pi, pr⟩]) := Sl.made wd (fun b => b = wd.heap.size) 3 1 30 #[.string pt, .string pi, .string pr] rfl (by decide) rfl
            refine hK.out _ _ hE1 ?_
            clear hK
            obtain ⟨w1, hw1⟩ : ∃ w1, w1 = wd.alloc (.cells #[.string pt, .string pi, .string pr] 30) := ⟨_, rfl⟩
            rw [← hw1] at hk1 hE1 ⊢
            have hs1' : w1.heap.size = wd.heap.size + 1 := by rw [hw1]; simp
            have HS1 := Lib.hid hs1'
            clear hw1 hs1'
            refine WalkN.one 0 (by kernel_rfl) ?_
            refine ⟨_, (by simp only [gtA, gtZ]; rfl), by rfl, fun K hK => ?_⟩
            go_simp
            have hown1 : Own (w1.alloc (.cells #[] 30)) wd.heap.size 30 3 (.slice (some ⟨w1.heap.size, 0, none⟩) 0 0) [] := Own.made w1 hE1.size _ _
            have hE3 := Below.alloc hE1 hE1.size (.cells #[] 30)
            have hk3 := hk1.same (w' := w1.alloc (.cells #[] 30)) (fun x hx => Below.heap_alloc w1 _ x (by subst hx; have := HS1.out; omega))
            refine hK.out _ _ hE3 ?_
            clear hK
            refine WalkN.one 4 (by kernel_rfl) ?_
            refine ⟨_, (by simp only [gtA, gtS, gtZ]; rfl), by rfl, fun K hK => ?_⟩
            refine wp_own pointsT (.tmp 39) (.tmp 42) rfl rfl hown1 rfl (hs1.same (Same.below hE3)) (pcs_one _) (by simp [pcs_length] <;> omega) (by simp [pcs_length] <;> omega) hE3.size (fun v2 w2 hown2 hb2 hg2' => ?_)
            have hE2 : Ext wd w2 := Below.trans hE3 hb2
            have hk5 := hk3.same (w' := w2) (fun x hx => hg2'.block x (by subst hx; have := HS1.out; simp; omega) (fun h => by subst hx; have h2 := Option.some.inj (show some wd.heap.size = some w1.heap.size from h); have := HS1.out; omega))
            refine hK.out _ _ hE2 ?_
            clear hK
            simp only [Act.put, puA, puZ, puS]
            refine WalkN.one 7 (by kernel_rfl) ?_
            refine ⟨_, (by simp only [gtA, gtS, gtZ]; rfl), by rfl, fun K hK => ?_⟩
            refine wp_own pointsT (.tmp 43) (.tmp 45) rfl rfl hown2 rfl hk5 (pcs_one _) (by simp [pcs_length] <;> omega) (by simp [pcs_length] <;> omega) hE2.size (fun v4 w4 hown4 hb4 _ => ?_)
            have hE4 : Ext wd w4 := Below.trans hE2 hb4
            refine hK.out _ _ hE4 ?_
            clear hK
            simp only [Act.put, puA, puZ, puS]
            refine WalkN.one 11 (by kernel_rfl) ?_
            refine ⟨_, (by simp only [gtA, gtS, gtZ]; rfl), by rfl, fun K hK => ?_⟩
            refine wp_own pointsT (.tmp 46) (.tmp 49) rfl rfl hown4 rfl (hs2.same (Same.below hE4)) (pcs_one _) (by simp [pcs_length] <;> omega) (by simp [pcs_length] <;> omega) hE4.size (fun v5 w5 hown5 hb5 _ => ?_)
            have hE5 : Ext wd w5 := Below.trans hE4 hb5
            have HO5 := Lib.hid hown5
            refine hK.out _ _ hE5 ?_
            clear hK
            simp only [Act.put, puA, puZ, puS]
            clear hown2 hown4 hown5 hk5
            ((refine WalkN.take 12 _ ?_ (by simp only [gtA, gtS, gtZ]; rfl) (by kernel_rfl) (by kernel_rfl) (by rfl) (fun W hW => ?_) ?_; rotate_left; · (go_simp; try with_reducible rfl)); simp only [Act.put, puA, puZ, puS])
            refine WalkN.done (by kernel_rfl) ?_
            go_wp2
            go_roundw
            case rel => exact ⟨i + 1, insP q k ⟨pt, pi, pr⟩, by omega, by go_num, (HIN.out ▸ HO5.out : Own w5 wd.heap.size 30 3 v5 (pcs (insP q k ⟨pt, pi, pr⟩))).base hbd.size, HUP.out, HME.out, by rw [insP_length]; omega, hbd.trans (Below.mono hE5 hbd.size)⟩
            case measure => simp [intOf]; omega
    · obtain rfl : i = l.length := by omega
      obtain ⟨mo, mc, rfl, -, -, -⟩ := Sl.rows pC_length (by decide) (show Sl _ wr 3 u3 (List.flatMap pC q) from hown.sl)
      rw [List.take_length] at HMQ
      have HOW := Lib.hid hown
      clear hown
      go_wp2_with fail
      go_ret
      exact ⟨_, q, rfl, HUPQ.out, HMQ.out, HOW.out, hbel⟩
end Go.Proofs.YtjdigpfipmckhaaGreat
