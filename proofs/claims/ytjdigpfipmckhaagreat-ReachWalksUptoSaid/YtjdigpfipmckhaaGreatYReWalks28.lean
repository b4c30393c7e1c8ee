/- Lemmas for the claim, no condition. -/
import Derived.RangeFuncGives
import Derived.RangeFuncNested
import Derived.RangeFuncLeaves
import Derived.WalkKit
import Derived.OwnWalkIn
import Derived.TacticsInMore
import Derived.RegionIn
import Derived.LoopNIn
import Derived.LoopIn
import Derived.Shelf.Small.Strs
import Derived.Shelf.LaysM
import Derived.Test.YtjdigpfipmckhaaGreatYReWalks24
import Derived.Test.YtjdigpfipmckhaaGreatYReWalks3
import Derived.Test.YtjdigpfipmckhaaGreatYReWalks10
import Derived.Test.YtjdigpfipmckhaaGreatYReWalks8
import Derived.Test.YtjdigpfipmckhaaGreatYReWalks0
namespace Go.Proofs.YtjdigpfipmckhaaGreat
open Go Go.RowKit
attribute [local go_sem] Oper.semAt_some
theorem tu_len (l : List Tup) : (tuCs l).length = l.length * 6 := tuCs_length l
theorem tu_app (a : List Tup) (b : List Tup) : tuCs (a ++ b) = tuCs a ++ tuCs b := tuCs_append a b
theorem tu_sing (x : Tup) : tuCs [x] = tuC x := by simp [tuCs]
theorem cells_litT (w : World) (a b c d e f : Value) (t : TypeId) : ∀ j u, [a, b, c, d, e, f][j]? = some u → (w.alloc (.cells #[a, b, c, d, e, f] t)).cell? ((⟨w.heap.size, 0, none⟩ : Addr).add j) = some u := fun j u hu => by
  rw [Addr.add_lit, cell_of_row _ w.heap.size (0 + j) #[a, b, c, d, e, f] t (0, 0) (heap_alloc_new w _), Nat.zero_add]
  simpa using hu
set_option maxRecDepth 100000 in
set_option maxHeartbeats 2000000 in
theorem appT_in (F : Fence) (n : Nat) (h45 : F.fn 158) (hro : F.round = none) (hn : 2 ≤ n) (g : Nat) (lb : Array Value) (hFg : F.fn g) (eg : ∀ args w, (callFunc g args).run Tryz.prog w = .ok (.enter g args) w)
    (S Sp : List Tup → Prop) (N : Nat) (w : World) (hN : N ≤ 137438953472) (hseq : SeqStopsK F (n - 1) Tryz.prog g lb (fun x => #[tV x]) (Below w.heap.size) S Sp N w) :
    CallsIn F n Tryz.prog 158 #[.slice none 0 0, .func (.func g) #[] lb] w fun e w' => ∃ (v' : Value) (ss : List Tup), e = .returned v' ∧ S ss ∧ Own w' w.heap.size 104 6 v' (tuCs ss) ∧ Ext w w' := by
  have h1 : 1 ≤ n := by omega
  refine callsIn_of_wp_marks Tryz.func158 rfl h45 ?_ hro
  simp only [Tryz.ntmps158, List.size_toArray, List.length_cons, List.length_nil, Nat.reduceAdd, Nat.reduceSub, Array.replicate_succ, Array.replicate_zero, List.push_toArray, List.append_toArray, List.nil_append, List.cons_append]
  gi_wp2
  have bS := Boxed.new w 25 (.slice none 0 0)
  have hw0 : Below w.heap.size w (w.alloc (.cells #[.slice none 0 0] 25)) := (Below.refl _ w).alloc (Nat.le_refl _) _
  have hsz : (w.alloc (.cells #[.slice none 0 0] 25)).heap.size = w.heap.size + 1 := by simp
  have hk0 : KeepsFrom 0 w (w.alloc (.cells #[.slice none 0 0] 25)) := (KeepsOthers.alloc _ _).from _
  obtain ⟨W0, hW0⟩ : ∃ W0, w.alloc (.cells #[.slice none 0 0] 25) = W0 := ⟨_, rfl⟩
  rw [hW0] at bS hw0 hsz hk0 ⊢
  clear hW0
  refine wpIn_rangeFunc_ownH hro h1 (gf := g) (lb := lb) rfl hFg eg hseq belowK_t (belowK_b (n₀ := w.heap.size) (by omega)) hw0 (fun _ => rfl)
    (fun pre W => (∃ v', Boxed W w.heap.size 25 v' ∧ Own W w.heap.size 104 6 v' (tuCs pre) ∧ (∀ g, v'.ownBlock = some g → (Value.slice none 0 0).ownBlock = some g ∨ w.heap.size ≤ g)) ∧ (Kept (fun b => b < w.heap.size ∧ (Value.slice none 0 0).ownBlock ≠ some b) w W ∧ KeepsFrom 0 w W))
    (fun _ _ _ => False)
    (OwnFrom.and (own_ownFrom w.heap.size w.heap.size 25 104 6 (fun pre => tuCs pre) (fun v' => ∀ g, v'.ownBlock = some g → (Value.slice none 0 0).ownBlock = some g ∨ w.heap.size ≤ g) _) (OwnFrom.and (ownFrom_kept (fun b hb => hb.1) (by omega)) (ownFrom_keepsFrom (by omega))))
    (fun _ _ _ _ _ hs _ _ => hs)
    ⟨⟨_, bS, Own.nil _ _ _ _, fun g hg => .inl hg⟩, Below.kept hw0 (fun b hb => hb.1), hk0⟩
    (fun x a' W => ∃ Bx, w.heap.size < Bx ∧ Blk W Bx #[.string x.o.t, .string x.o.i, .string x.o.r, .string x.s.t, .string x.s.i, .string x.s.r] 104 ∧ a' = { tmps := #[.slice none 0 0, .func (.func g) #[] lb, .pointer (some ⟨w.heap.size, 0, none⟩), undef, .slice none 0 0, .pointer (some ⟨Bx, 0, none⟩), .func (.func g) #[] lb, tV x, undef, undef, undef, undef, undef], defers := [] })
    (fun x a' _ X Y row hs hg hr => by obtain ⟨Bx, h1, h2, h3⟩ := hs; exact ⟨Bx, h1, boxed3_kept h2 hg (fun r e => (hr r e).2), h3⟩)
    ?assign ?body ?done ?stop
  case assign =>
    rintro l2 pre ⟨⟨xa, xb, xc⟩, ⟨xd, xe, xf⟩⟩ W K ⟨⟨v', bS1, hO1, hG1⟩, hB1, hK1⟩ hK
    dsimp only [tV]
    gi_wp2
    refine hK _ _ ((KeepsOthers.alloc _ _).from _) ((Below.refl _ _).alloc hB1.size _) ⟨⟨v', bS1.alloc _, hO1.below ((Below.refl _ _).alloc (Nat.le_refl _) _), hG1⟩, hB1.alloc (fun b hb => Nat.lt_of_lt_of_le hb.1 hB1.size) _, hK1.trans ((KeepsOthers.alloc _ _).from _)⟩ ⟨W.heap.size, bS1.lt, Blk.made W _ _, rfl⟩
  case body =>
    rintro l2 pre ⟨⟨xa, xb, xc⟩, ⟨xd, xe, xf⟩⟩ a' W hl ⟨r, hr⟩ ⟨⟨v', bS1, hO1, hG1⟩, hB1, hK1⟩ ⟨Bx, hBx, bX, rfl⟩ hlt
    have cS := bS1.cell
    have cX := bX.cells
    have hwl := hB1.size
    have hpl : (tuCs pre).length = pre.length * 6 := tu_len pre
    have hbb : (pre.length * 6 + 6) * 96 ≤ 140737488355328 := by omega
    gi_wp2_with (first
      | (gi_at_builtin; go_loud (
         refine wpListIn_own tupT rfl _ _ rfl rfl (hO1.below ((Below.refl _ _).alloc (Nat.le_refl _) _)) (ad := ⟨W.heap.size, 0, none⟩) (m := 1) (c := 1) (news := [.string xa, .string xb, .string xc, .string xd, .string xe, .string xf]) rfl rfl (cells_litT _ _ _ _ _ _ _ _) (by intro u hu; simp only [List.mem_cons, List.not_mem_nil, or_false] at hu; rcases hu with rfl | rfl | rfl | rfl | rfl | rfl <;> rfl) (by simp only [List.length_cons, List.length_nil]; omega) (by simp only [List.length_cons, List.length_nil]; rw [hpl]; exact hbb) (by simp; omega) ?_
         intro v2 w2 hO2 hG2 hg2
         obtain ⟨g2, n2, c2, rfl⟩ : ∃ g2 n2 c2, v2 = .slice (some ⟨g2, 0, none⟩) n2 c2 := by
           rcases hO2.shape with ⟨_, h⟩ | h
           · exact absurd h (by simp)
           · exact h
         have bS2 := (bS1.alloc (.cells #[.string xa, .string xb, .string xc, .string xd, .string xe, .string xf] 104)).kept hg2 (boxed_notOwn (bS1.alloc _) (by decide) (hO1.below ((Below.refl _ _).alloc (Nat.le_refl _) (.cells #[.string xa, .string xb, .string xc, .string xd, .string xe, .string xf] 104))))
         have cS2 := bS2.cell
         have fS2 := bS2.frozen))
      | gi_in)
    have hKa : KeepsFrom 0 W (W.alloc (.cells #[.string xa, .string xb, .string xc, .string xd, .string xe, .string xf] 104)) := (KeepsOthers.alloc _ _).from _
    have hKb := hKa.trans (keeps_own (hO1.below ((Below.refl _ _).alloc (Nat.le_refl _) (.cells #[.string xa, .string xb, .string xc, .string xd, .string xe, .string xf] 104))) hg2 0)
    have hKc : KeepsFrom 0 W (w2.setCell ⟨w.heap.size, 0, none⟩ (.slice (some ⟨g2, 0, none⟩) n2 c2)) := hKb.trans ((KeepsOthers.setCell _ _ _).from _)
    have hlow : Below w.heap.size W (w2.setCell ⟨w.heap.size, 0, none⟩ (.slice (some ⟨g2, 0, none⟩) n2 c2)) := (((Below.refl _ W).alloc hwl _).grown hg2 (by simp; omega) (fun g hg => by
      rcases hG1 g hg with h | h
      · cases h
      · exact h)).setCell (Nat.le_refl _) _
    refine ⟨keeps_up hKc _, hlow, ⟨⟨_, bS2.set _, ?_, fun g hg => ?_⟩, ?_, hK1.trans hKc⟩⟩
    · have := hO2.keepOwn (w' := w2.setCell ⟨w.heap.size, 0, none⟩ (.slice (some ⟨g2, 0, none⟩) n2 c2)) (fun g hg => Below.heap_setCell _ _ _ g (fun e => boxed_notOwn bS2 (by decide) hO2 (by rw [hg, e])))
      rw [tu_app pre, tu_sing]
      exact this
    · rcases hG2 g hg with h | h
      · exact hG1 g h
      · exact .inr (by have := hB1.size; simp at h; omega)
    · have hk2 : Kept (fun b => b < w.heap.size ∧ (Value.slice none 0 0).ownBlock ≠ some b) (W.alloc (.cells #[.string xa, .string xb, .string xc, .string xd, .string xe, .string xf] 104)) w2 := ⟨hg2.os, hg2.tape, hg2.output, hg2.size, fun b hb => hg2.block b (by have := hB1.size; have := hb.1; simp; omega) (fun e => by
        rcases hG1 b e.symm with h | h
        · exact hb.2 h
        · have := hb.1; omega)⟩
      exact ((hB1.alloc (fun b hb => Nat.lt_of_lt_of_le hb.1 hB1.size) _).trans hk2).set (a := ⟨w.heap.size, 0, none⟩) (fun h => Nat.lt_irrefl _ h.1) _
  case done =>
    rintro D ys W hD hS ⟨⟨v', bS1, hO1, _⟩, hB1, hK1⟩ hK
    have cS := bS1.cell
    obtain ⟨ao', k', c', rfl⟩ : ∃ ao k c, v' = .slice ao k c := by
      rcases hO1.shape with ⟨rfl, _⟩ | ⟨g, n, c, rfl⟩
      · exact ⟨_, _, _, rfl⟩
      · exact ⟨_, _, _, rfl⟩
    gi_wp2
    refine ⟨by simp, .inl ⟨_, _, rfl, run_takeDeferred hK, ?_⟩⟩
    refine ⟨_, results_tmp rfl _ _ _, _, ys, rfl, hS, hO1.put _ hK rfl, ⟨hB1.os, hB1.tape, hB1.output, by have := hB1.size; simpa using this, fun b hb => (World.putObj_heap_other (fun e => by omega)).trans (hB1.block b ⟨hb, fun e => by cases e⟩)⟩⟩
  case stop =>
    rintro D c pre W _ _ h _
    exact h.elim
end Go.Proofs.YtjdigpfipmckhaaGreat
namespace Go.Proofs.YtjdigpfipmckhaaGreat
open Go Go.RowKit
attribute [local go_sem] Oper.semAt_some
theorem grown_alloc (w : World) (o : Obj) : w.grownBy (w.alloc o) none := ⟨rfl, rfl, rfl, by simp, fun b hb _ => Below.heap_alloc w o b hb⟩
set_option maxRecDepth 100000 in
set_option maxHeartbeats 2000000 in
theorem valsT_in (F : Fence) (n : Nat) (hf : F.fn 113) (hro : F.round = none) (hn : 1 ≤ n) (l Bs n₀ B0 : Nat) (ao : Option Addr) (cap : Nat) (zs : List Tup) (hl : zs.length ≤ 1099511627776) (J Jx : List Tup → World → Prop) (hA : AbidesFrom B0 J)
    (hY : ∀ pre x W, J pre W → pre.length < zs.length → YieldAt F (n - 1) Tryz.prog l #[tV x] W fun e W' =>
      (e = .returned (.bool true) ∧ J (pre ++ [x]) W' ∧ Below n₀ W W') ∨ (e = .returned (.bool false) ∧ Jx (pre ++ [x]) W'))
    (W : World) (hn0 : n₀ ≤ W.heap.size) (hBs : W.cell? ⟨Bs, 0, none⟩ = some (.slice ao zs.length cap)) (hc : Sl (· < n₀) W 6 (.slice ao zs.length cap) (zs.flatMap tuC)) (h0 : J [] W) :
    CallsIn F n Tryz.prog 113 #[.func (.yield l) #[] #[], .pointer (some ⟨Bs, 0, none⟩)] W fun e W' => (∃ v, e = .returned v) ∧
      ((∃ ys, ys = zs ∧ J ys W') ∨ (∃ pre, pre <+: zs ∧ Jx pre W')) := by
  refine callsIn_of_wp Tryz.func113 rfl hf ?_ hro
  simp only [Tryz.ntmps113, List.size_toArray, List.length_cons, List.length_nil, Nat.reduceAdd, Nat.reduceSub, Array.replicate_succ, Array.replicate_zero, List.push_toArray, List.append_toArray, List.nil_append, List.cons_append]
  gi_wp2
  gi_loopw [7] (fun i wr => ∃ k : Nat, k ≤ zs.length ∧ i = .int .i64 k ∧ J (zs.take k) wr ∧ Below n₀ W wr)
    (fun i _ => zs.length - (intOf i).toNat)
  case atStart => exact ⟨0, Nat.zero_le _, rfl, h0, Below.refl _ _⟩
  case round =>
    obtain ⟨k, hk, rfl, hJs, hnx⟩ := hrel
    by_cases hlt : k < zs.length
    · obtain ⟨ao', c', he', -, -, hcell⟩ := Sl.rows tuC_length (by decide) (hc.same (w' := wr) fun x hx => hnx.block x hx)
      cases he'
      obtain ⟨bq, oq, rfl, -, hcell⟩ := hcell (by omega)
      have hck := hcell k hlt
      have hts := List.take_succ_eq_append_getElem hlt
      have hpl : (zs.take k).length < zs.length := by rw [List.length_take]; omega
      have hpre : zs.take (k + 1) <+: zs := List.take_prefix _ _
      generalize zs[k] = x at *
      obtain ⟨⟨xa, xb, xc⟩, ⟨xd, xe, xf⟩⟩ := x
      have c0 : wr.cell? ⟨bq, oq + k * 6, none⟩ = some (.string xa) := hck 0 _ rfl
      have c1 : wr.cell? ⟨bq, oq + k * 6 + 1, none⟩ = some (.string xb) := hck 1 _ rfl
      have c2 : wr.cell? ⟨bq, oq + k * 6 + 2, none⟩ = some (.string xc) := hck 2 _ rfl
      have c3 : wr.cell? ⟨bq, oq + k * 6 + 3, none⟩ = some (.string xd) := hck 3 _ rfl
      have c4 : wr.cell? ⟨bq, oq + k * 6 + 4, none⟩ = some (.string xe) := hck 4 _ rfl
      have c5 : wr.cell? ⟨bq, oq + k * 6 + 5, none⟩ = some (.string xf) := hck 5 _ rfl
      have hJ1 := hA _ _ _ none hJs (grown_alloc wr (.cells #[.string xa, .string xb, .string xc, .string xd, .string xe, .string xf] 104)) (fun r e => by cases e)
      have hb1 : Below n₀ wr (wr.alloc (.cells #[.string xa, .string xb, .string xc, .string xd, .string xe, .string xf] 104)) := (Below.refl _ _).alloc (Nat.le_trans hn0 hnx.size) _
      obtain ⟨fn, tmps, assign, body, hy, hR⟩ := hY _ ⟨⟨xa, xb, xc⟩, ⟨xd, xe, xf⟩⟩ _ hJ1 hpl
      try unfold tV at hy
      try dsimp only at hy
      clear hck hcell
      gi_wp2
      refine hR.mono ?_
      rintro e W3 (⟨rfl, hJ3, hk3⟩ | ⟨rfl, hJx3⟩)
      · gi_wp2
        go_roundw
        case rel => exact ⟨k + 1, by omega, by go_num, by rw [hts]; exact hJ3, hnx.trans (hb1.trans hk3)⟩
        case measure => simp [intOf]; omega
      · gi_wp2
        refine bodyPost_ret (results_none rfl _ _ _) rfl ?_
        exact ⟨⟨_, rfl⟩, .inr ⟨_, hpre, by rw [hts]; exact hJx3⟩⟩
    · obtain rfl : k = zs.length := by omega
      gi_wp2
      go_end0
      exact ⟨⟨_, rfl⟩, .inl ⟨_, List.take_length, hJs⟩⟩
theorem valsT_seq (F : Fence) (n : Nat) (hf : F.fn 113) (hro : F.round = none) (hn : 1 ≤ n) (Bs : Nat) (ao : Option Addr) (cap : Nat) (zs : List Tup) (hl : zs.length ≤ 1099511627776) (w : World) (hBs : Bs < w.heap.size)
    (hc : w.cell? ⟨Bs, 0, none⟩ = some (.slice ao zs.length cap)) (hS : Sl (· < w.heap.size) w 6 (.slice ao zs.length cap) (zs.flatMap tuC)) :
    SeqStopsK F n Tryz.prog 113 #[.pointer (some ⟨Bs, 0, none⟩)] (fun x : Tup => #[tV x]) (Below w.heap.size) (fun ys => ys = zs) (fun pre => pre <+: zs) zs.length w := fun l J Jx W hW hA _ hY h0 =>
  (valsT_in F n hf hro hn l Bs w.heap.size W.heap.size ao cap zs hl J Jx hA hY W hW.size ((hW.cell (p := ⟨Bs, 0, none⟩) hBs).trans hc) (hS.same fun x hx => hW.block x hx) h0).mono fun _ _ h => h
set_option maxRecDepth 100000 in
set_option maxHeartbeats 800000 in
theorem valuesT_any (ao : Option Addr) (k cap : Nat) (w : World) : Calls Tryz.prog 56 #[.slice ao k cap] w fun e w' => e = .returned (.func (.func 113) #[] #[.pointer (some ⟨w.heap.size, 0, none⟩)]) ∧ w' = w.alloc (.cells #[.slice ao k cap] 25) := by
  go_enter Tryz.func56, Tryz.ntmps56
  go_wp2
  go_ret
  exact ⟨rfl, rfl⟩
set_option maxRecDepth 100000 in
set_option maxHeartbeats 800000 in
theorem collectT_any (w : World) (Bs : Nat) (ao : Option Addr) (cap : Nat) (zs : List Tup) (hl : zs.length ≤ 137438953472) (hBs : Bs < w.heap.size) (hc : w.cell? ⟨Bs, 0, none⟩ = some (.slice ao zs.length cap)) (hS : Sl (· < w.heap.size) w 6 (.slice ao zs.length cap) (zs.flatMap tuC)) :
    Calls Tryz.prog 111 #[.func (.func 113) #[] #[.pointer (some ⟨Bs, 0, none⟩)]] w fun e w' => ∃ v', e = .returned v' ∧ Own w' w.heap.size 104 6 v' (tuCs zs) ∧ Ext w w' := by
  have HP := Lib.hid (callsIn_wide.1 (appT_in Fence.wide 3 trivial rfl (by omega) 113 _ trivial (enters_of Tryz.func113 (by kernel_rfl) rfl) _ _ zs.length w hl (valsT_seq Fence.wide 2 trivial rfl (by omega) Bs ao cap zs (by omega) w hBs hc hS)))
  clear hS hc
  go_enter Tryz.func111, Tryz.ntmps111
  go_wp2_with fail
  refine HP.out.mono ?_
  rintro e w1 ⟨v, ss, rfl, rfl, ho, hx⟩
  go_wp2
  go_ret
  exact ⟨v, rfl, ho, hx⟩
end Go.Proofs.YtjdigpfipmckhaaGreat
namespace Go.Proofs.YtjdigpfipmckhaaGreat
open Go Go.RowKit
def ltT (a b : Tup) : Bool := if a.o = b.o then ltP a.s b.s else ltP a.o b.o
def cmpT (a b : Tup) : Int := if ltT a b then -1 else if a = b then 0 else 1
theorem ltP_ne {a b : P3} (h : ltP a b = true) : a ≠ b := fun e => by subst e; rw [ltP_irr] at h; cases h
theorem ltT_irr (a : Tup) : ltT a a = false := by simp [ltT, ltP_irr]
theorem ltT_total {a b : Tup} (h : ltT a b = false) (hne : a ≠ b) : ltT b a = true := by
  unfold ltT at *
  by_cases h1 : a.o = b.o
  · rw [if_pos h1] at h
    rw [if_pos h1.symm]
    refine ltP_total h fun h2 => hne ?_
    cases a; cases b; simp_all
  · rw [if_neg h1] at h
    rw [if_neg (Ne.symm h1)]
    exact ltP_total h h1
theorem ltT_trans {a b c : Tup} (h : ltT a b = true) (k : ltT b c = true) : ltT a c = true := by
  unfold ltT at *
  by_cases h1 : a.o = b.o <;> by_cases k1 : b.o = c.o
  · rw [if_pos h1] at h
    rw [if_pos k1] at k
    rw [if_pos (h1.trans k1)]
    exact ltP_trans h k
  · rw [if_neg k1] at k
    rw [if_neg (h1 ▸ k1), h1]
    exact k
  · rw [if_neg h1] at h
    rw [if_neg (k1 ▸ h1), ← k1]
    exact h
  · rw [if_neg h1] at h
    rw [if_neg k1] at k
    have := ltP_trans h k
    rw [if_neg (ltP_ne this)]
    exact this
theorem lt_cmpT (a b : Tup) : Go.Proofs.ltOf cmpT a b = ltT a b := by
  unfold Go.Proofs.ltOf cmpT
  cases h : ltT a b with
  | true => simp
  | false =>
    simp only [Bool.false_eq_true, if_false]
    split <;> simp
theorem swoT : Go.Sort.SWO (Go.Proofs.ltOf cmpT) where
  irrefl x := by rw [lt_cmpT]; exact ltT_irr x
  trans x y z h k := by rw [lt_cmpT] at *; exact ltT_trans h k
  ntrans x y z h k := by
    rw [lt_cmpT] at *
    cases hxz : ltT x z with
    | false => rfl
    | true =>
      by_cases e1 : x = y
      · subst e1; rw [hxz] at k; cases k
      · have h1 := ltT_total h e1
        have h2 := ltT_trans h1 hxz
        rw [h2] at k
        cases k
def UpT (l : List Tup) : Prop := l.Pairwise fun a b => ltT a b = true
theorem UpT.nodup {l : List Tup} (h : UpT l) : l.Nodup := h.imp fun {a b} hab e => by subst e; rw [ltT_irr] at hab; cases hab
theorem UpT.uniq : ∀ {l m : List Tup}, UpT l → UpT m → (∀ t, t ∈ l ↔ t ∈ m) → l = m
  | [], [], _, _, _ => rfl
  | [], b :: m, _, _, h => by have := (h b).2 (by simp); cases this
  | a :: l, [], _, _, h => by have := (h a).1 (by simp); cases this
  | a :: l, b :: m, hl, hm, h => by
    have hl1 := List.pairwise_cons.1 hl
    have hm1 := List.pairwise_cons.1 hm
    have hab : a = b := by
      rcases List.mem_cons.1 ((h a).1 (by simp)) with e | e
      · exact e
      · rcases List.mem_cons.1 ((h b).2 (by simp)) with e2 | e2
        · exact e2.symm
        · have h1 := hm1.1 a e
          have h2 := hl1.1 b e2
          have := ltT_trans h1 h2
          rw [ltT_irr] at this
          cases this
    subst hab
    congr 1
    refine UpT.uniq hl1.2 hm1.2 fun t => ⟨fun ht => ?_, fun ht => ?_⟩
    · rcases List.mem_cons.1 ((h t).1 (List.mem_cons_of_mem _ ht)) with e | e
      · subst e
        have := hl1.1 t ht
        rw [ltT_irr] at this
        cases this
      · exact e
    · rcases List.mem_cons.1 ((h t).2 (List.mem_cons_of_mem _ ht)) with e | e
      · subst e
        have := hm1.1 t ht
        rw [ltT_irr] at this
        cases this
      · exact e
theorem UpT.filter {l : List Tup} (h : UpT l) (p : Tup → Bool) : UpT (l.filter p) := List.Pairwise.filter _ h
structure SetT (l T : List Tup) : Prop where
  up : UpT T
  mem : ∀ t, t ∈ T ↔ t ∈ l ∧ chkT t = true
theorem SetT.uniq {l T U : List Tup} (h : SetT l T) (k : SetT l U) : T = U := h.up.uniq k.up fun t => (h.mem t).trans (k.mem t).symm
theorem SetT.len {l T : List Tup} (h : SetT l T) : T.length ≤ l.length := by
  have : ∀ {l u : List Tup}, l.Nodup → (∀ x ∈ l, x ∈ u) → l.length ≤ u.length := by
    intro l
    induction l with
    | nil => intro u _ _; exact Nat.zero_le _
    | cons a l ih =>
      intro u hn hs
      obtain ⟨p, q, rfl⟩ := List.append_of_mem (hs a List.mem_cons_self)
      rw [List.nodup_cons] at hn
      have h1 := ih (u := p ++ q) hn.2 fun x hx => by
        have h2 := hs x (List.mem_cons_of_mem _ hx)
        rcases List.mem_append.1 h2 with h3 | h3
        · exact List.mem_append_left _ h3
        · rcases List.mem_cons.1 h3 with h3 | h3
          · subst h3; exact absurd hx hn.1
          · exact List.mem_append_right _ h3
      simp only [List.length_cons, List.length_append] at h1 ⊢
      omega
  exact this h.up.nodup fun x hx => ((h.mem x).1 hx).1
end Go.Proofs.YtjdigpfipmckhaaGreat
namespace Go.Proofs.YtjdigpfipmckhaaGreat
open Go Go.RowKit Go.Shelf
theorem Gr.fields {w w' : World} (h : Gr w w') : w'.tape = w.tape ∧ w'.os = w.os ∧ w'.output = w.output ∧ w.drawn ≤ w'.drawn := by
  obtain ⟨q, os, rfl⟩ := h
  exact ⟨rfl, rfl, rfl, by simp [Sort.grow, World.drewN]⟩
theorem Gr.of {w w' : World} (ht : w'.tape = w.tape) (ho : w'.os = w.os) (hp : w'.output = w.output) (hd : w.drawn ≤ w'.drawn) (hz : w.heap.size ≤ w'.heap.size) (hk : ∀ k, k < w.heap.size → w'.heap[k]? = w.heap[k]?) : Gr w w' := by
  refine ⟨w'.drawn - w.drawn, w'.heap.extract w.heap.size w'.heap.size, ?_⟩
  have hh : w'.heap = w.heap ++ w'.heap.extract w.heap.size w'.heap.size := by
    apply Array.ext_getElem?
    intro i
    by_cases hi : i < w.heap.size
    · rw [hk i hi, Array.getElem?_append_left hi]
    · rw [Array.getElem?_append_right (by omega), Array.getElem?_extract]
      by_cases h2 : i < w'.heap.size
      · rw [if_pos (by omega)]
        congr 1
        omega
      · rw [if_neg (by omega)]
        exact Array.getElem?_eq_none (by omega)
  obtain ⟨h1, t1, d1, o1, p1⟩ := w'
  simp only at ht ho hp hd hh
  subst ht ho hp
  simp only [Sort.grow, World.drewN]
  congr 1
  omega
theorem Gr.next {a b c : World} (h : Gr a b) (k : Gr b c) : Gr a c := by
  have h1 := h.fields
  have k1 := k.fields
  have h2 := h.below
  have k2 := k.below
  refine Gr.of (k1.1.trans h1.1) (k1.2.1.trans h1.2.1) (k1.2.2.1.trans h1.2.2.1) (Nat.le_trans h1.2.2.2 k1.2.2.2) (Nat.le_trans h2.size k2.size) fun j hj => (k2.block j (Nat.lt_of_lt_of_le hj h2.size)).trans (h2.block j hj)
theorem Gr.set {w w' : World} (h : Gr w w') {x i : Nat} (hx : w.heap.size ≤ x) (v : Value) : Gr w (w'.setCell ⟨x, i, none⟩ v) := by
  have h1 := h.fields
  have h2 := h.below
  exact Gr.of h1.1 h1.2.1 h1.2.2.1 h1.2.2.2 (by have := h2.size; simpa using this) fun j hj => (Below.heap_setCell _ _ _ j (by show j ≠ x; omega)).trans (h2.block j hj)
def Tryz.lays106_ren : Go.Shelf.Ren := ⟨fun | 106 => 115 | 213 => 160 | 265 => 192 | n => n, fun | 9 => 9 | 3 => 3 | n => n, fun | n => n⟩
theorem Tryz.lays106 : Go.Proofs.Lays.n106 Tryz.prog Tryz.lays106_ren := {
  mixed := by kernel_rfl
  f106 := Tryz.func115.trans (congrArg some (by kernel_rfl))
  f213 := Tryz.func160.trans (congrArg some (by kernel_rfl))
  f265 := Tryz.func192.trans (congrArg some (by kernel_rfl))
  t3 := Tryz.underlying3
  a3 := Tryz.isAgg3
  z3 := Tryz.sizeOf3
  v3 := Tryz.zeroValue3
  t9 := Tryz.underlying9
  a9 := Tryz.isAgg9
  z9 := Tryz.sizeOf9
  v9 := Tryz.zeroValue9 }
theorem compareS_any (a b : ByteArray) (w : World) : Calls Tryz.prog 115 #[.string a, .string b] w fun e w' => e = .returned (.int .i64 (Lib.compareBytes a.data.toList b.data.toList)) ∧ w' = w := Any.strings_Compare Tryz.lays106 a b w
theorem region_to {P : Program} {c : Code} {Q : Exit → Act → World → Prop} {a : Act} {w : World} (R : Act → World → Prop) (h1 : c.wp P (fun e a' w' => e = .normal ∧ R a' w') a w) (h2 : ∀ a' w', R a' w' → Q .normal a' w') : c.wp P Q a w :=
  Code.wp_mono (fun e a' w' h => by
    obtain ⟨rfl, h⟩ := h
    exact h2 a' w' h) h1
end Go.Proofs.YtjdigpfipmckhaaGreat
namespace Go.Proofs.YtjdigpfipmckhaaGreat
open Go Go.RowKit
theorem cmpL_eq : ∀ l m : List UInt8, Lib.compareBytes l m = if l < m then -1 else if l = m then 0 else 1
  | [], [] => by simp [Lib.compareBytes]
  | [], _ :: _ => by simp [Lib.compareBytes]
  | _ :: _, [] => by simp [Lib.compareBytes]
  | a :: l, b :: m => by
    rw [Lib.compareBytes, cmpL_eq l m]
    by_cases h : a < b
    · rw [if_pos h, if_pos (List.cons_lt_cons_iff.2 (.inl h))]
    · rw [if_neg h]
      by_cases h2 : b < a
      · have hne : ¬ a = b := fun e => by rw [e] at h2; exact UInt8.lt_irrefl _ h2
        have h3 : ¬ (a :: l) < (b :: m) := fun h4 => by
          rcases List.cons_lt_cons_iff.1 h4 with h5 | ⟨h5, _⟩
          · exact h h5
          · exact hne h5
        rw [if_pos h2, if_neg h3, if_neg (by simp [hne])]
      · have e : a = b := UInt8.le_antisymm (UInt8.not_lt.1 h2) (UInt8.not_lt.1 h)
        subst e
        rw [if_neg h2]
        have h3 : (a :: l) < (a :: m) ↔ l < m := by rw [List.cons_lt_cons_iff]; simp [UInt8.lt_irrefl]
        by_cases h4 : l < m
        · rw [if_pos h4, if_pos (h3.2 h4)]
        · rw [if_neg h4, if_neg (fun h5 => h4 (h3.1 h5))]
          simp
theorem cB_cmpS (a b : ByteArray) : Lib.compareBytes a.data.toList b.data.toList = cmpS a b := by
  rw [cmpL_eq]
  unfold cmpS
  have h1 : (ltS a b = true) ↔ a.data.toList < b.data.toList := by
    unfold ltS
    rw [ByteArray.toList_eq, ByteArray.toList_eq, bytesLess_eq]
    simp
  have h2 : a.data.toList = b.data.toList ↔ a = b := ⟨fun h => by
    obtain ⟨⟨x⟩⟩ := a
    obtain ⟨⟨y⟩⟩ := b
    simp only at h
    rw [h], fun h => by rw [h]⟩
  simp only [h1, h2]
def tp (a : Tup) : Nat → ByteArray
  | 0 => a.o.t
  | 1 => a.o.i
  | 2 => a.o.r
  | 3 => a.s.t
  | 4 => a.s.i
  | _ => a.s.r
def cL (a b : Tup) : List Int := [cmpS a.o.t b.o.t, cmpS a.o.i b.o.i, cmpS a.o.r b.o.r, cmpS a.s.t b.s.t, cmpS a.s.i b.s.i, cmpS a.s.r b.s.r]
def cmpC (a b : Tup) : Int := orL (cL a b)
theorem cL_at (a b : Tup) : ∀ i (h : i < (cL a b).length), (cL a b)[i] = cmpS (tp a i) (tp b i)
  | 0, _ => rfl
  | 1, _ => rfl
  | 2, _ => rfl
  | 3, _ => rfl
  | 4, _ => rfl
  | 5, _ => rfl
  | _ + 6, h => absurd h (by simp [cL])
theorem cmpC_eq (a b : Tup) : cmpC a b = if a.o = b.o then ordP a.s b.s else ordP a.o b.o := by
  obtain ⟨⟨a1, a2, a3⟩, ⟨a4, a5, a6⟩⟩ := a
  obtain ⟨⟨b1, b2, b3⟩, ⟨b4, b5, b6⟩⟩ := b
  simp only [cmpC, cL, ordP, orL, P3.mk.injEq, cmpS_zero]
  by_cases h1 : a1 = b1 <;> by_cases h2 : a2 = b2 <;> by_cases h3 : a3 = b3 <;> simp [h1, h2, h3]
theorem lt_cmpC (a b : Tup) : Go.Proofs.ltOf cmpC a b = ltT a b := by
  unfold ltT
  have e : Go.Proofs.ltOf cmpC a b = if a.o = b.o then Go.Proofs.ltOf ordP a.s b.s else Go.Proofs.ltOf ordP a.o b.o := by
    unfold Go.Proofs.ltOf
    rw [cmpC_eq]
    split <;> rfl
  rw [e, lt_ordP, lt_ordP]
theorem swoC : Go.Sort.SWO (Go.Proofs.ltOf cmpC) := by
  have : Go.Proofs.ltOf cmpC = Go.Proofs.ltOf cmpT := funext fun a => funext fun b => by rw [lt_cmpC, lt_cmpT]
  rw [this]
  exact swoT
theorem cmpC_self (a : Tup) : cmpC a a = 0 := by
  have h : ∀ x : ByteArray, cmpS x x = 0 := fun x => (cmpS_zero x x).2 rfl
  simp [cmpC, cL, orL, h]
theorem cmpC_first {a b : Tup} {i : Nat} (hi : i < 6) (h0 : ∀ j, j < i → cmpS (tp a j) (tp b j) = 0) (h1 : cmpS (tp a i) (tp b i) ≠ 0) : cmpC a b = cmpS (tp a i) (tp b i) := by
  have hl : i < (cL a b).length := hi
  unfold cmpC
  rw [orL_drop (i := i) fun j hj hji => by rw [cL_at]; exact h0 j hji]
  rw [List.drop_eq_getElem_cons hl, orL, cL_at, if_neg h1]
theorem cmpC_none {a b : Tup} (h0 : ∀ j, j < 6 → cmpS (tp a j) (tp b j) = 0) : cmpC a b = 0 := by
  unfold cmpC
  rw [orL_drop (i := 6) fun j hj hji => by rw [cL_at]; exact h0 j hji]
  rfl
def tpC (a : Tup) : Array Value := #[.string a.o.t, .string a.o.i, .string a.o.r, .string a.s.t, .string a.s.i, .string a.s.r]
theorem tpC_at (a : Tup) : ∀ i, i < 6 → (tpC a)[i]? = some (.string (tp a i))
  | 0, _ => rfl
  | 1, _ => rfl
  | 2, _ => rfl
  | 3, _ => rfl
  | 4, _ => rfl
  | 5, _ => rfl
  | _ + 6, h => absurd h (by omega)
end Go.Proofs.YtjdigpfipmckhaaGreat
