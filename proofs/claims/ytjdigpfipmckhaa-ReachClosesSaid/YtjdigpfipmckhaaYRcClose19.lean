/- Lemmas for the claim, no condition. -/
import Derived.RangeFuncGives
import Derived.RangeFuncNested
import Derived.RangeFuncLeaves
import Derived.WalkKit
import Derived.OwnWalkIn
import Derived.TacticsInMore
import Derived.RegionIn
import Derived.LoopNIn
import Derived.LoopIn
import Derived.Test.YtjdigpfipmckhaaYRcClose18
import Derived.Test.YtjdigpfipmckhaaYRcClose4
import Derived.Test.YtjdigpfipmckhaaYRcClose0
import Derived.Test.YtjdigpfipmckhaaYRcClose5
import Derived.Test.YtjdigpfipmckhaaYRcClose2
import Derived.Test.YtjdigpfipmckhaaYRcClose6
import Derived.Test.YtjdigpfipmckhaaYRcClose3
import Derived.Test.YtjdigpfipmckhaaYRcClose1
import Derived.Test.YtjdigpfipmckhaaYRcClose16
import Derived.Test.YtjdigpfipmckhaaYRcClose8
namespace Go.Proofs.Ytjdigpfipmckhaa
open Go Go.RowKit Go.Maps
set_option maxRecDepth 100000 in
set_option maxHeartbeats 1000000 in
theorem walkE_any (ts : List TyS) (tv fv sv pv mv : Value) (w : World) (hpv : ∃ p : P3, pv = pV p) (h : TysAt (· < w.heap.size) w ts tv) (hok : ∀ t ∈ ts, t.Ok) (hc : chk06 ts ≠ 0) (hsB : schB ts ≤ 549755813888) (hsz : ∀ t ∈ ts, ∀ r ∈ t.rels, r.2.sz ≤ 1000000) (hln : (namesOf ts).length ≤ 1099511627776) (hlr : (refsOf ts).length ≤ 1099511627776) :
    Calls Try.prog 10 #[.agg #[tv], fv, sv, pv, mv] w fun e w' => Ext w w' ∧ e = .returned (.tuple #[.agg #[.slice none 0 0, .slice none 0 0], .int .i64 (chk06 ts)]) := by
  obtain ⟨p, rfl⟩ := hpv
  obtain ⟨ao, c, rfl, -⟩ := h.rows
  obtain ⟨wa, hwa⟩ : ∃ x, x = w.alloc (.cells #[.slice ao ts.length c] 29) := ⟨_, rfl⟩
  obtain ⟨wb, hwb⟩ : ∃ x, x = wa.alloc (.cells #[.string p.t, .string p.i, .string p.r] 36) := ⟨_, rfl⟩
  obtain ⟨wc, hwc⟩ : ∃ x, x = wb.alloc (.cells #[.slice none 0 0, .slice none 0 0] 41) := ⟨_, rfl⟩
  have ea : wa.heap.size = w.heap.size + 1 := by rw [hwa]; simp
  have eb : wb.heap.size = w.heap.size + 2 := by rw [hwb]; simp [ea]
  have ec : wc.heap.size = w.heap.size + 3 := by rw [hwc]; simp [eb]
  have xa : Ext w wa := by rw [hwa]; exact Ext.alloc _ _
  have xb : Ext wa wb := by rw [hwb]; exact Ext.alloc _ _
  have xc : Ext wb wc := by rw [hwc]; exact Ext.alloc _ _
  have XC := Lib.hid (show Ext w wc from xa.trans (xb.trans xc))
  have CZ := Lib.hid ec
  have CS := Lib.hid (show Blk wc w.heap.size #[.slice ao ts.length c] 29 from Blk.below (by rw [hwa]; exact Blk.made _ _ _) (xb.trans xc))
  have CG := Lib.hid (show Blk wc (w.heap.size + 2) #[.slice none 0 0, .slice none 0 0] 41 from by rw [hwc, ← eb]; exact Blk.made _ _ _)
  have CT := Lib.hid (h.up XC.out)
  obtain ⟨q, hq, hq0⟩ : ∃ q, chk06 ts = q ∧ (q == 0) = false := ⟨_, rfl, by simpa using hc⟩
  have hq1 : (q != 0) = true := by simpa using hq0
  have HCK := Lib.hid (show Calls Try.prog 19 #[.agg #[.slice ao ts.length c]] wc fun e w' => e = .returned (.int .i64 q) ∧ Below wc.heap.size wc w' from by
    have h1 := checkP_any ts (.slice ao ts.length c) wc CT.out hok hsB hsz hln hlr
    rw [hq] at h1
    exact h1)
  rw [hq]
  clear h hok hc hsB hsz hln hlr ea eb ec xa xb xc hq
  subst hwc hwb hwa
  have cs0 := CS.out.cells
  unfold pV
  go_enter Try.func10, Try.ntmps10
  go_wp2_with fail
  refine HCK.out.mono ?_
  rintro e w2 ⟨rfl, hx2⟩
  have X2 := Lib.hid (show Ext w w2 from XC.out.trans hx2)
  have G2 := (CG.out.below hx2)
  have cg := G2.cells
  have cf := G2.free
  clear cs0 HCK hx2 XC CZ CS CG CT
  go_wp2
  have XE : Ext w ((w2.setCell ⟨w.heap.size + 2, 0, none⟩ (.slice none 0 0)).setCell ⟨w.heap.size + 2, 1, none⟩ (.slice none 0 0)) := ((X2.out : Below w.heap.size w w2).setCell (p := ⟨w.heap.size + 2, 0, none⟩) (by show w.heap.size ≤ w.heap.size + 2; omega) _).setCell (p := ⟨w.heap.size + 2, 1, none⟩) (by show w.heap.size ≤ w.heap.size + 2; omega) _
  have GE := (G2.set_to (cs' := #[.slice none 0 0, .slice none 0 0]) 0 (.slice none 0 0) rfl).set_to (cs' := #[.slice none 0 0, .slice none 0 0]) 1 (.slice none 0 0) rfl
  refine bodyPost_ret (v := .tuple #[.agg #[.slice none 0 0, .slice none 0 0], .int .i64 q]) ?_ rfl ⟨XE, rfl⟩
  rw [results_cell_tmp rfl]
  have hl := run_loadVar_row (P := Try.prog) _ (w.heap.size + 2) _ 41 _ _ _ GE Try.underlying41 rfl (by kernel_rfl)
  simp [asAddr, hl, Result.andThen]
set_option maxRecDepth 100000 in
set_option maxHeartbeats 1000000 in
theorem walkF_any (ts : List TyS) (tv sv pv mv : Value) (w : World) (hpv : ∃ p : P3, pv = pV p) (h : TysAt (· < w.heap.size) w ts tv) (hok : ∀ t ∈ ts, t.Ok) (hc : chk06 ts = 0) (hsB : schB ts ≤ 549755813888) (hsz : ∀ t ∈ ts, ∀ r ∈ t.rels, r.2.sz ≤ 1000000) (hln : (namesOf ts).length ≤ 1099511627776) (hlr : (refsOf ts).length ≤ 1099511627776) :
    Calls Try.prog 10 #[.agg #[tv], .nilIface, sv, pv, mv] w fun e w' => Ext w w' ∧ e = .returned (.tuple #[.agg #[.slice none 0 0, .slice none 0 0], .int .i64 1]) := by
  obtain ⟨p, rfl⟩ := hpv
  obtain ⟨ao, c, rfl, -⟩ := h.rows
  obtain ⟨wa, hwa⟩ : ∃ x, x = w.alloc (.cells #[.slice ao ts.length c] 29) := ⟨_, rfl⟩
  obtain ⟨wb, hwb⟩ : ∃ x, x = wa.alloc (.cells #[.string p.t, .string p.i, .string p.r] 36) := ⟨_, rfl⟩
  obtain ⟨wc, hwc⟩ : ∃ x, x = wb.alloc (.cells #[.slice none 0 0, .slice none 0 0] 41) := ⟨_, rfl⟩
  have ea : wa.heap.size = w.heap.size + 1 := by rw [hwa]; simp
  have eb : wb.heap.size = w.heap.size + 2 := by rw [hwb]; simp [ea]
  have ec : wc.heap.size = w.heap.size + 3 := by rw [hwc]; simp [eb]
  have xa : Ext w wa := by rw [hwa]; exact Ext.alloc _ _
  have xb : Ext wa wb := by rw [hwb]; exact Ext.alloc _ _
  have xc : Ext wb wc := by rw [hwc]; exact Ext.alloc _ _
  have XC := Lib.hid (show Ext w wc from xa.trans (xb.trans xc))
  have CZ := Lib.hid ec
  have CS := Lib.hid (show Blk wc w.heap.size #[.slice ao ts.length c] 29 from Blk.below (by rw [hwa]; exact Blk.made _ _ _) (xb.trans xc))
  have CG := Lib.hid (show Blk wc (w.heap.size + 2) #[.slice none 0 0, .slice none 0 0] 41 from by rw [hwc, ← eb]; exact Blk.made _ _ _)
  have CT := Lib.hid (h.up XC.out)
  have HCK := Lib.hid (show Calls Try.prog 19 #[.agg #[.slice ao ts.length c]] wc fun e w' => e = .returned (.int .i64 0) ∧ Below wc.heap.size wc w' from by
    have h1 := checkP_any ts (.slice ao ts.length c) wc CT.out hok hsB hsz hln hlr
    rw [hc] at h1
    exact h1)
  clear h hok hc hsB hsz hln hlr ea eb ec xa xb xc
  subst hwc hwb hwa
  have cs0 := CS.out.cells
  unfold pV
  have hq : ∀ W, (binOp BinOp.eql 73 .nilIface .nilIface).run Try.prog W = .ok (.bool true) W := fun _ => by kernel_rfl
  go_enter Try.func10, Try.ntmps10
  go_wp2_with fail
  refine HCK.out.mono ?_
  rintro e w2 ⟨rfl, hx2⟩
  have X2 := Lib.hid (show Ext w w2 from XC.out.trans hx2)
  have G2 := (CG.out.below hx2)
  have cg := G2.cells
  have cf := G2.free
  clear cs0 HCK hx2 XC CZ CS CG CT
  go_wp2
  have XE : Ext w ((w2.setCell ⟨w.heap.size + 2, 0, none⟩ (.slice none 0 0)).setCell ⟨w.heap.size + 2, 1, none⟩ (.slice none 0 0)) := ((X2.out : Below w.heap.size w w2).setCell (p := ⟨w.heap.size + 2, 0, none⟩) (by show w.heap.size ≤ w.heap.size + 2; omega) _).setCell (p := ⟨w.heap.size + 2, 1, none⟩) (by show w.heap.size ≤ w.heap.size + 2; omega) _
  have GE := (G2.set_to (cs' := #[.slice none 0 0, .slice none 0 0]) 0 (.slice none 0 0) rfl).set_to (cs' := #[.slice none 0 0, .slice none 0 0]) 1 (.slice none 0 0) rfl
  refine bodyPost_ret (v := .tuple #[.agg #[.slice none 0 0, .slice none 0 0], .int .i64 1]) ?_ rfl ⟨XE, rfl⟩
  rw [results_cell_tmp rfl]
  have hl := run_loadVar_row (P := Try.prog) _ (w.heap.size + 2) _ 41 _ _ _ GE Try.underlying41 rfl (by kernel_rfl)
  simp [asAddr, hl, Result.andThen]
end Go.Proofs.Ytjdigpfipmckhaa
namespace Go.Proofs.Ytjdigpfipmckhaa
open Go Go.RowKit Go.Maps
def tuC (t : Tup) : List Value := [.string t.o.t, .string t.o.i, .string t.o.r, .string t.s.t, .string t.s.i, .string t.s.r]
def tuCs (l : List Tup) : List Value := l.flatMap tuC
theorem tuC_length (t : Tup) : (tuC t).length = 6 := rfl
theorem tuCs_length (l : List Tup) : (tuCs l).length = l.length * 6 := flat_length tuC_length l
theorem tuCs_append (a b : List Tup) : tuCs (a ++ b) = tuCs a ++ tuCs b := by unfold tuCs; rw [List.flatMap_append]
theorem tupT : ElemT Try.prog 31 55 6 96 := ElemT.mk' Try.underlying31 (show _ = some (some (.agg #[.string ByteArray.empty, .string ByteArray.empty, .string ByteArray.empty, .string ByteArray.empty, .string ByteArray.empty, .string ByteArray.empty]), 6, 96) by kernel_rfl) rfl (by decide)
theorem tups_rows {S : Nat → Prop} {w : World} {v : Value} {l : List Tup} (h : Sl S w 6 v (tuCs l)) :
    ∃ ao c, v = .slice ao l.length c ∧ l.length ≤ c ∧ c ≤ 9223372036854775807 ∧ ∀ i (hi : i < l.length), ∃ b off, ao = some ⟨b, off, none⟩ ∧ S b ∧ w.cell? ⟨b, off + i * 6, none⟩ = some (.string l[i].o.t) ∧ w.cell? ⟨b, off + i * 6 + 1, none⟩ = some (.string l[i].o.i) ∧ w.cell? ⟨b, off + i * 6 + 2, none⟩ = some (.string l[i].o.r) ∧
      w.cell? ⟨b, off + i * 6 + 3, none⟩ = some (.string l[i].s.t) ∧ w.cell? ⟨b, off + i * 6 + 4, none⟩ = some (.string l[i].s.i) ∧ w.cell? ⟨b, off + i * 6 + 5, none⟩ = some (.string l[i].s.r) := by
  obtain ⟨ao, c, rfl, h1, h2, hc⟩ := Sl.rows tuC_length (by decide) (show Sl S w 6 v (l.flatMap tuC) from h)
  refine ⟨ao, c, rfl, h1, h2, fun i hi => ?_⟩
  obtain ⟨b, off, rfl, hb, hc⟩ := hc (by omega)
  exact ⟨b, off, rfl, hb, hc i hi 0 _ rfl, hc i hi 1 _ rfl, hc i hi 2 _ rfl, hc i hi 3 _ rfl, hc i hi 4 _ rfl, hc i hi 5 _ rfl⟩
theorem tup_neq (a b : Tup) (W : World) : (binOp BinOp.neq 55 (tV a) (tV b)).run Try.prog W = .ok (.bool (decide (a ≠ b))) W := by
  obtain ⟨⟨a1, a2, a3⟩, ⟨a4, a5, a6⟩⟩ := a
  obtain ⟨⟨b1, b2, b3⟩, ⟨b4, b5, b6⟩⟩ := b
  unfold tV
  dsimp only
  go_simp
  simp only [ba_toList]
  by_cases h1 : a1 = b1
  · by_cases h2 : a2 = b2
    · by_cases h3 : a3 = b3
      · by_cases h4 : a4 = b4
        · by_cases h5 : a5 = b5
          · by_cases h6 : a6 = b6 <;> simp [h1, h2, h3, h4, h5, h6]
          · simp [h1, h2, h3, h4, h5]
        · simp [h1, h2, h3, h4]
      · simp [h1, h2, h3]
    · simp [h1, h2]
  · simp [h1]
end Go.Proofs.Ytjdigpfipmckhaa
namespace Go.Proofs.Ytjdigpfipmckhaa
open Go Go.RowKit Go.Maps
theorem p3_neq (a b : P3) (W : World) : (binOp BinOp.neq 36 (pV a) (pV b)).run Try.prog W = .ok (.bool (decide (a ≠ b))) W := by
  obtain ⟨a1, a2, a3⟩ := a
  obtain ⟨b1, b2, b3⟩ := b
  unfold pV
  dsimp only
  go_simp
  simp only [ba_toList]
  by_cases h1 : a1 = b1 <;> by_cases h2 : a2 = b2 <;> by_cases h3 : a3 = b3 <;> simp [h1, h2, h3]
theorem p3_eql (a b : P3) (W : World) : (binOp BinOp.eql 36 (pV a) (pV b)).run Try.prog W = .ok (.bool (decide (a = b))) W := by
  obtain ⟨a1, a2, a3⟩ := a
  obtain ⟨b1, b2, b3⟩ := b
  unfold pV
  dsimp only
  go_simp
  simp only [ba_toList]
  by_cases h1 : a1 = b1 <;> by_cases h2 : a2 = b2 <;> by_cases h3 : a3 = b3 <;> simp [h1, h2, h3]
end Go.Proofs.Ytjdigpfipmckhaa
namespace Go.Proofs.Ytjdigpfipmckhaa
open Go Go.RowKit Go.Maps
theorem FTAt.shape {S : Nat → Prop} {w : World} {r : FT} {v : FV3} (h : FTAt S w r v) : ∃ a1 c1 a2 c2 a4 c4, v = (.slice a1 r.subs.length c1, .slice a2 r.refs.length c2, .slice a4 r.ps.length c4) := by
  obtain ⟨v1, v2, v4⟩ := v
  obtain ⟨h1, h2, -⟩ := (FTAt.iff _ _).1 h
  obtain ⟨a1, c1, e1, -⟩ := Sl.rows pC_length (by decide) (show Sl S w 3 v1 (r.subs.flatMap pC) from h1)
  obtain ⟨a2, n2, c2, e2, hn, -, -⟩ := h2.len
  obtain ⟨a4, c4, e4, -⟩ := h.rows
  rw [ic_length, Nat.mul_one] at hn
  dsimp only at e1 e2 e4
  subst e1 e2 e4
  rw [← hn]
  exact ⟨_, _, _, _, _, _, rfl⟩
theorem Sl.int_at {S : Nat → Prop} {w : World} {a : Option Addr} {n c : Nat} {l : List Int} (h : Sl S w 1 (.slice a n c) (ic l)) {i : Nat} (hi : i < l.length) : ∃ b off, a = some ⟨b, off, none⟩ ∧ S b ∧ w.cell? ⟨b, off + i, none⟩ = some (.int .i64 l[i]) := by
  obtain ⟨a1, n1, c1, hv, -, -, -, -, hcell⟩ := h
  cases hv
  obtain ⟨b, off, rfl, hb, hcell⟩ := hcell (by intro h; have := congrArg List.length h; rw [ic_length, List.length_nil] at this; omega)
  exact ⟨b, off, rfl, hb, hcell i _ (by simp [ic, List.getElem?_eq_getElem hi])⟩
end Go.Proofs.Ytjdigpfipmckhaa
namespace Go.Proofs.Ytjdigpfipmckhaa
open Go Go.RowKit
attribute [local go_sem] Oper.semAt_some
theorem tu_len (l : List Tup) : (tuCs l).length = l.length * 6 := tuCs_length l
theorem tu_app (a : List Tup) (b : List Tup) : tuCs (a ++ b) = tuCs a ++ tuCs b := tuCs_append a b
theorem tu_sing (x : Tup) : tuCs [x] = tuC x := by simp [tuCs]
theorem cells_litT (w : World) (a b c d e f : Value) (t : TypeId) : ∀ j u, [a, b, c, d, e, f][j]? = some u → (w.alloc (.cells #[a, b, c, d, e, f] t)).cell? ((⟨w.heap.size, 0, none⟩ : Addr).add j) = some u := fun j u hu => by
  rw [Addr.add_lit, cell_of_row _ w.heap.size (0 + j) #[a, b, c, d, e, f] t (0, 0) (heap_alloc_new w _), Nat.zero_add]
  simpa using hu
set_option maxRecDepth 100000 in
set_option maxHeartbeats 2000000 in
theorem appT_in (F : Fence) (n : Nat) (h45 : F.fn 57) (hro : F.round = none) (hn : 2 ≤ n) (g : Nat) (lb : Array Value) (hFg : F.fn g) (eg : ∀ args w, (callFunc g args).run Try.prog w = .ok (.enter g args) w)
    (S Sp : List Tup → Prop) (N : Nat) (w : World) (hN : N ≤ 137438953472) (hseq : SeqStopsK F (n - 1) Try.prog g lb (fun x => #[tV x]) (Below w.heap.size) S Sp N w) :
    CallsIn F n Try.prog 57 #[.slice none 0 0, .func (.func g) #[] lb] w fun e w' => ∃ (v' : Value) (ss : List Tup), e = .returned v' ∧ S ss ∧ Own w' w.heap.size 55 6 v' (tuCs ss) ∧ Ext w w' := by
  have h1 : 1 ≤ n := by omega
  refine callsIn_of_wp_marks Try.func57 rfl h45 ?_ hro
  simp only [Try.ntmps57, List.size_toArray, List.length_cons, List.length_nil, Nat.reduceAdd, Nat.reduceSub, Array.replicate_succ, Array.replicate_zero, List.push_toArray, List.append_toArray, List.nil_append, List.cons_append]
  gi_wp2
  have bS := Boxed.new w 31 (.slice none 0 0)
  have hw0 : Below w.heap.size w (w.alloc (.cells #[.slice none 0 0] 31)) := (Below.refl _ w).alloc (Nat.le_refl _) _
  have hsz : (w.alloc (.cells #[.slice none 0 0] 31)).heap.size = w.heap.size + 1 := by simp
  have hk0 : KeepsFrom 0 w (w.alloc (.cells #[.slice none 0 0] 31)) := (KeepsOthers.alloc _ _).from _
  obtain ⟨W0, hW0⟩ : ∃ W0, w.alloc (.cells #[.slice none 0 0] 31) = W0 := ⟨_, rfl⟩
  rw [hW0] at bS hw0 hsz hk0 ⊢
  clear hW0
  refine wpIn_rangeFunc_ownH hro h1 (gf := g) (lb := lb) rfl hFg eg hseq belowK_t (belowK_b (n₀ := w.heap.size) (by omega)) hw0 (fun _ => rfl)
    (fun pre W => (∃ v', Boxed W w.heap.size 31 v' ∧ Own W w.heap.size 55 6 v' (tuCs pre) ∧ (∀ g, v'.ownBlock = some g → (Value.slice none 0 0).ownBlock = some g ∨ w.heap.size ≤ g)) ∧ (Kept (fun b => b < w.heap.size ∧ (Value.slice none 0 0).ownBlock ≠ some b) w W ∧ KeepsFrom 0 w W))
    (fun _ _ _ => False)
    (OwnFrom.and (own_ownFrom w.heap.size w.heap.size 31 55 6 (fun pre => tuCs pre) (fun v' => ∀ g, v'.ownBlock = some g → (Value.slice none 0 0).ownBlock = some g ∨ w.heap.size ≤ g) _) (OwnFrom.and (ownFrom_kept (fun b hb => hb.1) (by omega)) (ownFrom_keepsFrom (by omega))))
    (fun _ _ _ _ _ hs _ _ => hs)
    ⟨⟨_, bS, Own.nil _ _ _ _, fun g hg => .inl hg⟩, Below.kept hw0 (fun b hb => hb.1), hk0⟩
    (fun x a' W => ∃ Bx, w.heap.size < Bx ∧ Blk W Bx #[.string x.o.t, .string x.o.i, .string x.o.r, .string x.s.t, .string x.s.i, .string x.s.r] 55 ∧ a' = { tmps := #[.slice none 0 0, .func (.func g) #[] lb, .pointer (some ⟨w.heap.size, 0, none⟩), undef, .slice none 0 0, .pointer (some ⟨Bx, 0, none⟩), .func (.func g) #[] lb, tV x, undef, undef, undef, undef, undef], defers := [] })
    (fun x a' _ X Y row hs hg hr => by obtain ⟨Bx, h1, h2, h3⟩ := hs; exact ⟨Bx, h1, boxed3_kept h2 hg (fun r e => (hr r e).2), h3⟩)
    ?assign ?body ?done ?stop
  case assign =>
    rintro l2 pre ⟨⟨xa, xb, xc⟩, ⟨xd, xe, xf⟩⟩ W K ⟨⟨v', bS1, hO1, hG1⟩, hB1, hK1⟩ hK
    dsimp only [tV]
    gi_wp2
    refine hK _ _ ((KeepsOthers.alloc _ _).from _) ((Below.refl _ _).alloc hB1.size _) ⟨⟨v', bS1.alloc _, hO1.below ((Below.refl _ _).alloc (Nat.le_refl _) _), hG1⟩, hB1.alloc (fun b hb => Nat.lt_of_lt_of_le hb.1 hB1.size) _, hK1.trans ((KeepsOthers.alloc _ _).from _)⟩ ⟨W.heap.size, bS1.lt, Blk.made W _ _, rfl⟩
  case body =>
    rintro l2 pre ⟨⟨xa, xb, xc⟩, ⟨xd, xe, xf⟩⟩ a' W hl ⟨r, hr⟩ ⟨⟨v', bS1, hO1, hG1⟩, hB1, hK1⟩ ⟨Bx, hBx, bX, rfl⟩ hlt
    have cS := bS1.cell
    have cX := bX.cells
    have hwl := hB1.size
    have hpl : (tuCs pre).length = pre.length * 6 := tu_len pre
    have hbb : (pre.length * 6 + 6) * 96 ≤ 140737488355328 := by omega
    gi_wp2_with (first
      | (gi_at_builtin; go_loud (
         refine wpListIn_own tupT rfl _ _ rfl rfl (hO1.below ((Below.refl _ _).alloc (Nat.le_refl _) _)) (ad := ⟨W.heap.size, 0, none⟩) (m := 1) (c := 1) (news := [.string xa, .string xb, .string xc, .string xd, .string xe, .string xf]) rfl rfl (cells_litT _ _ _ _ _ _ _ _) (by intro u hu; simp only [List.mem_cons, List.not_mem_nil, or_false] at hu; rcases hu with rfl | rfl | rfl | rfl | rfl | rfl <;> rfl) (by simp only [List.length_cons, List.length_nil]; omega) (by simp only [List.length_cons, List.length_nil]; rw [hpl]; exact hbb) (by simp; omega) ?_
         intro v2 w2 hO2 hG2 hg2
         obtain ⟨g2, n2, c2, rfl⟩ : ∃ g2 n2 c2, v2 = .slice (some ⟨g2, 0, none⟩) n2 c2 := by
           rcases hO2.shape with ⟨_, h⟩ | h
           · exact absurd h (by simp)
           · exact h
         have bS2 := (bS1.alloc (.cells #[.string xa, .string xb, .string xc, .string xd, .string xe, .string xf] 55)).kept hg2 (boxed_notOwn (bS1.alloc _) (by decide) (hO1.below ((Below.refl _ _).alloc (Nat.le_refl _) (.cells #[.string xa, .string xb, .string xc, .string xd, .string xe, .string xf] 55))))
         have cS2 := bS2.cell
         have fS2 := bS2.frozen))
      | gi_in)
    have hKa : KeepsFrom 0 W (W.alloc (.cells #[.string xa, .string xb, .string xc, .string xd, .string xe, .string xf] 55)) := (KeepsOthers.alloc _ _).from _
    have hKb := hKa.trans (keeps_own (hO1.below ((Below.refl _ _).alloc (Nat.le_refl _) (.cells #[.string xa, .string xb, .string xc, .string xd, .string xe, .string xf] 55))) hg2 0)
    have hKc : KeepsFrom 0 W (w2.setCell ⟨w.heap.size, 0, none⟩ (.slice (some ⟨g2, 0, none⟩) n2 c2)) := hKb.trans ((KeepsOthers.setCell _ _ _).from _)
    have hlow : Below w.heap.size W (w2.setCell ⟨w.heap.size, 0, none⟩ (.slice (some ⟨g2, 0, none⟩) n2 c2)) := (((Below.refl _ W).alloc hwl _).grown hg2 (by simp; omega) (fun g hg => by
      rcases hG1 g hg with h | h
      · cases h
      · exact h)).setCell (Nat.le_refl _) _
    refine ⟨keeps_up hKc _, hlow, ⟨⟨_, bS2.set _, ?_, fun g hg => ?_⟩, ?_, hK1.trans hKc⟩⟩
    · have := hO2.keepOwn (w' := w2.setCell ⟨w.heap.size, 0, none⟩ (.slice (some ⟨g2, 0, none⟩) n2 c2)) (fun g hg => Below.heap_setCell _ _ _ g (fun e => boxed_notOwn bS2 (by decide) hO2 (by rw [hg, e])))
      rw [tu_app pre, tu_sing]
      exact this
    · rcases hG2 g hg with h | h
      · exact hG1 g h
      · exact .inr (by have := hB1.size; simp at h; omega)
    · have hk2 : Kept (fun b => b < w.heap.size ∧ (Value.slice none 0 0).ownBlock ≠ some b) (W.alloc (.cells #[.string xa, .string xb, .string xc, .string xd, .string xe, .string xf] 55)) w2 := ⟨hg2.os, hg2.tape, hg2.output, hg2.size, fun b hb => hg2.block b (by have := hB1.size; have := hb.1; simp; omega) (fun e => by
        rcases hG1 b e.symm with h | h
        · exact hb.2 h
        · have := hb.1; omega)⟩
      exact ((hB1.alloc (fun b hb => Nat.lt_of_lt_of_le hb.1 hB1.size) _).trans hk2).set (a := ⟨w.heap.size, 0, none⟩) (fun h => Nat.lt_irrefl _ h.1) _
  case done =>
    rintro D ys W hD hS ⟨⟨v', bS1, hO1, _⟩, hB1, hK1⟩ hK
    have cS := bS1.cell
    obtain ⟨ao', k', c', rfl⟩ : ∃ ao k c, v' = .slice ao k c := by
      rcases hO1.shape with ⟨rfl, _⟩ | ⟨g, n, c, rfl⟩
      · exact ⟨_, _, _, rfl⟩
      · exact ⟨_, _, _, rfl⟩
    gi_wp2
    refine ⟨by simp, .inl ⟨_, _, rfl, run_takeDeferred hK, ?_⟩⟩
    refine ⟨_, results_tmp rfl _ _ _, _, ys, rfl, hS, hO1.put _ hK rfl, ⟨hB1.os, hB1.tape, hB1.output, by have := hB1.size; simpa using this, fun b hb => (World.putObj_heap_other (fun e => by omega)).trans (hB1.block b ⟨hb, fun e => by cases e⟩)⟩⟩
  case stop =>
    rintro D c pre W _ _ h _
    exact h.elim
end Go.Proofs.Ytjdigpfipmckhaa
namespace Go.Proofs.Ytjdigpfipmckhaa
open Go Go.RowKit
attribute [local go_sem] Oper.semAt_some
theorem grown_alloc (w : World) (o : Obj) : w.grownBy (w.alloc o) none := ⟨rfl, rfl, rfl, by simp, fun b hb _ => Below.heap_alloc w o b hb⟩
set_option maxRecDepth 100000 in
set_option maxHeartbeats 2000000 in
theorem valsT_in (F : Fence) (n : Nat) (hf : F.fn 43) (hro : F.round = none) (hn : 1 ≤ n) (l Bs n₀ B0 : Nat) (ao : Option Addr) (cap : Nat) (zs : List Tup) (hl : zs.length ≤ 1099511627776) (J Jx : List Tup → World → Prop) (hA : AbidesFrom B0 J)
    (hY : ∀ pre x W, J pre W → pre.length < zs.length → YieldAt F (n - 1) Try.prog l #[tV x] W fun e W' =>
      (e = .returned (.bool true) ∧ J (pre ++ [x]) W' ∧ Below n₀ W W') ∨ (e = .returned (.bool false) ∧ Jx (pre ++ [x]) W'))
    (W : World) (hn0 : n₀ ≤ W.heap.size) (hBs : W.cell? ⟨Bs, 0, none⟩ = some (.slice ao zs.length cap)) (hc : Sl (· < n₀) W 6 (.slice ao zs.length cap) (zs.flatMap tuC)) (h0 : J [] W) :
    CallsIn F n Try.prog 43 #[.func (.yield l) #[] #[], .pointer (some ⟨Bs, 0, none⟩)] W fun e W' => (∃ v, e = .returned v) ∧
      ((∃ ys, ys = zs ∧ J ys W') ∨ (∃ pre, pre <+: zs ∧ Jx pre W')) := by
  refine callsIn_of_wp Try.func43 rfl hf ?_ hro
  simp only [Try.ntmps43, List.size_toArray, List.length_cons, List.length_nil, Nat.reduceAdd, Nat.reduceSub, Array.replicate_succ, Array.replicate_zero, List.push_toArray, List.append_toArray, List.nil_append, List.cons_append]
  gi_wp2
  gi_loopw [7] (fun i wr => ∃ k : Nat, k ≤ zs.length ∧ i = .int .i64 k ∧ J (zs.take k) wr ∧ Below n₀ W wr)
    (fun i _ => zs.length - (intOf i).toNat)
  case atStart => exact ⟨0, Nat.zero_le _, rfl, h0, Below.refl _ _⟩
  case round =>
    obtain ⟨k, hk, rfl, hJs, hnx⟩ := hrel
    by_cases hlt : k < zs.length
    · obtain ⟨ao', c', he', -, -, hcell⟩ := Sl.rows tuC_length (by decide) (hc.same (w' := wr) fun x hx => hnx.block x hx)
      cases he'
      obtain ⟨bq, oq, rfl, -, hcell⟩ := hcell (by omega)
      have hck := hcell k hlt
      have hts := List.take_succ_eq_append_getElem hlt
      have hpl : (zs.take k).length < zs.length := by rw [List.length_take]; omega
      have hpre : zs.take (k + 1) <+: zs := List.take_prefix _ _
      generalize zs[k] = x at *
      obtain ⟨⟨xa, xb, xc⟩, ⟨xd, xe, xf⟩⟩ := x
      have c0 : wr.cell? ⟨bq, oq + k * 6, none⟩ = some (.string xa) := hck 0 _ rfl
      have c1 : wr.cell? ⟨bq, oq + k * 6 + 1, none⟩ = some (.string xb) := hck 1 _ rfl
      have c2 : wr.cell? ⟨bq, oq + k * 6 + 2, none⟩ = some (.string xc) := hck 2 _ rfl
      have c3 : wr.cell? ⟨bq, oq + k * 6 + 3, none⟩ = some (.string xd) := hck 3 _ rfl
      have c4 : wr.cell? ⟨bq, oq + k * 6 + 4, none⟩ = some (.string xe) := hck 4 _ rfl
      have c5 : wr.cell? ⟨bq, oq + k * 6 + 5, none⟩ = some (.string xf) := hck 5 _ rfl
      have hJ1 := hA _ _ _ none hJs (grown_alloc wr (.cells #[.string xa, .string xb, .string xc, .string xd, .string xe, .string xf] 55)) (fun r e => by cases e)
      have hb1 : Below n₀ wr (wr.alloc (.cells #[.string xa, .string xb, .string xc, .string xd, .string xe, .string xf] 55)) := (Below.refl _ _).alloc (Nat.le_trans hn0 hnx.size) _
      obtain ⟨fn, tmps, assign, body, hy, hR⟩ := hY _ ⟨⟨xa, xb, xc⟩, ⟨xd, xe, xf⟩⟩ _ hJ1 hpl
      try unfold tV at hy
      try dsimp only at hy
      clear hck hcell
      gi_wp2
      refine hR.mono ?_
      rintro e W3 (⟨rfl, hJ3, hk3⟩ | ⟨rfl, hJx3⟩)
      · gi_wp2
        go_roundw
        case rel => exact ⟨k + 1, by omega, by go_num, by rw [hts]; exact hJ3, hnx.trans (hb1.trans hk3)⟩
        case measure => simp [intOf]; omega
      · gi_wp2
        refine bodyPost_ret (results_none rfl _ _ _) rfl ?_
        exact ⟨⟨_, rfl⟩, .inr ⟨_, hpre, by rw [hts]; exact hJx3⟩⟩
    · obtain rfl : k = zs.length := by omega
      gi_wp2
      go_end0
      exact ⟨⟨_, rfl⟩, .inl ⟨_, List.take_length, hJs⟩⟩
theorem valsT_seq (F : Fence) (n : Nat) (hf : F.fn 43) (hro : F.round = none) (hn : 1 ≤ n) (Bs : Nat) (ao : Option Addr) (cap : Nat) (zs : List Tup) (hl : zs.length ≤ 1099511627776) (w : World) (hBs : Bs < w.heap.size)
    (hc : w.cell? ⟨Bs, 0, none⟩ = some (.slice ao zs.length cap)) (hS : Sl (· < w.heap.size) w 6 (.slice ao zs.length cap) (zs.flatMap tuC)) :
    SeqStopsK F n Try.prog 43 #[.pointer (some ⟨Bs, 0, none⟩)] (fun x : Tup => #[tV x]) (Below w.heap.size) (fun ys => ys = zs) (fun pre => pre <+: zs) zs.length w := fun l J Jx W hW hA _ hY h0 =>
  (valsT_in F n hf hro hn l Bs w.heap.size W.heap.size ao cap zs hl J Jx hA hY W hW.size ((hW.cell (p := ⟨Bs, 0, none⟩) hBs).trans hc) (hS.same fun x hx => hW.block x hx) h0).mono fun _ _ h => h
set_option maxRecDepth 100000 in
set_option maxHeartbeats 800000 in
theorem valuesT_any (ao : Option Addr) (k cap : Nat) (w : World) : Calls Try.prog 24 #[.slice ao k cap] w fun e w' => e = .returned (.func (.func 43) #[] #[.pointer (some ⟨w.heap.size, 0, none⟩)]) ∧ w' = w.alloc (.cells #[.slice ao k cap] 31) := by
  go_enter Try.func24, Try.ntmps24
  go_wp2
  go_ret
  exact ⟨rfl, rfl⟩
set_option maxRecDepth 100000 in
set_option maxHeartbeats 800000 in
theorem collectT_any (w : World) (Bs : Nat) (ao : Option Addr) (cap : Nat) (zs : List Tup) (hl : zs.length ≤ 137438953472) (hBs : Bs < w.heap.size) (hc : w.cell? ⟨Bs, 0, none⟩ = some (.slice ao zs.length cap)) (hS : Sl (· < w.heap.size) w 6 (.slice ao zs.length cap) (zs.flatMap tuC)) :
    Calls Try.prog 41 #[.func (.func 43) #[] #[.pointer (some ⟨Bs, 0, none⟩)]] w fun e w' => ∃ v', e = .returned v' ∧ Own w' w.heap.size 55 6 v' (tuCs zs) ∧ Ext w w' := by
  have HP := Lib.hid (callsIn_wide.1 (appT_in Fence.wide 3 trivial rfl (by omega) 43 _ trivial (enters_of Try.func43 (by kernel_rfl) rfl) _ _ zs.length w hl (valsT_seq Fence.wide 2 trivial rfl (by omega) Bs ao cap zs (by omega) w hBs hc hS)))
  clear hS hc
  go_enter Try.func41, Try.ntmps41
  go_wp2_with fail
  refine HP.out.mono ?_
  rintro e w1 ⟨v, ss, rfl, rfl, ho, hx⟩
  go_wp2
  go_ret
  exact ⟨v, rfl, ho, hx⟩
end Go.Proofs.Ytjdigpfipmckhaa
