/- Lemmas for the claim, no condition. -/
import Derived.Shelf.SlSortCmp.WholeK
import Derived.Shelf.SlSortCmp.NoneTotal
import Derived.Ground.SlsfProg
import Derived.Test.YtjdigpfipmckhaaProg
import Derived.ProofKit
import Derived.OpenShut
import Derived.Test.YtjdigpfipmckhaaYRcMost15
import Derived.Test.YtjdigpfipmckhaaYRcMost4
import Derived.Test.YtjdigpfipmckhaaYRcMost6
import Derived.Test.YtjdigpfipmckhaaYRcMost0
import Derived.Test.YtjdigpfipmckhaaYRcMost2
import Derived.Test.YtjdigpfipmckhaaYRcMost10
import Derived.Test.YtjdigpfipmckhaaYRcMost5
namespace Go.Proofs.Ytjdigpfipmckhaa
open Go Go.RowKit Go.Maps
set_option maxRecDepth 100000 in
set_option maxHeartbeats 4000000 in
theorem findS_any {S : Nat → Prop} (ts : List TyS) (tv : Value) (ty rel : ByteArray) (w : World) (hS : ∀ x, S x → x < w.heap.size) (h : TysAt S w ts tv) (hok : ∀ t ∈ ts, t.Ok) (hu : uniqOk ts = true) (hsz : (refsOf ts).length ≤ 1099511627776) (hty : ty.size ≤ maxLen) (hrel : rel.size ≤ maxLen) :
    Calls Try.prog 21 #[.agg #[tv], .string ty, .string rel] w fun e w' => ∃ z : RV, e = .returned (.tuple #[rvV z, .bool (lookA (refsOf ts) ⟨ty, rel⟩).isSome]) ∧ RTAt S w' z.1 z.2 ∧ (∀ r, lookA (refsOf ts) ⟨ty, rel⟩ = some r → z.1 = r) ∧ (lookA (refsOf ts) ⟨ty, rel⟩ = none → z = (.mk 0 ByteArray.empty ByteArray.empty [], .slice none 0 0)) ∧ Below w.heap.size w w' := by
  have hx1 : Ext w ((w.alloc (.cells #[tv] 29)).alloc (.cells #[.int .i64 0, .string ByteArray.empty, .string ByteArray.empty, .slice none 0 0] 66)) := (Ext.alloc _ _).trans (Ext.alloc _ _)
  have HX := Lib.hid hx1
  have HO := Lib.hid (open_any (S := S) ts tv _ (fun x hx => Nat.lt_of_lt_of_le (hS x hx) hx1.size) (h.same ((Same.below hx1).mono hS)) hok hu hsz)
  have HSS := Lib.hid hS
  have hS0 := ((Blk.made w #[tv] 29).alloc (.cells #[.int .i64 0, .string ByteArray.empty, .string ByteArray.empty, .slice none 0 0] 66)).cells
  have HR := Lib.hid (Blk.made' (w := w.alloc (.cells #[tv] 29)) (B := w.heap.size + 1) (by simp) #[.int .i64 0, .string ByteArray.empty, .string ByteArray.empty, .slice none 0 0] 66)
  have hR := HR.out.cells
  clear h hok hu hsz hx1 hS
  go_enter Try.func21, Try.ntmps21
  go_wp2_with fail
  refine HO.out.mono ?_
  rintro e w2 ⟨b1, b2, b3, rfl, hbk, hb2⟩
  obtain ⟨z, hlk, hzat, hz1, hz2⟩ := hbk.R.look ⟨ty, rel⟩ ⟨hty, hrel⟩
  obtain ⟨zo, zc, hzv, -⟩ := hzat.rows
  have HZ := Lib.hid (And.intro hz1 hz2)
  have HZA := Lib.hid hzat
  have HZV := Lib.hid hzv
  have HB2 := Lib.hid (Ext.trans HX.out hb2)
  have HR2 := Lib.hid (HR.out.below hb2)
  have HRZ := Lib.hid (show w.heap.size + 1 < w2.heap.size from HR2.out.lt)
  generalize hokk : (lookA (refsOf ts) ⟨ty, rel⟩).isSome = ok at *
  have HOKK := Lib.hid hokk
  clear hokk
  unfold rvV rV r2V at hlk
  dsimp only at hlk
  rw [hzv] at hlk
  have h3 : Ext w2 (w2.alloc (.cells #[.int .i64 z.1.k, .string z.1.a, .string z.1.b, .slice zo z.1.ps.length zc] 66)) := Ext.alloc _ _
  have HR3 := Lib.hid (HR2.out.below h3)
  have HX3 := Lib.hid h3
  have r3 := HR3.out.cells
  have f3 := HR3.out.free
  have hfd : ∀ W : World, (Instr.field 111 (.agg #[.map (some b1), .map (some b2), .map (some b3)]) 0).run Try.prog W = .ok (.map (some b1)) W := fun _ => by kernel_rfl
  obtain ⟨w3, hw3⟩ : ∃ x, x = w2.alloc (.cells #[.int .i64 z.1.k, .string z.1.a, .string z.1.b, .slice zo z.1.ps.length zc] 66) := ⟨_, rfl⟩
  have hne : w.heap.size + 1 ≠ w2.heap.size := by have := HRZ.out; omega
  have hs1 := HR3.out.set_to 0 (.int .i64 z.1.k) rfl
  have hs2 := hs1.set_to 1 (.string z.1.a) rfl
  have hs3 := hs2.set_to 2 (.string z.1.b) rfl
  have hs4 := hs3.set_to 3 (.slice zo z.1.ps.length zc) rfl
  have HS4 := Lib.hid hs4
  have hb4 : ∀ x, x ≠ w.heap.size + 1 → (((((w2.alloc (.cells #[.int .i64 z.1.k, .string z.1.a, .string z.1.b, .slice zo z.1.ps.length zc] 66)).setCell ⟨w.heap.size + 1, 0, none⟩ (.int .i64 z.1.k)).setCell ⟨w.heap.size + 1, 1, none⟩ (.string z.1.a)).setCell ⟨w.heap.size + 1, 2, none⟩ (.string z.1.b)).setCell ⟨w.heap.size + 1, 3, none⟩ (.slice zo z.1.ps.length zc)).heap[x]? = (w2.alloc (.cells #[.int .i64 z.1.k, .string z.1.a, .string z.1.b, .slice zo z.1.ps.length zc] 66)).heap[x]? := fun x hx => by
    rw [Below.heap_setCell _ _ _ x hx, Below.heap_setCell _ _ _ x hx, Below.heap_setCell _ _ _ x hx, Below.heap_setCell _ _ _ x hx]
  have HB4 := Lib.hid hb4
  have HBE := Lib.hid (show Below w.heap.size w (((((w2.alloc (.cells #[.int .i64 z.1.k, .string z.1.a, .string z.1.b, .slice zo z.1.ps.length zc] 66)).setCell ⟨w.heap.size + 1, 0, none⟩ (.int .i64 z.1.k)).setCell ⟨w.heap.size + 1, 1, none⟩ (.string z.1.a)).setCell ⟨w.heap.size + 1, 2, none⟩ (.string z.1.b)).setCell ⟨w.heap.size + 1, 3, none⟩ (.slice zo z.1.ps.length zc)) from ((((Ext.trans HB2.out HX3.out : Ext w _).setCell (by show w.heap.size ≤ w.heap.size + 1; omega) _).setCell (by show w.heap.size ≤ w.heap.size + 1; omega) _).setCell (by show w.heap.size ≤ w.heap.size + 1; omega) _).setCell (by show w.heap.size ≤ w.heap.size + 1; omega) _)
  clear HO hS0 hR hbk hb2 hz1 hz2 hzat hzv h3 hs1 hs2 hs3 hs4 hb4 hw3
  go_wp2_with fail
  refine bodyPost_ret (v := .tuple #[.agg #[.int .i64 z.1.k, .string z.1.a, .string z.1.b, .slice zo z.1.ps.length zc], .bool ok]) ?_ rfl ⟨z, ?_, ?_, HZ.out.1, HZ.out.2, HBE.out⟩
  · rw [results_cell_tmp rfl]
    have hl := run_loadVar_row (P := Try.prog) _ (w.heap.size + 1) _ 66 _ _ _ HS4.out Try.underlying66 rfl (by kernel_rfl)
    simp [asAddr, hl, Result.andThen]
  · unfold rvV rV
    rw [HZV.out, HOKK.out]
  · exact (HZA.out.same fun x hx => HX3.out.block x (Nat.lt_of_lt_of_le (HSS.out x hx) HB2.out.size)).same fun x hx => HB4.out x (by have := HSS.out x hx; omega)
end Go.Proofs.Ytjdigpfipmckhaa
namespace Go.Proofs.Ytjdigpfipmckhaa
open Go Go.RowKit
section
variable {P : Program} {ops : Array Oper} {Q : Exit → Act → World → Prop} {S : World → Prop} {late : Nat → Bool}
def wpAnyS (P : Program) (ops : Array Oper) (Q : Exit → Act → World → Prop) (S : World → Prop) (late : Nat → Bool) : Nat → Array Bool → Act → World → Prop
  | 0, l, a, w => Region.ready .any ops l = [] ∧ Q .normal a w
  | f + 1, l, a, w => (Region.ready .any ops l = [] → Q .normal a w) ∧
      ∀ i ∈ Region.ready .any ops l, wpOp P ops Q i (fun a' w' => (late i = false → S w') ∧ wpAnyS P ops Q S late f (l.setIfInBounds i true) a' w') a w
theorem wpAnyS_any : ∀ (f : Nat) (l : Array Bool) (a : Act) (w : World), wpAnyS P ops Q S late f l a w → wpAny P .any ops Q f l a w
  | 0, _, _, _, h => h
  | f + 1, _, _, _, h => ⟨h.1, fun i hi => wpOp_mono (fun a' w' k => wpAnyS_any f _ a' w' k.2) (h.2 i hi)⟩
def early (ops : Array Oper) (late : Nat → Bool) (i : Nat) : Bool := (List.range ops.size).all fun j => !late j || ahead ops ops.size i j
theorem wpAnyS_take {i : Nat} {oi : Oper} {v : Value} (hi : ops[i]? = some oi) (hsel : Region.noSelect ops = true)
    (hQ : ∀ c a w, Q (.panic c) (Act.put a oi.dst v) w → Q (.panic c) a w) (hL : early ops late i = true) :
    ∀ (f : Nat) (l : Array Bool) (a : Act) (w : World), Closed ops l →
      (∀ j oj, ops[j]? = some oj → j ≠ i → l.getD j true = false → (∀ e ∈ oj.after, Region.binds .any e = true → e.on ≠ i) → oi.apart ops oj = true) →
      i ∈ Region.ready .any ops l → YieldsIf P ops S oi v a → S w → wpAnyS P ops Q S late f (l.setIfInBounds i true) (a.put oi.dst v) w → wpAnyS P ops Q S late (f + 1) l a w := by
  intro f
  induction f with
  | zero =>
    intro l a w _ _ hr hy hS H
    refine ⟨fun h => (by rw [h] at hr; cases hr), fun j hj => ?_⟩
    by_cases hji : j = i
    · subst hji
      exact hy.wpOp hi hS ⟨fun _ => hS, H⟩
    · have := ready_mono hj hji
      rw [H.1] at this
      cases this
  | succ f ih =>
    intro l a w hc hfree hr hy hS H
    refine ⟨fun h => (by rw [h] at hr; cases hr), fun j hj => ?_⟩
    by_cases hji : j = i
    · subst hji
      exact hy.wpOp hi hS ⟨fun _ => hS, H⟩
    · obtain ⟨hjun, oj, hoj, hall⟩ := mem_ready.1 hj
      have hiun := (mem_ready.1 hr).1
      have hjL : late j = false := by
        cases hlj : late j with
        | false => rfl
        | true =>
          have hjs : j < ops.size := (Array.getElem?_eq_some_iff.1 hoj).1
          have ha := List.all_eq_true.1 hL j (List.mem_range.2 hjs)
          rw [hlj] at ha
          simp only [Bool.not_true, Bool.false_or] at ha
          exact (unlisted hiun (ahead_listed hc ops.size i j ha fun o ho e he hb => by rw [hoj] at ho; cases ho; exact hall e he hb)).elim
      have hnot : ∀ e ∈ oj.after, Region.binds .any e = true → e.on ≠ i := fun e he hb heq => unlisted hiun (heq ▸ hall e he hb)
      have h2 := wpOp_putIf hoj (hfree j oj hoj hji hjun hnot) (fun cs b => Region.noSelect_spec hsel i oi cs b hi) (fun cs b => Region.noSelect_spec hsel j oj cs b hoj) hQ hy (H.2 j (ready_mono hj hji))
      refine wpOp_mono (fun a' w' k => ⟨k.2.1, ih (l.setIfInBounds j true) a' w' (hc.set hj) (fun m om hom hmi hun hno => ?_) (ready_mono hr (Ne.symm hji)) k.1 (k.2.1 hjL) ?_⟩) h2
      · refine hfree m om hom hmi ?_ hno
        by_cases hjm : j = m
        · exact hjm ▸ hjun
        · rwa [getD_set_ne true hjm] at hun
      · rw [Array.setIfInBounds_comm _ _ hji]
        exact k.2.2
def allLate (ops : Array Oper) (late : Nat → Bool) (l : Array Bool) : Bool := (List.range ops.size).all fun j => l.getD j false || late j
theorem late_ready {l : Array Bool} (h : allLate ops late l = true) {i : Nat} (hi : i ∈ Region.ready .any ops l) : late i = true := by
  obtain ⟨hun, o, ho, _⟩ := mem_ready.1 hi
  have h1 := List.all_eq_true.1 h i (List.mem_range.2 (Array.getElem?_eq_some_iff.1 ho).1)
  rcases Bool.or_eq_true_iff.1 h1 with h2 | h2
  · exact (unlisted hun h2).elim
  · exact h2
theorem late_set {l : Array Bool} (h : allLate ops late l = true) (i : Nat) : allLate ops late (l.setIfInBounds i true) = true := by
  refine List.all_eq_true.2 fun j hj => ?_
  rcases Bool.or_eq_true_iff.1 (List.all_eq_true.1 h j hj) with h2 | h2
  · exact Bool.or_eq_true_iff.2 (.inl (getD_set_true h2))
  · exact Bool.or_eq_true_iff.2 (.inr h2)
theorem wpAnyS_late : ∀ (f : Nat) (l : Array Bool) (a : Act) (w : World), allLate ops late l = true → wpAny P .any ops Q f l a w → wpAnyS P ops Q S late f l a w
  | 0, _, _, _, _, h => h
  | f + 1, l, a, w, hl, h => ⟨h.1, fun i hi => wpOp_mono (fun a' w' k => ⟨fun e => (by rw [late_ready hl hi] at e; cases e), wpAnyS_late f _ a' w' (late_set hl i) k⟩) (h.2 i hi)⟩
def WalkS (P : Program) (ops : Array Oper) (Q : Exit → Act → World → Prop) (S : World → Prop) (late : Nat → Bool) : Nat → Array Bool → Act → World → Prop
  | 0, l, a, w => Region.ready .any ops l = [] ∧ Q .normal a w
  | f + 1, l, a, w => (allLate ops late l = true ∧ WalkN P ops Q (fun _ => True) (f + 1) l a w) ∨
      (∃ i o v, ops[i]? = some o ∧ Region.free .any ops l i = true ∧ (Region.ready .any ops l).contains i = true ∧ early ops late i = true ∧ YieldsIf P ops S o v a ∧ WalkS P ops Q S late f (l.setIfInBounds i true) (a.put o.dst v) w) ∨
      (Region.ready .any ops l ≠ [] ∧ ∀ i ∈ Region.ready .any ops l, ∃ o, ops[i]? = some o ∧ ∀ K' : Act → World → Prop, Shut (∀ a' w', S w' → WalkS P ops Q S late f (l.setIfInBounds i true) a' w' → K' a' w') →
        if Region.wanted o (yielded ops a.tmps) = true then Oper.wp P o a w K' Q else K' (a.put o.dst undef) w)
theorem walkS_sound (hns : Region.noSelect ops = true) (hQ : ∀ c a d v w, Q (.panic c) (Act.put a d v) w → Q (.panic c) a w) :
    ∀ (f : Nat) (l : Array Bool) (a : Act) (w : World), Closed ops l → S w → WalkS P ops Q S late f l a w → wpAnyS P ops Q S late f l a w
  | 0, _, _, _, _, _, h => h
  | f + 1, l, a, w, hc, hs, h => by
    rcases h with ⟨hl, h⟩ | ⟨i, o, v, ho, hf, hr, hL, hy, h⟩ | ⟨hne, h⟩
    · exact wpAnyS_late _ l a w hl (wpAny_of_held _ _ _ _ (walkN_sound hns hQ _ l a w trivial h))
    · exact wpAnyS_take ho hns (fun c a w => hQ c a _ _ w) hL f l a w hc (Region.free_spec ho hf) (by simpa using hr) hy hs (walkS_sound hns hQ f _ _ w (hc.set (by simpa using hr)) hs h)
    · refine ⟨fun e => absurd e hne, fun i hi => ?_⟩
      obtain ⟨o, ho, hst⟩ := h i hi
      exact wpOp_step ho (fun K' hK => hst K' (fun a' w' he hw => hK a' w' ⟨fun _ => he, walkS_sound hns hQ f _ a' w' (hc.set hi) he hw⟩))
theorem region_walkS {id : Nat} {a : Act} {w : World} (late : Nat → Bool) (S : World → Prop) (hS : S w.drew) (hm : P.follows .mixedOrders = true) (hns : Region.noSelect ops = true) (hQ : ∀ c a d v w, Q (.panic c) (Act.put a d v) w → Q (.panic c) a w)
    (h : WalkS P ops Q S late ops.size (Array.replicate ops.size false) a w.drew) : (Code.region id ops true).wp P Q a w :=
  wp_region_any hm (wpAnyS_any _ _ _ _ (walkS_sound hns hQ _ _ a w.drew (Closed.start _ _) hS h))
theorem WalkS.take {f : Nat} {l : Array Bool} {a : Act} {w : World} (i : Nat) (o : Oper) (v : Value) (ho : ops[i]? = some o) (hf : Region.free .any ops l i = true) (hr : (Region.ready .any ops l).contains i = true) (hL : early ops late i = true)
    (hw : Region.wanted o (yielded ops a.tmps) = true) (hy : ∀ W, S W → (execOp a.eval o).run P W = .ok (.value v) W) (h : WalkS P ops Q S late f (l.setIfInBounds i true) (a.put o.dst v) w) : WalkS P ops Q S late (f + 1) l a w :=
  .inr (.inl ⟨i, o, v, ho, hf, hr, hL, .inl ⟨hw, hy⟩, h⟩)
def TkS (P : Program) (ops : Array Oper) (Q : Exit → Act → World → Prop) (S : World → Prop) (late : Nat → Bool) : List Nat → Nat → Array Bool → Act → World → Prop
  | [], f, l, a, w => WalkS P ops Q S late f l a w
  | i :: is, f, l, a, w => ∃ g, f = g + 1 ∧ ∃ o v, ops[i]? = some o ∧ Region.free .any ops l i = true ∧ (Region.ready .any ops l).contains i = true ∧ early ops late i = true ∧ Region.wanted o (yielded ops a.tmps) = true ∧ (∀ W, S W → (execOp a.eval o).run P W = .ok (.value v) W) ∧ TkS P ops Q S late is g (l.setIfInBounds i true) (a.put o.dst v) w
theorem WalkS.tk (is : List Nat) : ∀ {f : Nat} {l : Array Bool} {a : Act} {w : World}, TkS P ops Q S late is f l a w → WalkS P ops Q S late f l a w := by
  induction is with
  | nil => exact fun h => h
  | cons i is ih =>
    rintro f l a w ⟨g, rfl, o, v, ho, hf, hr, hL, hw, hy, h⟩
    exact WalkS.take i o v ho hf hr hL hw hy (ih h)
theorem TkS.c {f : Nat} {l : Array Bool} {a : Act} {w : World} {i : Nat} {is : List Nat} (o : Oper) (v : Value) (ho : ops[i]? = some o) (hf : Region.free .any ops l i = true) (hr : (Region.ready .any ops l).contains i = true) (hL : early ops late i = true)
    (hw : Region.wanted o (yielded ops a.tmps) = true) (hy : ∀ W, S W → (execOp a.eval o).run P W = .ok (.value v) W) (h : TkS P ops Q S late is f (l.setIfInBounds i true) (a.put o.dst v) w) : TkS P ops Q S late (i :: is) (f + 1) l a w :=
  ⟨f, rfl, o, v, ho, hf, hr, hL, hw, hy, h⟩
theorem TkS.n {f : Nat} {l : Array Bool} {a : Act} {w : World} (h : WalkS P ops Q S late f l a w) : TkS P ops Q S late [] f l a w := h
def MadeS (P : Program) (ops : Array Oper) (Q : Exit → Act → World → Prop) (S : World → Prop) (late : Nat → Bool) (f : Nat) (l : Array Bool) (a : Act) (w : World) (i : Nat) : Prop :=
  ∃ o, ops[i]? = some o ∧ Region.wanted o (yielded ops a.tmps) = true ∧ ∀ K' : Act → World → Prop, Shut (∀ a' w', S w' → WalkS P ops Q S late f (l.setIfInBounds i true) a' w' → K' a' w') → Oper.wp P o a w K' Q
theorem WalkS.one {f : Nat} {l : Array Bool} {a : Act} {w : World} (i : Nat) (hr : Region.ready .any ops l = [i]) (h : MadeS P ops Q S late f l a w i) : WalkS P ops Q S late (f + 1) l a w := by
  refine .inr (.inr ⟨by rw [hr]; simp, fun j hj => ?_⟩)
  rw [hr] at hj
  obtain rfl : j = i := by simpa using hj
  obtain ⟨o, ho, hw, h⟩ := h
  exact ⟨o, ho, fun K hK => by rw [if_pos hw]; exact h K hK⟩
theorem WalkS.rest {f : Nat} {l : Array Bool} {a : Act} {w : World} (hl : allLate ops late l = true) (h : WalkN P ops Q (fun _ => True) (f + 1) l a w) : WalkS P ops Q S late (f + 1) l a w := .inl ⟨hl, h⟩
end
end Go.Proofs.Ytjdigpfipmckhaa
namespace Go.Proofs.Ytjdigpfipmckhaa
open Go Go.RowKit
theorem Own.lit (w : World) {B : Nat} (hB : B ≤ w.heap.size) (e : TypeId) (sz n : Nat) (cs : Array Value) (hn : cs.size = n * sz) (hm : n ≤ maxLen) (h0 : n ≠ 0) : Own (w.alloc (.cells cs e)) B e sz (.slice (some ⟨w.heap.size, 0, none⟩) n n) cs.toList := by
  refine ⟨n, by simpa using hn, .inr ⟨w.heap.size, n, cs, rfl, hB, heap_alloc_new w _, Nat.le_refl _, hm, hn, ?_⟩⟩
  rw [← hn]
  exact List.take_of_length_le (by simp)
end Go.Proofs.Ytjdigpfipmckhaa
namespace Go.Proofs.Ytjdigpfipmckhaa
open Go Go.RowKit Go.Maps
theorem ruleT : ElemT Try.prog 64 66 4 64 := ElemT.mk' Try.underlying64 (show _ = some (some (.agg #[.int .i64 0, .string ByteArray.empty, .string ByteArray.empty, .slice none 0 0]), 4, 64) by kernel_rfl) rfl (by decide)
end Go.Proofs.Ytjdigpfipmckhaa
namespace Go.Proofs.Ytjdigpfipmckhaa
open Go Go.RowKit Go.Maps
theorem tysT : ElemT Try.prog 27 62 2 40 := ElemT.mk' Try.underlying27 (show _ = some (some (.agg #[.string ByteArray.empty, .slice none 0 0]), 2, 40) by kernel_rfl) rfl (by decide)
theorem relsElT : ElemT Try.prog 60 69 5 80 := ElemT.mk' Try.underlying60 (show _ = some (some (.agg #[.string ByteArray.empty, .int .i64 0, .string ByteArray.empty, .string ByteArray.empty, .slice none 0 0]), 5, 80) by kernel_rfl) (by kernel_rfl) (by decide)
section
variable {L : Nat} {w w' : World} {tv tv' rv rv' : Value} {pre : List (TyS × Value)} {n : ByteArray} {qr : List ((ByteArray × RT) × Value)}
end
end Go.Proofs.Ytjdigpfipmckhaa
namespace Go.Proofs
open Go.Shelf
def Try.sortT_ren : Go.Shelf.Ren := ⟨fun | 6 => 42 | 15 => 59 | 14 => 58 | 28 => 73 | 29 => 74 | 20 => 65 | 21 => 66 | 22 => 67 | 23 => 68 | 24 => 69 | 25 => 70 | 26 => 71 | 27 => 72 | 46 => 77 | 47 => 78 | 48 => 79 | 49 => 80 | 50 => 81 | 57 => 82 | n => n, fun | 22 => 31 | 24 => 55 | 25 => 96 | 3 => 3 | 39 => 149 | 0 => 0 | 53 => 162 | 55 => 164 | 4 => 4 | 46 => 156 | 45 => 155 | 50 => 114 | 5 => 5 | 9 => 9 | 66 => 167 | 70 => 171 | 76 => 173 | 77 => 174 | n => n, fun | n => n⟩
theorem Try.sortT : Go.Proofs.SlLaysF0.n6 Try.prog Try.sortT_ren := {
  mixed := by kernel_rfl
  f6 := ⟨Try.f42.name, by decide, Try.func42.trans (congrArg some (by kernel_rfl))⟩
  f14 := ⟨Try.f58.name, by decide, Try.func58.trans (congrArg some (by kernel_rfl))⟩
  f15 := Try.func59.trans (congrArg some (by kernel_rfl))
  f20 := ⟨Try.f65.name, by decide, Try.func65.trans (congrArg some (by kernel_rfl))⟩
  f21 := ⟨Try.f66.name, by decide, Try.func66.trans (congrArg some (by kernel_rfl))⟩
  f22 := ⟨Try.f67.name, by decide, Try.func67.trans (congrArg some (by kernel_rfl))⟩
  f23 := ⟨Try.f68.name, by decide, Try.func68.trans (congrArg some (by kernel_rfl))⟩
  f24 := ⟨Try.f69.name, by decide, Try.func69.trans (congrArg some (by kernel_rfl))⟩
  f25 := ⟨Try.f70.name, by decide, Try.func70.trans (congrArg some (by kernel_rfl))⟩
  f26 := ⟨Try.f71.name, by decide, Try.func71.trans (congrArg some (by kernel_rfl))⟩
  f27 := ⟨Try.f72.name, by decide, Try.func72.trans (congrArg some (by kernel_rfl))⟩
  f28 := Try.func73.trans (congrArg some (by kernel_rfl))
  f29 := Try.func74.trans (congrArg some (by kernel_rfl))
  f46 := ⟨Try.f77.name, by decide, Try.func77.trans (congrArg some (by kernel_rfl))⟩
  f47 := Try.func78.trans (congrArg some (by kernel_rfl))
  f48 := Try.func79.trans (congrArg some (by kernel_rfl))
  f49 := ⟨Try.f80.name, by decide, Try.func80.trans (congrArg some (by kernel_rfl))⟩
  f50 := ⟨Try.f81.name, by decide, Try.func81.trans (congrArg some (by kernel_rfl))⟩
  f57 := ⟨Try.f82.name, by decide, Try.func82.trans (congrArg some (by kernel_rfl))⟩
  t0 := Try.underlying0
  a0 := Try.isAgg0
  z0 := Try.sizeOf0
  v0 := Try.zeroValue0
  t3 := Try.underlying3
  a3 := Try.isAgg3
  z3 := Try.sizeOf3
  v3 := Try.zeroValue3
  t4 := Try.underlying4
  a4 := Try.isAgg4
  z4 := Try.sizeOf4
  v4 := Try.zeroValue4
  t5 := Try.underlying5
  a5 := Try.isAgg5
  z5 := Try.sizeOf5
  v5 := Try.zeroValue5
  t9 := Try.underlying9
  a9 := Try.isAgg9
  z9 := Try.sizeOf9
  v9 := Try.zeroValue9
  t22 := Try.underlying31
  a22 := Try.isAgg31
  z22 := Try.sizeOf31
  v22 := Try.zeroValue31
  t25 := Try.underlying96
  a25 := Try.isAgg96
  z25 := Try.sizeOf96
  v25 := Try.zeroValue96
  t39 := Try.underlying149
  a39 := Try.isAgg149
  z39 := Try.sizeOf149
  v39 := Try.zeroValue149
  t45 := Try.underlying155
  a45 := Try.isAgg155
  z45 := Try.sizeOf155
  v45 := Try.zeroValue155
  t46 := Try.underlying156
  a46 := Try.isAgg156
  z46 := Try.sizeOf156
  v46 := Try.zeroValue156
  t50 := Try.underlying114
  a50 := Try.isAgg114
  z50 := Try.sizeOf114
  v50 := Try.zeroValue114
  t53 := Try.underlying162
  a53 := Try.isAgg162
  z53 := Try.sizeOf162
  v53 := Try.zeroValue162
  t55 := Try.underlying164
  a55 := Try.isAgg164
  z55 := Try.sizeOf164
  v55 := Try.zeroValue164
  t66 := Try.underlying167
  a66 := Try.isAgg167
  z66 := Try.sizeOf167
  v66 := Try.zeroValue167
  t70 := Try.underlying171
  a70 := Try.isAgg171
  z70 := Try.sizeOf171
  v70 := Try.zeroValue171
  t76 := Try.underlying173
  a76 := Try.isAgg173
  z76 := Try.sizeOf173
  v76 := Try.zeroValue173
  t77 := Try.underlying174
  a77 := Try.isAgg174
  z77 := Try.sizeOf174
  v77 := Try.zeroValue174 }
end Go.Proofs
namespace Go.Proofs.Ytjdigpfipmckhaa
open Go Go.RowKit Go.Maps Go.Shelf
def tyIn (ts : List TyS) (n : ByteArray) : Bool := ts.any fun t => decide (t.name = n)
def wrM (ts : List TyS) (t : Tup) : Int := if (lookA (refsOf ts) ⟨t.o.t, t.o.r⟩).isSome && (tyIn ts t.s.t && (decide (t.s.r.size = 0) || (lookA (refsOf ts) ⟨t.s.t, t.s.r⟩).isSome)) then (if ((lookA (refsOf ts) ⟨t.o.t, t.o.r⟩).getD (.mk 0 ByteArray.empty ByteArray.empty [])).this then 0 else 9) else 4
def wrN (ts : List TyS) (t : Tup) : Int := if chkT t then wrM ts t else 2
end Go.Proofs.Ytjdigpfipmckhaa
namespace Go.Proofs.Ytjdigpfipmckhaa
open Go Go.RowKit Go.Maps Go.Shelf
theorem flat_le {α β : Type} (f : α → List β) (D : Nat) : ∀ l : List α, (∀ x ∈ l, (f x).length ≤ D) → (l.flatMap f).length ≤ l.length * D
  | [], _ => by simp
  | a :: l, h => by
    rw [List.flatMap_cons, List.length_append, List.length_cons, Nat.add_mul]
    have h1 := h a List.mem_cons_self
    have h2 := flat_le f D l fun x hx => h x (List.mem_cons_of_mem _ hx)
    omega
end Go.Proofs.Ytjdigpfipmckhaa
namespace Go.Proofs.Ytjdigpfipmckhaa
open Go Go.RowKit Go.ChangeShapes Go.WideShapes Go.ChangeAt
section
variable {H : Type} {enc : TypeId × Value → H} {P : Program} {w : World}
theorem mapM_some {α β : Type} {f : α → Option β} : ∀ {l : List α} {r : List β}, l.mapM f = some r → r.length = l.length ∧ ∀ (i : Nat) (x : α), l[i]? = some x → f x = r[i]? := by
  intro l
  induction l with
  | nil => intro r h; simp at h; subst h; exact ⟨rfl, by simp⟩
  | cons a l ih =>
    intro r h
    simp only [List.mapM_cons, Option.bind_eq_bind, Option.bind_eq_some_iff, Option.pure_def, Option.some.injEq] at h
    obtain ⟨b, hb, bs, hbs, rfl⟩ := h
    obtain ⟨h1, h2⟩ := ih hbs
    refine ⟨by simp [h1], fun i x hx => ?_⟩
    cases i with
    | zero => simp at hx; subst hx; simpa using hb
    | succ i => simp at hx ⊢; exact h2 i x hx
theorem addr_add_add (a : Addr) (x y : Nat) : (a.add x).add y = a.add (x + y) := by
  by_cases hx : x = 0
  · subst hx; simp [Addr.add]
  · by_cases hy : y = 0
    · subst hy; simp [Addr.add]
    · simp [Addr.add, hx, hy, Nat.add_assoc]
theorem cells_get {base : Nat} {a : Addr} {n : Nat} {cs : List Value} (h : w.cells? base a n = some cs) : cs.length = n ∧ ∀ j, j < n → w.cell? (a.add j) = cs[j]? := by
  unfold World.cells? at h
  split at h
  · obtain ⟨h1, h2⟩ := mapM_some h
    refine ⟨by simpa using h1, fun j hj => h2 j j (by simp [hj])⟩
  · cases h
theorem open_sl {t e : TypeId} {v : Value} {d : DataW H} {ps : List MemPlace} (ht : P.underlying t = some (.slice e)) (hv : ∃ a len cap, v = .slice a len cap) (h : DataW.Trod enc P w 0 (fun _ => true) true t v d ps) :
    ∃ (xs : List Value) (elems : List (DataW H × List MemPlace)) (fuel : Nat), Sl (· < w.heap.size) w (P.cellsOf e) v xs ∧ xs.length = elems.length * P.cellsOf e ∧
      (∀ i y, elems[i]? = some y → DataW.trod enc P w 0 (fun _ => true) true fuel e ((xs.drop (i * P.cellsOf e)).take (P.cellsOf e)) = some y) ∧
      (d = .nil ∧ elems = [] ∨ ∃ rest, d = .slice (elems.map (·.1)) rest) := by
  obtain ⟨a0, len0, cap0, rfl⟩ := hv
  obtain ⟨fuel, hf⟩ := h
  rcases DataW.trod_slice ht hf with ⟨hcs, hx⟩ | ⟨a, len, cap, elems, rest, n, hfu, hcs, hx, _, hlc, hcm, hlen, hel, _⟩
  · have hv : Value.slice a0 len0 cap0 = .slice none 0 0 := by simpa [Value.cells] using hcs
    rw [hv]
    simp only [Prod.mk.injEq] at hx
    exact ⟨[], [], 0, Sl.nil _ w _, by simp, by simp, .inl ⟨hx.1, rfl⟩⟩
  · have hv : Value.slice a0 len0 cap0 = .slice (some a) len cap := by simpa [Value.cells] using hcs
    rw [hv]
    generalize hk : P.cellsOf e = k at *
    have hget : ∀ i, i < len → ∃ cs y, w.cells? 0 (a.add (i * k)) k = some cs ∧ elems[i]? = some y ∧ DataW.trod enc P w 0 (fun _ => true) true n e cs = some y := by
      intro i hi
      have h1 := hel i hi
      obtain ⟨y, hy⟩ : ∃ y, elems[i]? = some y := ⟨_, List.getElem?_eq_getElem (by omega)⟩
      rw [hy] at h1
      obtain ⟨cs, hc1, hc2⟩ := Option.bind_eq_some_iff.1 h1
      exact ⟨cs, y, hc1, hy, hc2⟩
    -- the cells, one by one
    obtain ⟨xs, hxl, hxs⟩ : ∃ xs : List Value, xs.length = len * k ∧ ∀ i j, i < len → j < k → w.cell? (a.add (i * k + j)) = xs[i * k + j]? := by
      refine ⟨(List.range (len * k)).map fun m => (w.cell? (a.add m)).getD undef, by simp, fun i j hi hj => ?_⟩
      have hm : i * k + j < len * k := by
        have := Nat.mul_le_mul_right k (show i + 1 ≤ len from hi)
        rw [Nat.add_mul] at this
        omega
      obtain ⟨cs, y, hc1, _, _⟩ := hget i hi
      obtain ⟨hcl, hcc⟩ := cells_get hc1
      have h2 := hcc j hj
      rw [addr_add_add] at h2
      rw [h2, List.getElem?_eq_getElem (by omega)]
      simp [hm, h2, List.getElem?_eq_getElem (show j < cs.length by omega)]
    have hxm : ∀ m u, xs[m]? = some u → w.cell? (a.add m) = some u := by
      intro m u hu
      have hml : m < len * k := by rw [← hxl]; exact (List.getElem?_eq_some_iff.1 hu).1
      have hk0 : 0 < k := by
        apply Nat.pos_of_ne_zero
        intro h0
        rw [h0] at hml
        omega
      have hdm := Nat.div_add_mod m k
      have hi : m / k < len := (Nat.div_lt_iff_lt_mul hk0).2 hml
      have := hxs (m / k) (m % k) hi (Nat.mod_lt _ hk0)
      rw [Nat.mul_comm, hdm] at this
      rw [this, hu]
    refine ⟨xs, elems, n, ⟨some a, len, cap, rfl, hxl, hlc, hcm, fun h => (by cases h), fun hne => ?_⟩, by rw [hxl, hlen], fun i y hy => ?_, .inr ⟨rest.map (·.1), ?_⟩⟩
    · obtain ⟨u, hu⟩ : ∃ u, xs[0]? = some u := by
        cases xs with
        | nil => exact absurd rfl hne
        | cons x _ => exact ⟨x, rfl⟩
      have h0 := hxm 0 u hu
      obtain ⟨b, off, s⟩ := a
      have hs : s = none := by
        cases s with
        | none => rfl
        | some s =>
          exfalso
          simp only [Addr.add, World.cell?] at h0
          split at h0 <;> simp at h0
      subst hs
      have hb := World.block_lt_of_cell? w _ h0
      rw [Addr.add_lit] at hb
      exact ⟨b, off, rfl, hb, fun j u hu => by have := hxm j u hu; rwa [Addr.add_lit] at this⟩
    · have hi : i < len := by rw [← hlen]; exact (List.getElem?_eq_some_iff.1 hy).1
      obtain ⟨cs, y', hc1, hy', hc2⟩ := hget i hi
      obtain rfl : y = y' := by rw [hy] at hy'; exact Option.some.inj hy'
      obtain ⟨hcl, hcc⟩ := cells_get hc1
      have : (xs.drop (i * k)).take k = cs := by
        apply List.ext_getElem?
        intro j
        rw [List.getElem?_take]
        split
        · rename_i hj
          rw [List.getElem?_drop, ← hxs i j hi hj, ← hcc j hj, addr_add_add]
        · rename_i hj
          rw [List.getElem?_eq_none (by omega)]
      rw [this]
      exact hc2
    · simp only [Prod.mk.injEq] at hx
      exact hx.1
theorem trodAll_stays {ts : List TypeId} (hl : laidOutB P = true) {W W' : World} (hb : Below W.heap.size W W') :
    ∀ {vs : List Value} {ds : List (DataW H)} {ps : List MemPlace}, (∀ t ∈ ts, P.readableRec t = true ∧ t < P.types.size) → (∀ x ∈ ps, x.block < W.heap.size) →
      DataW.TrodAll enc P W 0 (fun _ => true) true ts vs ds ps → DataW.TrodAll enc P W' 0 (fun b => decide (b < W.heap.size)) true ts vs ds ps := by
  induction ts with
  | nil =>
    intro vs ds ps _ _ h
    cases vs <;> cases ds <;> simp_all [DataW.TrodAll]
  | cons t ts ih =>
    intro vs ds ps hr hlt h
    obtain ⟨v, vs', d, ds', p, q, rfl, rfl, rfl, h1, h2⟩ := trodAll_cons h
    exact trodAll_cons_mk (Below.trod hl (hr t (by simp)).1 (hr t (by simp)).2 h1 hb (fun x hx => hlt x (by simp [hx]))) (ih (fun t ht => hr t (by simp [ht])) (fun x hx => hlt x (by simp [hx])) h2)
theorem law_post {f : Func} {s : ChangeSpec} {W W' : World} {args : Array Value} {ds gs : List (DataW H)} {before : List MemPlace} {tb : TypeId}
    (hW : DataW.Whole enc P f.params.toList s.vars false W args.toList ds gs before) (hvars : s.vars = []) (hres : f.resultTypes = #[tb]) (htb : P.underlying tb = some .bool)
    (hfn : (s.fn H (ds ++ gs)).results = [.lit (.bool true)]) (hfa : (s.fn H (ds ++ gs)).args = ds) (hfv : (s.fn H (ds ++ gs)).vars = [])
    (hl : laidOutB P = true) (hr : (f.params.toList.all fun t => P.readableRec t && decide (t < P.types.size)) = true) (hb : Below W.heap.size W W') :
    s.post enc P f false true false false W args (.bool true) W' := by
  have hlt := hW.lt
  have hW0 := hW
  obtain ⟨p, q, hA, hV, rfl, _, _⟩ := hW
  rw [hvars] at hV
  refine ⟨ds, gs, p ++ q, [], p, [], hW0, ?_, ?_, ?_, hb.frame _, fun h => by cases h⟩
  · rw [hfn, hres]
    exact trodAll_mk1 (shut_bool htb true)
  · rw [hfa]
    refine trodAll_stays hl hb (fun t ht => ?_) (fun x hx => hlt x (by simp [hx])) hA
    have := List.all_eq_true.1 hr t ht
    simpa using this
  · rw [hfv, hvars]
    rfl
end
end Go.Proofs.Ytjdigpfipmckhaa
