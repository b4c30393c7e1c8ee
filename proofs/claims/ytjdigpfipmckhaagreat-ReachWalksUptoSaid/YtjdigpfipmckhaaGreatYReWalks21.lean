/- Lemmas for the claim, no condition. -/
import Derived.Shelf.SlSortCmp.WholeK
import Derived.Shelf.SlSortCmp.NoneTotal
import Derived.Ground.SlsfProg
import Derived.Test.YtjdigpfipmckhaaGreatProg
import Derived.Test.YtjdigpfipmckhaaGreatYReWalks20
import Derived.Test.YtjdigpfipmckhaaGreatYReWalks8
import Derived.Test.YtjdigpfipmckhaaGreatYReWalks11
import Derived.Test.YtjdigpfipmckhaaGreatYReWalks0
namespace Go.Proofs.YtjdigpfipmckhaaGreat
open Go Go.RowKit Go.Maps
set_option maxRecDepth 100000 in
set_option maxHeartbeats 4000000 in
theorem findS_any {S : Nat → Prop} (ts : List TyS) (tv : Value) (ty rel : ByteArray) (w : World) (hS : ∀ x, S x → x < w.heap.size) (h : TysAt S w ts tv) (hok : ∀ t ∈ ts, t.Ok) (hu : uniqOk ts = true) (hsz : (refsOf ts).length ≤ 1099511627776) (hty : ty.size ≤ maxLen) (hrel : rel.size ≤ maxLen) :
    Calls Tryz.prog 53 #[.agg #[tv], .string ty, .string rel] w fun e w' => ∃ z : RV, e = .returned (.tuple #[rvV z, .bool (lookA (refsOf ts) ⟨ty, rel⟩).isSome]) ∧ RTAt S w' z.1 z.2 ∧ (∀ r, lookA (refsOf ts) ⟨ty, rel⟩ = some r → z.1 = r) ∧ (lookA (refsOf ts) ⟨ty, rel⟩ = none → z = (.mk 0 ByteArray.empty ByteArray.empty [], .slice none 0 0)) ∧ Below w.heap.size w w' := by
  have hx1 : Ext w ((w.alloc (.cells #[tv] 24)).alloc (.cells #[.int .i64 0, .string ByteArray.empty, .string ByteArray.empty, .slice none 0 0] 98)) := (Ext.alloc _ _).trans (Ext.alloc _ _)
  have HX := Lib.hid hx1
  have HO := Lib.hid (open_any (S := S) ts tv _ (fun x hx => Nat.lt_of_lt_of_le (hS x hx) hx1.size) (h.same ((Same.below hx1).mono hS)) hok hu hsz)
  have HSS := Lib.hid hS
  have hS0 := ((Blk.made w #[tv] 24).alloc (.cells #[.int .i64 0, .string ByteArray.empty, .string ByteArray.empty, .slice none 0 0] 98)).cells
  have HR := Lib.hid (Blk.made' (w := w.alloc (.cells #[tv] 24)) (B := w.heap.size + 1) (by simp) #[.int .i64 0, .string ByteArray.empty, .string ByteArray.empty, .slice none 0 0] 98)
  have hR := HR.out.cells
  clear h hok hu hsz hx1 hS
  go_enter Tryz.func53, Tryz.ntmps53
  go_wp2_with fail
  refine HO.out.mono ?_
  rintro e w2 ⟨b1, b2, b3, rfl, hbk, hb2⟩
  obtain ⟨z, hlk, hzat, hz1, hz2⟩ := hbk.R.look ⟨ty, rel⟩ ⟨hty, hrel⟩
  obtain ⟨zo, zc, hzv, -⟩ := hzat.rows
  have HZ := Lib.hid (And.intro hz1 hz2)
  have HZA := Lib.hid hzat
  have HZV := Lib.hid hzv
  have HB2 := Lib.hid (Ext.trans HX.out hb2)
  have HR2 := Lib.hid (HR.out.below hb2)
  have HRZ := Lib.hid (show w.heap.size + 1 < w2.heap.size from HR2.out.lt)
  generalize hokk : (lookA (refsOf ts) ⟨ty, rel⟩).isSome = ok at *
  have HOKK := Lib.hid hokk
  clear hokk
  unfold rvV rV r2V at hlk
  dsimp only at hlk
  rw [hzv] at hlk
  have h3 : Ext w2 (w2.alloc (.cells #[.int .i64 z.1.k, .string z.1.a, .string z.1.b, .slice zo z.1.ps.length zc] 98)) := Ext.alloc _ _
  have HR3 := Lib.hid (HR2.out.below h3)
  have HX3 := Lib.hid h3
  have r3 := HR3.out.cells
  have f3 := HR3.out.free
  have hfd : ∀ W : World, (Instr.field 184 (.agg #[.map (some b1), .map (some b2), .map (some b3)]) 0).run Tryz.prog W = .ok (.map (some b1)) W := fun _ => by kernel_rfl
  obtain ⟨w3, hw3⟩ : ∃ x, x = w2.alloc (.cells #[.int .i64 z.1.k, .string z.1.a, .string z.1.b, .slice zo z.1.ps.length zc] 98) := ⟨_, rfl⟩
  have hne : w.heap.size + 1 ≠ w2.heap.size := by have := HRZ.out; omega
  have hs1 := HR3.out.set_to 0 (.int .i64 z.1.k) rfl
  have hs2 := hs1.set_to 1 (.string z.1.a) rfl
  have hs3 := hs2.set_to 2 (.string z.1.b) rfl
  have hs4 := hs3.set_to 3 (.slice zo z.1.ps.length zc) rfl
  have HS4 := Lib.hid hs4
  have hb4 : ∀ x, x ≠ w.heap.size + 1 → (((((w2.alloc (.cells #[.int .i64 z.1.k, .string z.1.a, .string z.1.b, .slice zo z.1.ps.length zc] 98)).setCell ⟨w.heap.size + 1, 0, none⟩ (.int .i64 z.1.k)).setCell ⟨w.heap.size + 1, 1, none⟩ (.string z.1.a)).setCell ⟨w.heap.size + 1, 2, none⟩ (.string z.1.b)).setCell ⟨w.heap.size + 1, 3, none⟩ (.slice zo z.1.ps.length zc)).heap[x]? = (w2.alloc (.cells #[.int .i64 z.1.k, .string z.1.a, .string z.1.b, .slice zo z.1.ps.length zc] 98)).heap[x]? := fun x hx => by
    rw [Below.heap_setCell _ _ _ x hx, Below.heap_setCell _ _ _ x hx, Below.heap_setCell _ _ _ x hx, Below.heap_setCell _ _ _ x hx]
  have HB4 := Lib.hid hb4
  have HBE := Lib.hid (show Below w.heap.size w (((((w2.alloc (.cells #[.int .i64 z.1.k, .string z.1.a, .string z.1.b, .slice zo z.1.ps.length zc] 98)).setCell ⟨w.heap.size + 1, 0, none⟩ (.int .i64 z.1.k)).setCell ⟨w.heap.size + 1, 1, none⟩ (.string z.1.a)).setCell ⟨w.heap.size + 1, 2, none⟩ (.string z.1.b)).setCell ⟨w.heap.size + 1, 3, none⟩ (.slice zo z.1.ps.length zc)) from ((((Ext.trans HB2.out HX3.out : Ext w _).setCell (by show w.heap.size ≤ w.heap.size + 1; omega) _).setCell (by show w.heap.size ≤ w.heap.size + 1; omega) _).setCell (by show w.heap.size ≤ w.heap.size + 1; omega) _).setCell (by show w.heap.size ≤ w.heap.size + 1; omega) _)
  clear HO hS0 hR hbk hb2 hz1 hz2 hzat hzv h3 hs1 hs2 hs3 hs4 hb4 hw3
  go_wp2_with fail
  refine bodyPost_ret (v := .tuple #[.agg #[.int .i64 z.1.k, .string z.1.a, .string z.1.b, .slice zo z.1.ps.length zc], .bool ok]) ?_ rfl ⟨z, ?_, ?_, HZ.out.1, HZ.out.2, HBE.out⟩
  · rw [results_cell_tmp rfl]
    have hl := run_loadVar_row (P := Tryz.prog) _ (w.heap.size + 1) _ 98 _ _ _ HS4.out Tryz.underlying98 rfl (by kernel_rfl)
    simp [asAddr, hl, Result.andThen]
  · unfold rvV rV
    rw [HZV.out, HOKK.out]
  · exact (HZA.out.same fun x hx => HX3.out.block x (Nat.lt_of_lt_of_le (HSS.out x hx) HB2.out.size)).same fun x hx => HB4.out x (by have := HSS.out x hx; omega)
end Go.Proofs.YtjdigpfipmckhaaGreat
namespace Go.Proofs.YtjdigpfipmckhaaGreat
open Go Go.RowKit
section
variable {P : Program} {ops : Array Oper} {Q : Exit → Act → World → Prop} {S : World → Prop} {late : Nat → Bool}
def wpAnyS (P : Program) (ops : Array Oper) (Q : Exit → Act → World → Prop) (S : World → Prop) (late : Nat → Bool) : Nat → Array Bool → Act → World → Prop
  | 0, l, a, w => Region.ready .any ops l = [] ∧ Q .normal a w
  | f + 1, l, a, w => (Region.ready .any ops l = [] → Q .normal a w) ∧
      ∀ i ∈ Region.ready .any ops l, wpOp P ops Q i (fun a' w' => (late i = false → S w') ∧ wpAnyS P ops Q S late f (l.setIfInBounds i true) a' w') a w
theorem wpAnyS_any : ∀ (f : Nat) (l : Array Bool) (a : Act) (w : World), wpAnyS P ops Q S late f l a w → wpAny P .any ops Q f l a w
  | 0, _, _, _, h => h
  | f + 1, _, _, _, h => ⟨h.1, fun i hi => wpOp_mono (fun a' w' k => wpAnyS_any f _ a' w' k.2) (h.2 i hi)⟩
def early (ops : Array Oper) (late : Nat → Bool) (i : Nat) : Bool := (List.range ops.size).all fun j => !late j || ahead ops ops.size i j
theorem wpAnyS_take {i : Nat} {oi : Oper} {v : Value} (hi : ops[i]? = some oi) (hsel : Region.noSelect ops = true)
    (hQ : ∀ c a w, Q (.panic c) (Act.put a oi.dst v) w → Q (.panic c) a w) (hL : early ops late i = true) :
    ∀ (f : Nat) (l : Array Bool) (a : Act) (w : World), Closed ops l →
      (∀ j oj, ops[j]? = some oj → j ≠ i → l.getD j true = false → (∀ e ∈ oj.after, Region.binds .any e = true → e.on ≠ i) → oi.apart ops oj = true) →
      i ∈ Region.ready .any ops l → YieldsIf P ops S oi v a → S w → wpAnyS P ops Q S late f (l.setIfInBounds i true) (a.put oi.dst v) w → wpAnyS P ops Q S late (f + 1) l a w := by
  intro f
  induction f with
  | zero =>
    intro l a w _ _ hr hy hS H
    refine ⟨fun h => (by rw [h] at hr; cases hr), fun j hj => ?_⟩
    by_cases hji : j = i
    · subst hji
      exact hy.wpOp hi hS ⟨fun _ => hS, H⟩
    · have := ready_mono hj hji
      rw [H.1] at this
      cases this
  | succ f ih =>
    intro l a w hc hfree hr hy hS H
    refine ⟨fun h => (by rw [h] at hr; cases hr), fun j hj => ?_⟩
    by_cases hji : j = i
    · subst hji
      exact hy.wpOp hi hS ⟨fun _ => hS, H⟩
    · obtain ⟨hjun, oj, hoj, hall⟩ := mem_ready.1 hj
      have hiun := (mem_ready.1 hr).1
      have hjL : late j = false := by
        cases hlj : late j with
        | false => rfl
        | true =>
          have hjs : j < ops.size := (Array.getElem?_eq_some_iff.1 hoj).1
          have ha := List.all_eq_true.1 hL j (List.mem_range.2 hjs)
          rw [hlj] at ha
          simp only [Bool.not_true, Bool.false_or] at ha
          exact (unlisted hiun (ahead_listed hc ops.size i j ha fun o ho e he hb => by rw [hoj] at ho; cases ho; exact hall e he hb)).elim
      have hnot : ∀ e ∈ oj.after, Region.binds .any e = true → e.on ≠ i := fun e he hb heq => unlisted hiun (heq ▸ hall e he hb)
      have h2 := wpOp_putIf hoj (hfree j oj hoj hji hjun hnot) (fun cs b => Region.noSelect_spec hsel i oi cs b hi) (fun cs b => Region.noSelect_spec hsel j oj cs b hoj) hQ hy (H.2 j (ready_mono hj hji))
      refine wpOp_mono (fun a' w' k => ⟨k.2.1, ih (l.setIfInBounds j true) a' w' (hc.set hj) (fun m om hom hmi hun hno => ?_) (ready_mono hr (Ne.symm hji)) k.1 (k.2.1 hjL) ?_⟩) h2
      · refine hfree m om hom hmi ?_ hno
        by_cases hjm : j = m
        · exact hjm ▸ hjun
        · rwa [getD_set_ne true hjm] at hun
      · rw [Array.setIfInBounds_comm _ _ hji]
        exact k.2.2
def allLate (ops : Array Oper) (late : Nat → Bool) (l : Array Bool) : Bool := (List.range ops.size).all fun j => l.getD j false || late j
theorem late_ready {l : Array Bool} (h : allLate ops late l = true) {i : Nat} (hi : i ∈ Region.ready .any ops l) : late i = true := by
  obtain ⟨hun, o, ho, _⟩ := mem_ready.1 hi
  have h1 := List.all_eq_true.1 h i (List.mem_range.2 (Array.getElem?_eq_some_iff.1 ho).1)
  rcases Bool.or_eq_true_iff.1 h1 with h2 | h2
  · exact (unlisted hun h2).elim
  · exact h2
theorem late_set {l : Array Bool} (h : allLate ops late l = true) (i : Nat) : allLate ops late (l.setIfInBounds i true) = true := by
  refine List.all_eq_true.2 fun j hj => ?_
  rcases Bool.or_eq_true_iff.1 (List.all_eq_true.1 h j hj) with h2 | h2
  · exact Bool.or_eq_true_iff.2 (.inl (getD_set_true h2))
  · exact Bool.or_eq_true_iff.2 (.inr h2)
theorem wpAnyS_late : ∀ (f : Nat) (l : Array Bool) (a : Act) (w : World), allLate ops late l = true → wpAny P .any ops Q f l a w → wpAnyS P ops Q S late f l a w
  | 0, _, _, _, _, h => h
  | f + 1, l, a, w, hl, h => ⟨h.1, fun i hi => wpOp_mono (fun a' w' k => ⟨fun e => (by rw [late_ready hl hi] at e; cases e), wpAnyS_late f _ a' w' (late_set hl i) k⟩) (h.2 i hi)⟩
def WalkS (P : Program) (ops : Array Oper) (Q : Exit → Act → World → Prop) (S : World → Prop) (late : Nat → Bool) : Nat → Array Bool → Act → World → Prop
  | 0, l, a, w => Region.ready .any ops l = [] ∧ Q .normal a w
  | f + 1, l, a, w => (allLate ops late l = true ∧ WalkN P ops Q (fun _ => True) (f + 1) l a w) ∨
      (∃ i o v, ops[i]? = some o ∧ Region.free .any ops l i = true ∧ (Region.ready .any ops l).contains i = true ∧ early ops late i = true ∧ YieldsIf P ops S o v a ∧ WalkS P ops Q S late f (l.setIfInBounds i true) (a.put o.dst v) w) ∨
      (Region.ready .any ops l ≠ [] ∧ ∀ i ∈ Region.ready .any ops l, ∃ o, ops[i]? = some o ∧ ∀ K' : Act → World → Prop, Shut (∀ a' w', S w' → WalkS P ops Q S late f (l.setIfInBounds i true) a' w' → K' a' w') →
        if Region.wanted o (yielded ops a.tmps) = true then Oper.wp P o a w K' Q else K' (a.put o.dst undef) w)
theorem walkS_sound (hns : Region.noSelect ops = true) (hQ : ∀ c a d v w, Q (.panic c) (Act.put a d v) w → Q (.panic c) a w) :
    ∀ (f : Nat) (l : Array Bool) (a : Act) (w : World), Closed ops l → S w → WalkS P ops Q S late f l a w → wpAnyS P ops Q S late f l a w
  | 0, _, _, _, _, _, h => h
  | f + 1, l, a, w, hc, hs, h => by
    rcases h with ⟨hl, h⟩ | ⟨i, o, v, ho, hf, hr, hL, hy, h⟩ | ⟨hne, h⟩
    · exact wpAnyS_late _ l a w hl (wpAny_of_held _ _ _ _ (walkN_sound hns hQ _ l a w trivial h))
    · exact wpAnyS_take ho hns (fun c a w => hQ c a _ _ w) hL f l a w hc (Region.free_spec ho hf) (by simpa using hr) hy hs (walkS_sound hns hQ f _ _ w (hc.set (by simpa using hr)) hs h)
    · refine ⟨fun e => absurd e hne, fun i hi => ?_⟩
      obtain ⟨o, ho, hst⟩ := h i hi
      exact wpOp_step ho (fun K' hK => hst K' (fun a' w' he hw => hK a' w' ⟨fun _ => he, walkS_sound hns hQ f _ a' w' (hc.set hi) he hw⟩))
theorem region_walkS {id : Nat} {a : Act} {w : World} (late : Nat → Bool) (S : World → Prop) (hS : S w.drew) (hm : P.follows .mixedOrders = true) (hns : Region.noSelect ops = true) (hQ : ∀ c a d v w, Q (.panic c) (Act.put a d v) w → Q (.panic c) a w)
    (h : WalkS P ops Q S late ops.size (Array.replicate ops.size false) a w.drew) : (Code.region id ops true).wp P Q a w :=
  wp_region_any hm (wpAnyS_any _ _ _ _ (walkS_sound hns hQ _ _ a w.drew (Closed.start _ _) hS h))
theorem WalkS.take {f : Nat} {l : Array Bool} {a : Act} {w : World} (i : Nat) (o : Oper) (v : Value) (ho : ops[i]? = some o) (hf : Region.free .any ops l i = true) (hr : (Region.ready .any ops l).contains i = true) (hL : early ops late i = true)
    (hw : Region.wanted o (yielded ops a.tmps) = true) (hy : ∀ W, S W → (execOp a.eval o).run P W = .ok (.value v) W) (h : WalkS P ops Q S late f (l.setIfInBounds i true) (a.put o.dst v) w) : WalkS P ops Q S late (f + 1) l a w :=
  .inr (.inl ⟨i, o, v, ho, hf, hr, hL, .inl ⟨hw, hy⟩, h⟩)
def TkS (P : Program) (ops : Array Oper) (Q : Exit → Act → World → Prop) (S : World → Prop) (late : Nat → Bool) : List Nat → Nat → Array Bool → Act → World → Prop
  | [], f, l, a, w => WalkS P ops Q S late f l a w
  | i :: is, f, l, a, w => ∃ g, f = g + 1 ∧ ∃ o v, ops[i]? = some o ∧ Region.free .any ops l i = true ∧ (Region.ready .any ops l).contains i = true ∧ early ops late i = true ∧ Region.wanted o (yielded ops a.tmps) = true ∧ (∀ W, S W → (execOp a.eval o).run P W = .ok (.value v) W) ∧ TkS P ops Q S late is g (l.setIfInBounds i true) (a.put o.dst v) w
theorem WalkS.tk (is : List Nat) : ∀ {f : Nat} {l : Array Bool} {a : Act} {w : World}, TkS P ops Q S late is f l a w → WalkS P ops Q S late f l a w := by
  induction is with
  | nil => exact fun h => h
  | cons i is ih =>
    rintro f l a w ⟨g, rfl, o, v, ho, hf, hr, hL, hw, hy, h⟩
    exact WalkS.take i o v ho hf hr hL hw hy (ih h)
theorem TkS.c {f : Nat} {l : Array Bool} {a : Act} {w : World} {i : Nat} {is : List Nat} (o : Oper) (v : Value) (ho : ops[i]? = some o) (hf : Region.free .any ops l i = true) (hr : (Region.ready .any ops l).contains i = true) (hL : early ops late i = true)
    (hw : Region.wanted o (yielded ops a.tmps) = true) (hy : ∀ W, S W → (execOp a.eval o).run P W = .ok (.value v) W) (h : TkS P ops Q S late is f (l.setIfInBounds i true) (a.put o.dst v) w) : TkS P ops Q S late (i :: is) (f + 1) l a w :=
  ⟨f, rfl, o, v, ho, hf, hr, hL, hw, hy, h⟩
theorem TkS.n {f : Nat} {l : Array Bool} {a : Act} {w : World} (h : WalkS P ops Q S late f l a w) : TkS P ops Q S late [] f l a w := h
def MadeS (P : Program) (ops : Array Oper) (Q : Exit → Act → World → Prop) (S : World → Prop) (late : Nat → Bool) (f : Nat) (l : Array Bool) (a : Act) (w : World) (i : Nat) : Prop :=
  ∃ o, ops[i]? = some o ∧ Region.wanted o (yielded ops a.tmps) = true ∧ ∀ K' : Act → World → Prop, Shut (∀ a' w', S w' → WalkS P ops Q S late f (l.setIfInBounds i true) a' w' → K' a' w') → Oper.wp P o a w K' Q
theorem WalkS.one {f : Nat} {l : Array Bool} {a : Act} {w : World} (i : Nat) (hr : Region.ready .any ops l = [i]) (h : MadeS P ops Q S late f l a w i) : WalkS P ops Q S late (f + 1) l a w := by
  refine .inr (.inr ⟨by rw [hr]; simp, fun j hj => ?_⟩)
  rw [hr] at hj
  obtain rfl : j = i := by simpa using hj
  obtain ⟨o, ho, hw, h⟩ := h
  exact ⟨o, ho, fun K hK => by rw [if_pos hw]; exact h K hK⟩
theorem WalkS.rest {f : Nat} {l : Array Bool} {a : Act} {w : World} (hl : allLate ops late l = true) (h : WalkN P ops Q (fun _ => True) (f + 1) l a w) : WalkS P ops Q S late (f + 1) l a w := .inl ⟨hl, h⟩
end
end Go.Proofs.YtjdigpfipmckhaaGreat
namespace Go.Proofs.YtjdigpfipmckhaaGreat
open Go Go.RowKit
theorem Own.lit (w : World) {B : Nat} (hB : B ≤ w.heap.size) (e : TypeId) (sz n : Nat) (cs : Array Value) (hn : cs.size = n * sz) (hm : n ≤ maxLen) (h0 : n ≠ 0) : Own (w.alloc (.cells cs e)) B e sz (.slice (some ⟨w.heap.size, 0, none⟩) n n) cs.toList := by
  refine ⟨n, by simpa using hn, .inr ⟨w.heap.size, n, cs, rfl, hB, heap_alloc_new w _, Nat.le_refl _, hm, hn, ?_⟩⟩
  rw [← hn]
  exact List.take_of_length_le (by simp)
end Go.Proofs.YtjdigpfipmckhaaGreat
namespace Go.Proofs
open Go.Shelf
def Tryz.sortT_ren : Go.Shelf.Ren := ⟨fun | 6 => 112 | 15 => 147 | 14 => 159 | 28 => 178 | 29 => 179 | 20 => 184 | 21 => 185 | 22 => 186 | 23 => 187 | 24 => 188 | 25 => 189 | 26 => 190 | 27 => 191 | 46 => 209 | 47 => 203 | 48 => 204 | 49 => 210 | 50 => 211 | 57 => 216 | n => n, fun | 22 => 25 | 24 => 104 | 25 => 128 | 3 => 3 | 39 => 225 | 0 => 0 | 53 => 265 | 55 => 267 | 4 => 4 | 46 => 258 | 45 => 257 | 50 => 187 | 5 => 5 | 9 => 9 | 66 => 282 | 70 => 286 | 76 => 294 | 77 => 295 | n => n, fun | n => n⟩
theorem Tryz.sortT : Go.Proofs.SlLaysF0.n6 Tryz.prog Tryz.sortT_ren := {
  mixed := by kernel_rfl
  f6 := ⟨Tryz.f112.name, by decide, Tryz.func112.trans (congrArg some (by kernel_rfl))⟩
  f14 := ⟨Tryz.f159.name, by decide, Tryz.func159.trans (congrArg some (by kernel_rfl))⟩
  f15 := Tryz.func147.trans (congrArg some (by kernel_rfl))
  f20 := ⟨Tryz.f184.name, by decide, Tryz.func184.trans (congrArg some (by kernel_rfl))⟩
  f21 := ⟨Tryz.f185.name, by decide, Tryz.func185.trans (congrArg some (by kernel_rfl))⟩
  f22 := ⟨Tryz.f186.name, by decide, Tryz.func186.trans (congrArg some (by kernel_rfl))⟩
  f23 := ⟨Tryz.f187.name, by decide, Tryz.func187.trans (congrArg some (by kernel_rfl))⟩
  f24 := ⟨Tryz.f188.name, by decide, Tryz.func188.trans (congrArg some (by kernel_rfl))⟩
  f25 := ⟨Tryz.f189.name, by decide, Tryz.func189.trans (congrArg some (by kernel_rfl))⟩
  f26 := ⟨Tryz.f190.name, by decide, Tryz.func190.trans (congrArg some (by kernel_rfl))⟩
  f27 := ⟨Tryz.f191.name, by decide, Tryz.func191.trans (congrArg some (by kernel_rfl))⟩
  f28 := Tryz.func178.trans (congrArg some (by kernel_rfl))
  f29 := Tryz.func179.trans (congrArg some (by kernel_rfl))
  f46 := ⟨Tryz.f209.name, by decide, Tryz.func209.trans (congrArg some (by kernel_rfl))⟩
  f47 := Tryz.func203.trans (congrArg some (by kernel_rfl))
  f48 := Tryz.func204.trans (congrArg some (by kernel_rfl))
  f49 := ⟨Tryz.f210.name, by decide, Tryz.func210.trans (congrArg some (by kernel_rfl))⟩
  f50 := ⟨Tryz.f211.name, by decide, Tryz.func211.trans (congrArg some (by kernel_rfl))⟩
  f57 := ⟨Tryz.f216.name, by decide, Tryz.func216.trans (congrArg some (by kernel_rfl))⟩
  t0 := Tryz.underlying0
  a0 := Tryz.isAgg0
  z0 := Tryz.sizeOf0
  v0 := Tryz.zeroValue0
  t3 := Tryz.underlying3
  a3 := Tryz.isAgg3
  z3 := Tryz.sizeOf3
  v3 := Tryz.zeroValue3
  t4 := Tryz.underlying4
  a4 := Tryz.isAgg4
  z4 := Tryz.sizeOf4
  v4 := Tryz.zeroValue4
  t5 := Tryz.underlying5
  a5 := Tryz.isAgg5
  z5 := Tryz.sizeOf5
  v5 := Tryz.zeroValue5
  t9 := Tryz.underlying9
  a9 := Tryz.isAgg9
  z9 := Tryz.sizeOf9
  v9 := Tryz.zeroValue9
  t22 := Tryz.underlying25
  a22 := Tryz.isAgg25
  z22 := Tryz.sizeOf25
  v22 := Tryz.zeroValue25
  t25 := Tryz.underlying128
  a25 := Tryz.isAgg128
  z25 := Tryz.sizeOf128
  v25 := Tryz.zeroValue128
  t39 := Tryz.underlying225
  a39 := Tryz.isAgg225
  z39 := Tryz.sizeOf225
  v39 := Tryz.zeroValue225
  t45 := Tryz.underlying257
  a45 := Tryz.isAgg257
  z45 := Tryz.sizeOf257
  v45 := Tryz.zeroValue257
  t46 := Tryz.underlying258
  a46 := Tryz.isAgg258
  z46 := Tryz.sizeOf258
  v46 := Tryz.zeroValue258
  t50 := Tryz.underlying187
  a50 := Tryz.isAgg187
  z50 := Tryz.sizeOf187
  v50 := Tryz.zeroValue187
  t53 := Tryz.underlying265
  a53 := Tryz.isAgg265
  z53 := Tryz.sizeOf265
  v53 := Tryz.zeroValue265
  t55 := Tryz.underlying267
  a55 := Tryz.isAgg267
  z55 := Tryz.sizeOf267
  v55 := Tryz.zeroValue267
  t66 := Tryz.underlying282
  a66 := Tryz.isAgg282
  z66 := Tryz.sizeOf282
  v66 := Tryz.zeroValue282
  t70 := Tryz.underlying286
  a70 := Tryz.isAgg286
  z70 := Tryz.sizeOf286
  v70 := Tryz.zeroValue286
  t76 := Tryz.underlying294
  a76 := Tryz.isAgg294
  z76 := Tryz.sizeOf294
  v76 := Tryz.zeroValue294
  t77 := Tryz.underlying295
  a77 := Tryz.isAgg295
  z77 := Tryz.sizeOf295
  v77 := Tryz.zeroValue295 }
def Tryz.sortP_ren : Go.Shelf.Ren := ⟨fun | 6 => 126 | 15 => 147 | 14 => 162 | 28 => 178 | 29 => 179 | 20 => 193 | 21 => 194 | 22 => 195 | 23 => 196 | 24 => 197 | 25 => 198 | 26 => 199 | 27 => 200 | 46 => 212 | 47 => 203 | 48 => 204 | 49 => 213 | 50 => 214 | 57 => 217 | n => n, fun | 22 => 34 | 24 => 30 | 25 => 145 | 3 => 3 | 39 => 225 | 0 => 0 | 53 => 265 | 55 => 267 | 4 => 4 | 46 => 258 | 45 => 257 | 50 => 187 | 5 => 5 | 9 => 9 | 66 => 282 | 70 => 286 | 76 => 294 | 77 => 295 | n => n, fun | n => n⟩
theorem Tryz.sortP : Go.Proofs.SlLaysF0.n6 Tryz.prog Tryz.sortP_ren := {
  mixed := by kernel_rfl
  f6 := ⟨Tryz.f126.name, by decide, Tryz.func126.trans (congrArg some (by kernel_rfl))⟩
  f14 := ⟨Tryz.f162.name, by decide, Tryz.func162.trans (congrArg some (by kernel_rfl))⟩
  f15 := Tryz.func147.trans (congrArg some (by kernel_rfl))
  f20 := ⟨Tryz.f193.name, by decide, Tryz.func193.trans (congrArg some (by kernel_rfl))⟩
  f21 := ⟨Tryz.f194.name, by decide, Tryz.func194.trans (congrArg some (by kernel_rfl))⟩
  f22 := ⟨Tryz.f195.name, by decide, Tryz.func195.trans (congrArg some (by kernel_rfl))⟩
  f23 := ⟨Tryz.f196.name, by decide, Tryz.func196.trans (congrArg some (by kernel_rfl))⟩
  f24 := ⟨Tryz.f197.name, by decide, Tryz.func197.trans (congrArg some (by kernel_rfl))⟩
  f25 := ⟨Tryz.f198.name, by decide, Tryz.func198.trans (congrArg some (by kernel_rfl))⟩
  f26 := ⟨Tryz.f199.name, by decide, Tryz.func199.trans (congrArg some (by kernel_rfl))⟩
  f27 := ⟨Tryz.f200.name, by decide, Tryz.func200.trans (congrArg some (by kernel_rfl))⟩
  f28 := Tryz.func178.trans (congrArg some (by kernel_rfl))
  f29 := Tryz.func179.trans (congrArg some (by kernel_rfl))
  f46 := ⟨Tryz.f212.name, by decide, Tryz.func212.trans (congrArg some (by kernel_rfl))⟩
  f47 := Tryz.func203.trans (congrArg some (by kernel_rfl))
  f48 := Tryz.func204.trans (congrArg some (by kernel_rfl))
  f49 := ⟨Tryz.f213.name, by decide, Tryz.func213.trans (congrArg some (by kernel_rfl))⟩
  f50 := ⟨Tryz.f214.name, by decide, Tryz.func214.trans (congrArg some (by kernel_rfl))⟩
  f57 := ⟨Tryz.f217.name, by decide, Tryz.func217.trans (congrArg some (by kernel_rfl))⟩
  t0 := Tryz.underlying0
  a0 := Tryz.isAgg0
  z0 := Tryz.sizeOf0
  v0 := Tryz.zeroValue0
  t3 := Tryz.underlying3
  a3 := Tryz.isAgg3
  z3 := Tryz.sizeOf3
  v3 := Tryz.zeroValue3
  t4 := Tryz.underlying4
  a4 := Tryz.isAgg4
  z4 := Tryz.sizeOf4
  v4 := Tryz.zeroValue4
  t5 := Tryz.underlying5
  a5 := Tryz.isAgg5
  z5 := Tryz.sizeOf5
  v5 := Tryz.zeroValue5
  t9 := Tryz.underlying9
  a9 := Tryz.isAgg9
  z9 := Tryz.sizeOf9
  v9 := Tryz.zeroValue9
  t22 := Tryz.underlying34
  a22 := Tryz.isAgg34
  z22 := Tryz.sizeOf34
  v22 := Tryz.zeroValue34
  t25 := Tryz.underlying145
  a25 := Tryz.isAgg145
  z25 := Tryz.sizeOf145
  v25 := Tryz.zeroValue145
  t39 := Tryz.underlying225
  a39 := Tryz.isAgg225
  z39 := Tryz.sizeOf225
  v39 := Tryz.zeroValue225
  t45 := Tryz.underlying257
  a45 := Tryz.isAgg257
  z45 := Tryz.sizeOf257
  v45 := Tryz.zeroValue257
  t46 := Tryz.underlying258
  a46 := Tryz.isAgg258
  z46 := Tryz.sizeOf258
  v46 := Tryz.zeroValue258
  t50 := Tryz.underlying187
  a50 := Tryz.isAgg187
  z50 := Tryz.sizeOf187
  v50 := Tryz.zeroValue187
  t53 := Tryz.underlying265
  a53 := Tryz.isAgg265
  z53 := Tryz.sizeOf265
  v53 := Tryz.zeroValue265
  t55 := Tryz.underlying267
  a55 := Tryz.isAgg267
  z55 := Tryz.sizeOf267
  v55 := Tryz.zeroValue267
  t66 := Tryz.underlying282
  a66 := Tryz.isAgg282
  z66 := Tryz.sizeOf282
  v66 := Tryz.zeroValue282
  t70 := Tryz.underlying286
  a70 := Tryz.isAgg286
  z70 := Tryz.sizeOf286
  v70 := Tryz.zeroValue286
  t76 := Tryz.underlying294
  a76 := Tryz.isAgg294
  z76 := Tryz.sizeOf294
  v76 := Tryz.zeroValue294
  t77 := Tryz.underlying295
  a77 := Tryz.isAgg295
  z77 := Tryz.sizeOf295
  v77 := Tryz.zeroValue295 }
end Go.Proofs
