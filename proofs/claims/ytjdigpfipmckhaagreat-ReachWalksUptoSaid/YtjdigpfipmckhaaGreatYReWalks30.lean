/- Lemmas for the claim, no condition. -/
import Derived.Test.YtjdigpfipmckhaaGreatYReWalks0
import Derived.Lib.SliceRun
import Derived.Test.YtjdigpfipmckhaaGreatYReWalks28
import Derived.Test.YtjdigpfipmckhaaGreatYReWalks29
import Derived.Test.YtjdigpfipmckhaaGreatYReWalks21
namespace Go.Proofs.YtjdigpfipmckhaaGreat
open Go Go.RowKit
theorem tuC_one (x : Tup) : ∀ u ∈ tuC x, u.oneCell' = true := by
  intro u hu
  simp only [tuC, List.mem_cons, List.not_mem_nil, or_false] at hu
  rcases hu with rfl | rfl | rfl | rfl | rfl | rfl <;> rfl
theorem sortT_any {w : World} {B : Nat} {v : Value} {l : List Tup} (h : Own w B 104 6 v (tuCs l)) (hl : l.length < 4611686018427387904) :
    Calls Tryz.prog 112 #[v, .func (.func 57) #[] #[]] w fun e w' => e = .returned (.tuple #[]) ∧ ∃ l' : List Tup, l'.Perm l ∧ (l'.Pairwise fun a b => ltT b a = false) ∧ Own w' B 104 6 v (tuCs l') ∧ Kept (fun b => b < w.heap.size ∧ v.ownBlock ≠ some b) w w' := by
  refine Calls.mono (sort_own Tryz.sortT tuC 6 tuC_length (by decide) tuC_one Tryz.isAgg104 Tryz.sizeOf104 cmpC swoC 57 #[] (enters_of Tryz.func57 (by kernel_rfl) rfl) (fun W x y => cmpTup_any x y W) h hl) ?_
  rintro e w' ⟨rfl, l', hp, hs, ho, hk⟩
  exact ⟨rfl, l', hp, hs.imp fun {a b} h => by rw [← lt_cmpC]; exact h, ho, hk⟩
set_option maxRecDepth 100000 in
set_option maxHeartbeats 800000 in
theorem sortedT_any (w : World) (Bs : Nat) (ao : Option Addr) (cap : Nat) (zs : List Tup) (hl : zs.length ≤ 137438953472) (hBs : Bs < w.heap.size) (hc : w.cell? ⟨Bs, 0, none⟩ = some (.slice ao zs.length cap)) (hS : Sl (· < w.heap.size) w 6 (.slice ao zs.length cap) (zs.flatMap tuC)) :
    Calls Tryz.prog 55 #[.func (.func 113) #[] #[.pointer (some ⟨Bs, 0, none⟩)], .func (.func 57) #[] #[]] w fun e w' => ∃ (v' : Value) (l : List Tup), e = .returned v' ∧ l.Perm zs ∧ (l.Pairwise fun a b => ltT b a = false) ∧ Own w' w.heap.size 104 6 v' (tuCs l) ∧ Ext w w' := by
  have HP := Lib.hid (collectT_any w Bs ao cap zs hl hBs hc hS)
  clear hS hc
  go_enter Tryz.func55, Tryz.ntmps55
  go_wp2_with fail
  refine HP.out.mono ?_
  rintro e w1 ⟨v, rfl, ho, hb⟩
  have HP2 := Lib.hid (sortT_any ho (by omega))
  go_wp2_with fail
  refine HP2.out.mono ?_
  rintro e w2 ⟨rfl, l', hp', hu, ho', hk'⟩
  go_wp2
  go_ret
  exact ⟨v, l', rfl, hp', hu, ho', Below.trans (show Below w.heap.size w w1 from hb) (Kept.below (B := w.heap.size) hk' fun b hb' => ⟨Nat.lt_of_lt_of_le hb' hb.size, fun e => by have := (ho.block b e).1; omega⟩)⟩
end Go.Proofs.YtjdigpfipmckhaaGreat
namespace Go.Proofs.YtjdigpfipmckhaaGreat
open Go Go.RowKit
def ddN (l : List Tup) : Nat → List Tup
  | 0 => []
  | m + 1 => ddN l m ++ (if m = 0 ∨ l[m]? ≠ l[m - 1]? then l[m]?.toList else [])
def dd (l : List Tup) : List Tup := ddN l l.length
theorem ddN_mem (l : List Tup) (x : Tup) : ∀ m, x ∈ ddN l m ↔ ∃ j, j < m ∧ l[j]? = some x := by
  intro m
  induction m with
  | zero => simp [ddN]
  | succ m ih =>
    rw [ddN, List.mem_append, ih]
    constructor
    · rintro (⟨j, hj, h⟩ | h)
      · exact ⟨j, by omega, h⟩
      · split at h
        · exact ⟨m, Nat.lt_succ_self m, by simpa using h⟩
        · cases h
    · rintro ⟨j, hj, h⟩
      by_cases hjm : j < m
      · exact .inl ⟨j, hjm, h⟩
      · obtain rfl : j = m := by omega
        by_cases hc : j = 0 ∨ l[j]? ≠ l[j - 1]?
        · rw [if_pos hc]
          exact .inr (by simp [h])
        · left
          have h0 : j ≠ 0 := fun e => hc (.inl e)
          have h1 : l[j]? = l[j - 1]? := Classical.byContradiction fun e => hc (.inr e)
          exact ⟨j - 1, by omega, by rw [← h1]; exact h⟩
theorem dd_mem (l : List Tup) (x : Tup) : x ∈ dd l ↔ x ∈ l := by
  unfold dd
  rw [ddN_mem, List.mem_iff_getElem?]
  constructor
  · rintro ⟨j, _, h⟩
    exact ⟨j, h⟩
  · rintro ⟨j, h⟩
    exact ⟨j, (List.getElem?_eq_some_iff.1 h).1, h⟩
theorem ddN_up (l : List Tup) (hs : l.Pairwise fun a b => ltT b a = false) : ∀ m, m ≤ l.length → UpT (ddN l m)
  | 0, _ => List.Pairwise.nil
  | m + 1, hm => by
    have ih := ddN_up l hs m (by omega)
    rw [ddN]
    split
    · next hc =>
      have hlm : l[m]? = some l[m] := List.getElem?_eq_getElem (by omega)
      rw [hlm]
      unfold UpT
      rw [List.pairwise_append]
      refine ⟨ih, by simp, fun x hx y hy => ?_⟩
      obtain rfl : y = l[m] := by simpa using hy
      obtain ⟨j, hj, hjx⟩ := (ddN_mem l x m).1 hx
      obtain ⟨hjl, rfl⟩ := List.getElem?_eq_some_iff.1 hjx
      have hp := fun (a b : Nat) (ha : a < l.length) (hb : b < l.length) (hab : a < b) => List.pairwise_iff_getElem.1 hs a b ha hb hab
      have h1 := hp j m hjl (by omega) hj
      cases h2 : ltT l[j] l[m] with
      | true => rfl
      | false =>
        exfalso
        have heq : l[j] = l[m] := Classical.byContradiction fun e => by
          have := ltT_total h2 e
          rw [this] at h1
          cases h1
        have hm0 : m ≠ 0 := by omega
        rcases hc with hc | hc
        · exact hm0 hc
        · apply hc
          have hl1 : l[m - 1]? = some (l[m - 1]'(by omega)) := List.getElem?_eq_getElem _
          rw [hlm, hl1]
          congr 1
          by_cases hj1 : j = m - 1
          · subst hj1
            exact heq.symm
          · have h3 := hp j (m - 1) hjl (by omega) (by omega)
            have h4 := hp (m - 1) m (by omega) (by omega) (by omega)
            refine Classical.byContradiction fun e => ?_
            have h5 : ltT (l[m - 1]'(by omega)) l[j] = true := by
              have h6 : ltT l[j] (l[m - 1]'(by omega)) = false := by rw [heq]; exact h4
              exact ltT_total h6 (fun e2 => e (by rw [← heq, e2]))
            rw [h5] at h3
            cases h3
    · simpa using ih
theorem dd_up {l : List Tup} (hs : l.Pairwise fun a b => ltT b a = false) : UpT (dd l) := ddN_up l hs _ (Nat.le_refl _)
theorem ddN_same (l : List Tup) : ∀ m, m ≤ l.length → (∀ j, 0 < j → j < m → l[j]? ≠ l[j - 1]?) → ddN l m = l.take m
  | 0, _, _ => by simp [ddN]
  | m + 1, hm, h => by
    rw [ddN, ddN_same l m (by omega) fun j h0 h1 => h j h0 (by omega), List.take_add_one]
    congr 1
    rw [if_pos]
    by_cases h0 : m = 0
    · exact .inl h0
    · exact .inr (h m (by omega) (by omega))
theorem set_of {l s : List Tup} (hp : s.Perm l) (hs : s.Pairwise fun a b => ltT b a = false) : SetT l ((dd s).filter fun t => chkT t) :=
  ⟨(dd_up hs).filter _, fun t => by rw [List.mem_filter, dd_mem, hp.mem_iff]⟩
end Go.Proofs.YtjdigpfipmckhaaGreat
namespace Go.Proofs.YtjdigpfipmckhaaGreat
open Go Go.RowKit
theorem Own.setAtT {w : World} {B : Nat} {e : TypeId} {sz : Nat} {g n c : Nat} {xs : List Value} (h : Own w B e sz (.slice (some ⟨g, 0, none⟩) n c) xs) (i : Nat) (u : Value) : Own (w.setCell ⟨g, i, none⟩ u) B e sz (.slice (some ⟨g, 0, none⟩) n c) (xs.set i u) := by
  obtain ⟨m, h⟩ := h
  rcases h.2 with ⟨hv, rfl⟩ | ⟨g', cap, cur, hv, hbg, hg, hnc, hcm, hcs, htake⟩
  · cases hv
  · cases hv
    refine ⟨n, by rw [List.length_set]; exact h.1, .inr ⟨g, c, cur.setIfInBounds i u, rfl, hbg, heap_setCell_same w g i cur e u hg, hnc, hcm, by simpa using hcs, ?_⟩⟩
    rw [Array.toList_setIfInBounds, ← htake, List.take_set]
def setL (xs : List Value) : Nat → List Value → List Value
  | _, [] => xs
  | o, v :: r => setL (xs.set o v) (o + 1) r
theorem setL_take : ∀ (vs : List Value) (xs : List Value) (o m : Nat), m ≤ o → (setL xs o vs).take m = xs.take m
  | [], _, _, _, _ => rfl
  | v :: r, xs, o, m, h => by
    rw [setL, setL_take r (xs.set o v) (o + 1) m (by omega), List.take_set_of_le h]
theorem Own.setMany {B : Nat} {e : TypeId} {sz : Nat} {g n c : Nat} : ∀ (vs : List Value) {w : World} {xs : List Value} (o : Nat), Own w B e sz (.slice (some ⟨g, 0, none⟩) n c) xs → Own (w.setCells g o vs) B e sz (.slice (some ⟨g, 0, none⟩) n c) (setL xs o vs)
  | [], _, _, _, h => h
  | v :: r, w, xs, o, h => by
    rw [World.setCells, setL]
    exact Own.setMany r (o + 1) (h.setAtT o v)
theorem setCells_other (g : Nat) : ∀ (vs : List Value) (w : World) (o : Nat) {x : Nat}, x ≠ g → (w.setCells g o vs).heap[x]? = w.heap[x]?
  | [], _, _, _, _ => rfl
  | v :: r, w, o, x, h => by
    rw [World.setCells, setCells_other g r _ _ h, Below.heap_setCell _ _ _ x h]
theorem setCells_fields (g : Nat) : ∀ (vs : List Value) (w : World) (o : Nat), (w.setCells g o vs).os = w.os ∧ (w.setCells g o vs).tape = w.tape ∧ (w.setCells g o vs).output = w.output ∧ (w.setCells g o vs).heap.size = w.heap.size
  | [], _, _ => ⟨rfl, rfl, rfl, rfl⟩
  | v :: r, w, o => by
    obtain ⟨h1, h2, h3, h4⟩ := setCells_fields g r (w.setCell ⟨g, o, none⟩ v) (o + 1)
    rw [World.setCells]
    exact ⟨h1, h2, h3, by rw [h4]; simp⟩
theorem Own.cutT {w : World} {B : Nat} {e : TypeId} {sz : Nat} {g n c : Nat} {xs : List Value} (h : Own w B e sz (.slice (some ⟨g, 0, none⟩) n c) xs) {k : Nat} (hk : k ≤ n) : Own w B e sz (.slice (some ⟨g, 0, none⟩) k c) (xs.take (k * sz)) := by
  obtain ⟨m, h⟩ := h
  rcases h.2 with ⟨hv, rfl⟩ | ⟨g', cap, cur, hv, hbg, hg, hnc, hcm, hcs, htake⟩
  · cases hv
  · cases hv
    have hl := h.1
    have hks : k * sz ≤ n * sz := Nat.mul_le_mul_right _ hk
    refine ⟨k, by rw [List.length_take]; omega, .inr ⟨g, c, cur, rfl, hbg, hg, by omega, hcm, hcs, ?_⟩⟩
    rw [← htake, List.take_take, Nat.min_eq_left hks]
theorem tuCs_take (l : List Tup) (k : Nat) : (tuCs l).take (k * 6) = tuCs (l.take k) := by
  induction l generalizing k with
  | nil => simp [tuCs]
  | cons x l ih =>
    cases k with
    | zero => simp [tuCs]
    | succ k =>
      have : tuCs (x :: l) = tuC x ++ tuCs l := by simp [tuCs]
      rw [this, show (k + 1) * 6 = (tuC x).length + k * 6 by rw [tuC_length]; omega, List.take_length_add_append, ih, List.take_succ_cons]
      simp [tuCs]
theorem tuCs_set (l : List Tup) (k : Nat) (x : Tup) (hk : k < l.length) : ((((((tuCs l).set (k * 6) (.string x.o.t)).set (k * 6 + 1) (.string x.o.i)).set (k * 6 + 2) (.string x.o.r)).set (k * 6 + 3) (.string x.s.t)).set (k * 6 + 4) (.string x.s.i)).set (k * 6 + 5) (.string x.s.r) = tuCs (l.set k x) := by
  induction l generalizing k with
  | nil => simp at hk
  | cons y l ih =>
    have e : ∀ (z : Tup) (m : List Tup), tuCs (z :: m) = .string z.o.t :: .string z.o.i :: .string z.o.r :: .string z.s.t :: .string z.s.i :: .string z.s.r :: tuCs m := fun z m => by simp [tuCs, tuC]
    cases k with
    | zero => rw [List.set_cons_zero, e, e]; rfl
    | succ k =>
      rw [List.set_cons_succ, e, e, ← ih k (by simpa using hk)]
      have h1 : (k + 1) * 6 = k * 6 + 6 := by omega
      rw [h1]
      simp only [show ∀ a, k * 6 + 6 + a = k * 6 + a + 6 from fun a => by omega, List.set_cons_succ]
theorem Own.setTup {w : World} {B : Nat} {g n c : Nat} {l : List Tup} (h : Own w B 104 6 (.slice (some ⟨g, 0, none⟩) n c) (tuCs l)) (k : Nat) (x : Tup) (hk : k < l.length) : Own ((((((w.setCell ⟨g, k * 6, none⟩ (.string x.o.t)).setCell ⟨g, k * 6 + 1, none⟩ (.string x.o.i)).setCell ⟨g, k * 6 + 2, none⟩ (.string x.o.r)).setCell ⟨g, k * 6 + 3, none⟩ (.string x.s.t)).setCell ⟨g, k * 6 + 4, none⟩ (.string x.s.i)).setCell ⟨g, k * 6 + 5, none⟩ (.string x.s.r)) B 104 6 (.slice (some ⟨g, 0, none⟩) n c) (tuCs (l.set k x)) := by
  rw [← tuCs_set l k x hk]
  exact (((((h.setAtT _ _).setAtT _ _).setAtT _ _).setAtT _ _).setAtT _ _).setAtT _ _
theorem Own.tupAt {w : World} {B : Nat} {g n c : Nat} {l : List Tup} (h : Own w B 104 6 (.slice (some ⟨g, 0, none⟩) n c) (tuCs l)) (k : Nat) (hk : k < l.length) : w.cell? ⟨g, k * 6, none⟩ = some (.string l[k].o.t) ∧ w.cell? ⟨g, k * 6 + 1, none⟩ = some (.string l[k].o.i) ∧ w.cell? ⟨g, k * 6 + 2, none⟩ = some (.string l[k].o.r) ∧ w.cell? ⟨g, k * 6 + 3, none⟩ = some (.string l[k].s.t) ∧ w.cell? ⟨g, k * 6 + 4, none⟩ = some (.string l[k].s.i) ∧ w.cell? ⟨g, k * 6 + 5, none⟩ = some (.string l[k].s.r) := by
  obtain ⟨ao, c', he, -, -, hcell⟩ := Sl.rows tuC_length (by decide) (show Sl _ w 6 _ (l.flatMap tuC) from h.sl)
  cases he
  obtain ⟨b, off, he2, -, hcell⟩ := hcell (by omega)
  cases he2
  have hc := hcell k hk
  refine ⟨?_, ?_, ?_, ?_, ?_, ?_⟩
  · have := hc 0 _ rfl; simpa using this
  · have := hc 1 _ rfl; simpa using this
  · have := hc 2 _ rfl; simpa using this
  · have := hc 3 _ rfl; simpa using this
  · have := hc 4 _ rfl; simpa using this
  · have := hc 5 _ rfl; simpa using this
end Go.Proofs.YtjdigpfipmckhaaGreat
namespace Go.Proofs.YtjdigpfipmckhaaGreat
open Go Go.RowKit
theorem clearT {w : World} {B : Nat} {g n c : Nat} {R : List Tup} (h : Own w B 104 6 (.slice (some ⟨g, 0, none⟩) n c) (tuCs R)) (hn : n = R.length) (q : Nat) (hq : q < n) (ty : TypeId) (c' : Nat) :
    ∃ vs, (Builtin.clear_ #[25] ty #[.slice (some ⟨g, q * 6, none⟩) (n - q) c']).run Tryz.prog w = .ok (.tuple #[]) (w.setCells g (q * 6) vs) := by
  obtain ⟨cur, hcur⟩ := h.typed (g := g) rfl
  have hfr := Blk.free (show Blk w g cur 104 from hcur)
  obtain ⟨N, ho⟩ := h
  have hcells := ho.cells (g := g) rfl
  have hz := Tryz.zeroValue104
  refine ⟨(Builtin.zeroCells (Value.agg #[.string ⟨#[]⟩, .string ⟨#[]⟩, .string ⟨#[]⟩, .string ⟨#[]⟩, .string ⟨#[]⟩, .string ⟨#[]⟩]).cells (n - q)).toList, ?_⟩
  have hlen : (Builtin.zeroCells (Value.agg #[.string ⟨#[]⟩, .string ⟨#[]⟩, .string ⟨#[]⟩, .string ⟨#[]⟩, .string ⟨#[]⟩, .string ⟨#[]⟩]).cells (n - q)).toList.length = (n - q) * 6 := by
    simp [Builtin.zeroCells, Value.cells]
  have hst := run_storeCells_cells (P := Tryz.prog) g (q * 6) (Builtin.zeroCells (Value.agg #[.string ⟨#[]⟩, .string ⟨#[]⟩, .string ⟨#[]⟩, .string ⟨#[]⟩, .string ⟨#[]⟩, .string ⟨#[]⟩]).cells (n - q)).toList 0 w
    (fun j hj => by
      rw [hlen] at hj
      have hjl : q * 6 + j < (tuCs R).length := by rw [tuCs_length]; omega
      have := hcells (q * 6 + j) _ (List.getElem?_eq_getElem hjl)
      rw [Addr.add_lit, Nat.zero_add] at this
      simp only [Nat.add_zero]
      rw [this]
      rfl)
    (fun j hj => hfr _)
    (by
      intro v hv
      simp only [Builtin.zeroCells, Value.cells, Array.toList_map, Array.toList_range, List.mem_map, List.mem_range] at hv
      obtain ⟨i, hi, rfl⟩ := hv
      have : i % 6 < 6 := Nat.mod_lt _ (by decide)
      match i % 6, this with
      | 0, _ => rfl
      | 1, _ => rfl
      | 2, _ => rfl
      | 3, _ => rfl
      | 4, _ => rfl
      | 5, _ => rfl)
  simp only [Nat.add_zero] at hst
  obtain ⟨m, hm⟩ : ∃ m, n - q = m + 1 := ⟨n - q - 1, by omega⟩
  rw [hm] at hst ⊢
  simp [Builtin.clear_, run_underlying Tryz.underlying25, hz, hst]
end Go.Proofs.YtjdigpfipmckhaaGreat
namespace Go.Proofs.YtjdigpfipmckhaaGreat
open Go Go.RowKit
theorem wpList_store {P : Program} {ops : Array Oper} {Q : Exit → Act → World → Prop} {rest : List Oper} {a : Act} {w w' : World} {t ty : TypeId} {i j : Nat} {pos} {af} {x v : Value} (hA : a.eval (.tmp i) = x) (hV : a.eval (.tmp j) = v) (hrun : (Instr.storeAt t x v).run P w = .ok () w') (K : wpList P ops Q rest a w') : wpList P ops Q (⟨none, Op.store t (.tmp i) (.tmp j), ty, pos, af, none⟩ :: rest) a w :=
  wpList_plain rfl fun K' hK' => by
    unfold Oper.wp
    simp [execOp, hA, hV, hrun, Result.andThen]
    exact hK' _ _ K
theorem Kept.setMany {K : Nat → Prop} {w w' : World} (h : Kept K w w') {g : Nat} (hg : ¬ K g) (o : Nat) (vs : List Value) : Kept K w (w'.setCells g o vs) := by
  obtain ⟨h1, h2, h3, h4⟩ := setCells_fields g vs w' o
  exact h.trans ⟨h1, h2, h3, Nat.le_of_eq h4.symm, fun b hb => setCells_other g vs w' o fun e => hg (e ▸ hb)⟩
theorem wpList_clear {P : Program} {ops : Array Oper} {Q : Exit → Act → World → Prop} {rest : List Oper} {a : Act} {w w' : World} {t ty : TypeId} {i : Nat} {pos} {af} {v r : Value} (hV : a.eval (.tmp i) = v) (hrun : (Builtin.clear_ #[t] ty #[v]).run P w = .ok r w') (K : wpList P ops Q rest (a.put none r) w') : wpList P ops Q (⟨none, Op.call { callee := Callee.builtin Builtin.clear, args := #[.tmp i], argTypes := #[t] }, ty, pos, af, none⟩ :: rest) a w :=
  wpList_plain rfl fun K' hK' => by
    unfold Oper.wp
    simp [execOp, resolve, invoke, builtin, hV, hrun, Result.andThen]
    exact hK' _ _ K
end Go.Proofs.YtjdigpfipmckhaaGreat
namespace Go.Proofs.YtjdigpfipmckhaaGreat
open Go Go.RowKit
theorem dd_short {l : List Tup} (h : l.length < 2) : dd l = l := by
  unfold dd
  rw [ddN_same l _ (Nat.le_refl _) fun j h0 h1 => by omega, List.take_length]
set_option maxRecDepth 100000 in
set_option maxHeartbeats 2000000 in
theorem compactT_any {B : Nat} (v : Value) (l : List Tup) (w : World) (h : Own w B 104 6 v (tuCs l)) (hl : l.length ≤ 1099511627776) :
    Calls Tryz.prog 58 #[v] w fun e w' => ∃ v', e = .returned v' ∧ Own w' B 104 6 v' (tuCs (dd l)) ∧ Kept (fun b => b < w.heap.size ∧ v.ownBlock ≠ some b) w w' := by
  obtain ⟨ao, n, c, rfl, hn, hnc, hcm⟩ := h.sl.len
  obtain rfl : n = l.length := by rw [tuCs_length] at hn; omega
  have HL := Lib.hid hl
  have HO := Lib.hid h
  have hsh := h.shape
  clear h hn
  by_cases hlt : l.length < 2
  · have HD := Lib.hid (dd_short hlt)
    have hi : (l.length : Int) < 2 := by omega
    go_enter Tryz.func58, Tryz.ntmps58
    go_wp2_with fail
    go_ret
    exact ⟨_, rfl, by rw [HD.out]; exact HO.out, Kept.refl _ _⟩
  have hi : ¬ ((l.length : Int) < 2) := by omega
  obtain ⟨g, rfl⟩ : ∃ g, ao = some ⟨g, 0, none⟩ := by
    rcases hsh with ⟨h, _⟩ | ⟨g, n, c, h⟩
    · injection h with _ h _
      omega
    · exact ⟨g, by injection h⟩
  clear hsh
  have H2 := Lib.hid (show 2 ≤ l.length from by omega)
  go_enter Tryz.func58, Tryz.ntmps58
  go_wp2_with fail
  clear hi hlt
  go_loopw [3] (fun kv wr => ∃ m : Nat, kv = .int .i64 ((m + 1 : Nat) : Int) ∧ m + 1 ≤ l.length ∧ (∀ j, 0 < j → j < m + 1 → l[j]? ≠ l[j - 1]?) ∧ Own wr B 104 6 (.slice (some ⟨g, 0, none⟩) l.length c) (tuCs l) ∧ Kept (fun b => b < w.heap.size ∧ (Value.slice (some ⟨g, 0, none⟩) l.length c).ownBlock ≠ some b) w wr) (fun kv _ => l.length - (intOf kv).toNat)
  case atStart => exact ⟨0, rfl, by have := H2.out; omega, (fun j h0 h1 => by omega), HO.out, Kept.refl _ _⟩
  case round =>
    obtain ⟨m, rfl, hm, hne, ho, hk⟩ := hrel
    have RO := Lib.hid ho
    have RK := Lib.hid hk
    have RN := Lib.hid hne
    have hll := HL.out
    clear HO ho hk hne
    by_cases hlt : m + 1 < l.length
    · have HLT := Lib.hid hlt
      have hl0 : m < l.length := by omega
      have HNX := Lib.hid (show l[m + 1] ≠ l[m] → ∀ j, 0 < j → j < m + 2 → l[j]? ≠ l[j - 1]? from fun he j h0 h1 => by
        by_cases hj : j < m + 1
        · exact RN.out j h0 hj
        · obtain rfl : j = m + 1 := by omega
          rw [Nat.add_sub_cancel, List.getElem?_eq_getElem hlt, List.getElem?_eq_getElem hl0]
          exact fun e => he (by injection e))
      have HEQ := Lib.hid (show l[m + 1] = l[m] → l.take (m + 1) = ddN l (m + 2) from fun he => by
        rw [ddN, if_neg (by
          rintro (h | h)
          · omega
          · apply h
            rw [Nat.add_sub_cancel, List.getElem?_eq_getElem hlt, List.getElem?_eq_getElem hl0]
            exact congrArg some he), List.append_nil, ddN_same l (m + 1) hm RN.out])
      go_wp2_with fail
      obtain ⟨wd, hwd⟩ : ∃ y : World, y = wr.drew := ⟨_, rfl⟩
      have DO := Lib.hid (show Own wd B 104 6 (.slice (some ⟨g, 0, none⟩) l.length c) (tuCs l) from by rw [hwd]; exact RO.out.below (Ext.drew _))
      have DK := Lib.hid (show Kept (fun b => b < w.heap.size ∧ (Value.slice (some ⟨g, 0, none⟩) l.length c).ownBlock ≠ some b) w wd from by rw [hwd]; exact RK.out.drew)
      refine region_walkN (Ext wd) (by rw [← hwd]; exact Ext.refl _) (by kernel_rfl) (by kernel_rfl) (fun _ _ d _ _ h => by cases d <;> exact h) ?_
      rw [← hwd]
      clear hwd RO RK
      have k0 := fun W (hW : Ext wd W) => ((DO.out.below hW).tupAt (m + 1) hlt).1
      have k1 := fun W (hW : Ext wd W) => ((DO.out.below hW).tupAt (m + 1) hlt).2.1
      have k2 := fun W (hW : Ext wd W) => ((DO.out.below hW).tupAt (m + 1) hlt).2.2.1
      have k3 := fun W (hW : Ext wd W) => ((DO.out.below hW).tupAt (m + 1) hlt).2.2.2.1
      have k4 := fun W (hW : Ext wd W) => ((DO.out.below hW).tupAt (m + 1) hlt).2.2.2.2.1
      have k5 := fun W (hW : Ext wd W) => ((DO.out.below hW).tupAt (m + 1) hlt).2.2.2.2.2
      have j0 := fun W (hW : Ext wd W) => ((DO.out.below hW).tupAt m hl0).1
      have j1 := fun W (hW : Ext wd W) => ((DO.out.below hW).tupAt m hl0).2.1
      have j2 := fun W (hW : Ext wd W) => ((DO.out.below hW).tupAt m hl0).2.2.1
      have j3 := fun W (hW : Ext wd W) => ((DO.out.below hW).tupAt m hl0).2.2.2.1
      have j4 := fun W (hW : Ext wd W) => ((DO.out.below hW).tupAt m hl0).2.2.2.2.1
      have j5 := fun W (hW : Ext wd W) => ((DO.out.below hW).tupAt m hl0).2.2.2.2.2
      have hq := fun W => tup_eq l[m + 1] l[m] W
      generalize l[m + 1] = x at *
      generalize l[m] = y at *
      have hw1 : IntKind.i64.wrap (m : Int) = (m : Int) := IntWalk.i64_in _ (by omega)
      have hi1 : (m : Int) < (l.length : Int) := by omega
      have hi2 : ((m : Int) + 1) < (l.length : Int) := by omega
      have hi3 : (0 : Int) ≤ (m : Int) + 1 := by omega
      by_cases he : x = y
      · have HE2 := Lib.hid (HEQ.out he)
        subst he
        have hqt : ∀ W, (binOp BinOp.eql 104 (tV x) (tV x)).run Tryz.prog W = .ok (.bool true) W := fun W => by
          have := hq W
          rwa [decide_eq_true rfl] at this
        clear hq HEQ HNX
        obtain ⟨⟨x1, x2, x3⟩, ⟨x4, x5, x6⟩⟩ := x
        unfold tV at hqt
        dsimp only at hqt k0 k1 k2 k3 k4 k5 j0 j1 j2 j3 j4 j5
        (refine WalkN.tk [0, 1, 2, 3, 4, 5, 6, 7, 8, 9] ?_; (iterate 10 ((refine TkN.c _ ?_ (by simp only [gtA, gtS, gtZ]; rfl) (by kernel_rfl) (by kernel_rfl) (by rfl) (fun W hW => ?_) ?_; rotate_left; · (go_simp; try with_reducible rfl)); simp only [Act.put, puA, puZ, puS])); refine TkN.n ?_)
        refine WalkN.done (by kernel_rfl) ?_
        clear k0 k1 k2 k3 k4 k5 j0 j1 j2 j3 j4 j5 hqt hw1
        have hi4 : ((m : Int) + 1) ≤ (l.length : Int) := by omega
        have hi5 : m + 1 ≤ l.length := hm
        go_wp2_with fail
        clear hi1 hi2 hi3 hi4 hi5
        go_loopw [3, 5] (fun kv jv wr => ∃ (q a : Nat) (R : List Tup), kv = .int .i64 q ∧ jv = .int .i64 ((a + 1 : Nat) : Int) ∧ q ≤ m + 1 + a ∧ 1 ≤ q ∧ m + 1 + a + 1 ≤ l.length ∧ R.length = l.length ∧ R.take q = ddN l (m + 1 + a + 1) ∧ (∀ j, m + 1 + a ≤ j → R[j]? = l[j]?) ∧ Own wr B 104 6 (.slice (some ⟨g, 0, none⟩) l.length c) (tuCs R) ∧ Kept (fun b => b < w.heap.size ∧ (Value.slice (some ⟨g, 0, none⟩) l.length c).ownBlock ≠ some b) w wr) (fun _ jv _ => l.length - (intOf jv).toNat)
        case atStart => exact ⟨m + 1, 0, l, rfl, rfl, by omega, by omega, by have := HLT.out; omega, rfl, HE2.out, (fun _ _ => rfl), DO.out, DK.out⟩
        case round =>
          obtain ⟨q, a, R, rfl, rfl, hqp, hq1, hpl, hRl, hRt, hRj, ho2, hk2⟩ := hrel
          have QO := Lib.hid ho2
          have QK2 := Lib.hid hk2
          have QL := Lib.hid hRl
          have QT := Lib.hid hRt
          have QJ := Lib.hid hRj
          have QP := Lib.hid (And.intro hqp (And.intro hq1 hpl))
          clear DO DK ho2 hk2 hRl hRt hRj hqp hq1 HE2
          by_cases hlt2 : m + 1 + a + 1 < l.length
          · have HLT2 := Lib.hid hlt2
            have hRp : m + 1 + a + 1 < R.length := by rw [QL.out]; exact hlt2
            have hRq : m + 1 + a < R.length := by omega
            have hx : R[m + 1 + a + 1]? = l[m + 1 + a + 1]? := QJ.out _ (by omega)
            have hy : R[m + 1 + a]? = l[m + 1 + a]? := QJ.out _ (by omega)
            rw [List.getElem?_eq_getElem hRp] at hx
            rw [List.getElem?_eq_getElem hRq] at hy
            have HDN := Lib.hid (show ddN l (m + 1 + a + 1 + 1) = ddN l (m + 1 + a + 1) ++ (if R[m + 1 + a + 1] ≠ R[m + 1 + a] then [R[m + 1 + a + 1]] else []) from by
              rw [ddN, Nat.add_sub_cancel, ← hx, ← hy]
              congr 1
              by_cases he : R[m + 1 + a + 1] = R[m + 1 + a]
              · rw [if_neg (by rintro (h | h); · omega
                               · exact h (congrArg some he)), if_neg (fun h => h he)]
              · rw [if_pos (.inr fun h => he (by injection h)), if_pos he]
                rfl)
            clear hx hy
            have hii : ((a : Int) + 1) < ((l.length - (m + 1) : Nat) : Int) := by omega
            go_wp2_with fail
            obtain ⟨wd, hwd⟩ : ∃ y : World, y = wr.drew := ⟨_, rfl⟩
            have DO := Lib.hid (show Own wd B 104 6 (.slice (some ⟨g, 0, none⟩) l.length c) (tuCs R) from by rw [hwd]; exact QO.out.below (Ext.drew _))
            have DK := Lib.hid (show Kept (fun b => b < w.heap.size ∧ (Value.slice (some ⟨g, 0, none⟩) l.length c).ownBlock ≠ some b) w wd from by rw [hwd]; exact QK2.out.drew)
            refine region_walkN (Ext wd) (by rw [← hwd]; exact Ext.refl _) (by kernel_rfl) (by kernel_rfl) (fun _ _ d _ _ h => by cases d <;> exact h) ?_
            rw [← hwd]
            clear hwd QO QK2
            have hs1 : (m + 1 + a + 1) * 6 = (m + 1) * 6 + (a + 1) * 6 := by omega
            have hs2 : (m + 1 + a) * 6 = (m + 1) * 6 + a * 6 := by omega
            have KA := fun W (hW : Ext wd W) => (DO.out.below hW).tupAt (m + 1 + a + 1) hRp
            have JA := fun W (hW : Ext wd W) => (DO.out.below hW).tupAt (m + 1 + a) hRq
            simp only [hs1] at KA
            simp only [hs2] at JA
            have KB := Lib.hid (DO.out.tupAt (m + 1 + a + 1) hRp)
            rw [hs1] at KB
            have k0 := fun W hW => (KA W hW).1
            have k1 := fun W hW => (KA W hW).2.1
            have k2 := fun W hW => (KA W hW).2.2.1
            have k3 := fun W hW => (KA W hW).2.2.2.1
            have k4 := fun W hW => (KA W hW).2.2.2.2.1
            have k5 := fun W hW => (KA W hW).2.2.2.2.2
            have j0 := fun W hW => (JA W hW).1
            have j1 := fun W hW => (JA W hW).2.1
            have j2 := fun W hW => (JA W hW).2.2.1
            have j3 := fun W hW => (JA W hW).2.2.2.1
            have j4 := fun W hW => (JA W hW).2.2.2.2.1
            have j5 := fun W hW => (JA W hW).2.2.2.2.2
            clear KA JA hs1 hs2
            have hq := fun W => tup_neq R[m + 1 + a + 1] R[m + 1 + a] W
            have HSET := Lib.hid (fun w' (ho : Own w' B 104 6 (.slice (some ⟨g, 0, none⟩) l.length c) (tuCs R)) => ho.setTup q R[m + 1 + a + 1] (by have := QP.out.1; omega))
            have HTK := Lib.hid (show (R.set q R[m + 1 + a + 1]).take (q + 1) = R.take q ++ [R[m + 1 + a + 1]] from by
              have hql : q < R.length := by have := QP.out.1; omega
              rw [List.take_succ_eq_append_getElem (by simpa using hql), List.getElem_set_self, List.take_set_of_le (Nat.le_refl q)])
            have HJ2 := Lib.hid (show ∀ j, m + 1 + (a + 1) ≤ j → (R.set q R[m + 1 + a + 1])[j]? = l[j]? from fun j hj => by
              rw [List.getElem?_set_ne (by have := QP.out.1; omega)]
              exact QJ.out j (by omega))
            have hgen : ∃ x, x = R[m + 1 + a + 1] := ⟨_, rfl⟩
            generalize R[m + 1 + a + 1] = x at *
            generalize R[m + 1 + a] = y at *
            have hw1 : IntKind.i64.wrap (a : Int) = (a : Int) := IntWalk.i64_in _ (by omega)
            have hi1 : (a : Int) < ((l.length - (m + 1) : Nat) : Int) := by omega
            have hi3 : (0 : Int) ≤ (a : Int) + 1 := by omega
            have hqp := QP.out.1
            have hq1 := QP.out.2.1
            by_cases he : x = y
            · have HD2 := Lib.hid (show ddN l (m + 1 + a + 1 + 1) = ddN l (m + 1 + a + 1) from by rw [HDN.out, if_neg (fun h => h he), List.append_nil])
              subst he
              have hqt : ∀ W, (binOp BinOp.neq 104 (tV x) (tV x)).run Tryz.prog W = .ok (.bool false) W := fun W => by
                have := hq W
                rwa [decide_eq_false (fun h => h rfl)] at this
              clear hq HDN HSET HTK HJ2 KB hgen
              obtain ⟨⟨x1, x2, x3⟩, ⟨x4, x5, x6⟩⟩ := x
              unfold tV at hqt
              dsimp only at hqt k0 k1 k2 k3 k4 k5 j0 j1 j2 j3 j4 j5
              (refine WalkN.tk [0, 1, 2, 3, 4, 5, 6, 7, 8, 9] ?_; (iterate 10 ((refine TkN.c _ ?_ (by simp only [gtA, gtS, gtZ]; rfl) (by kernel_rfl) (by kernel_rfl) (by rfl) (fun W hW => ?_) ?_; rotate_left; · (go_simp; try with_reducible rfl)); simp only [Act.put, puA, puZ, puS])); refine TkN.n ?_)
              refine WalkN.done (by kernel_rfl) ?_
              clear k0 k1 k2 k3 k4 k5 j0 j1 j2 j3 j4 j5 hqt hw1 hi1 hi3 hii
              go_wp2_with fail
              go_roundw
              case rel => exact ⟨q, a + 1, R, rfl, by go_num, by omega, hq1, by have := HLT2.out; omega, QL.out, by rw [QT.out]; exact HD2.out.symm, (fun j hj => QJ.out j (by omega)), DO.out, DK.out⟩
              case measure => have := HLT2.out; simp [intOf]; omega
            · have HD2 := Lib.hid (show ddN l (m + 1 + a + 1 + 1) = ddN l (m + 1 + a + 1) ++ [x] from by rw [HDN.out, if_pos he])
              have hqt : ∀ W, (binOp BinOp.neq 104 (tV x) (tV y)).run Tryz.prog W = .ok (.bool true) W := fun W => by
                have := hq W
                rwa [decide_eq_true he] at this
              clear hq HDN hgen he
              obtain ⟨⟨x1, x2, x3⟩, ⟨x4, x5, x6⟩⟩ := x
              obtain ⟨⟨y1, y2, y3⟩, ⟨y4, y5, y6⟩⟩ := y
              unfold tV at hqt
              dsimp only at hqt k0 k1 k2 k3 k4 k5 j0 j1 j2 j3 j4 j5 KB HSET
              (refine WalkN.tk [0, 1, 2, 3, 4, 5, 6, 7, 8, 9] ?_; (iterate 10 ((refine TkN.c _ ?_ (by simp only [gtA, gtS, gtZ]; rfl) (by kernel_rfl) (by kernel_rfl) (by rfl) (fun W hW => ?_) ?_; rotate_left; · (go_simp; try with_reducible rfl)); simp only [Act.put, puA, puZ, puS])); refine TkN.n ?_)
              refine WalkN.done (by kernel_rfl) ?_
              clear k0 k1 k2 k3 k4 k5 j0 j1 j2 j3 j4 j5 hqt hw1
              obtain ⟨b0, b1, b2, b3, b4, b5⟩ := KB.out
              obtain ⟨cur, hcur⟩ := DO.out.typed (g := g) rfl
              have hfr := Blk.free (show Blk wd g cur 104 from hcur)
              obtain ⟨d0, d1, d2, d3, d4, d5⟩ := DO.out.tupAt q (by rw [QL.out]; omega)
              have hqi : (q : Int) < (l.length : Int) := by omega
              have hqi0 : (0 : Int) ≤ (q : Int) := by omega
              have hst := run_storeCells_cells (P := Tryz.prog) g (q * 6) [.string x1, .string x2, .string x3, .string x4, .string x5, .string x6] 0 wd (by
                intro j hj
                simp only [List.length_cons, List.length_nil] at hj
                match j, hj with
                | 0, _ => rw [show q * 6 + 0 + 0 = q * 6 from rfl, d0]; rfl
                | 1, _ => rw [show q * 6 + 0 + 1 = q * 6 + 1 from rfl, d1]; rfl
                | 2, _ => rw [show q * 6 + 0 + 2 = q * 6 + 2 from rfl, d2]; rfl
                | 3, _ => rw [show q * 6 + 0 + 3 = q * 6 + 3 from rfl, d3]; rfl
                | 4, _ => rw [show q * 6 + 0 + 4 = q * 6 + 4 from rfl, d4]; rfl
                | 5, _ => rw [show q * 6 + 0 + 5 = q * 6 + 5 from rfl, d5]; rfl) (fun j _ => hfr _) (by simp [Value.oneCell'])
              simp only [Nat.add_zero] at hst
              clear d0 d1 d2 d3 d4 d5 hfr hcur
              have hrun : (Instr.storeAt 104 (.pointer (some ⟨g, q * 6, none⟩)) (.agg #[.string x1, .string x2, .string x3, .string x4, .string x5, .string x6])).run Tryz.prog wd = .ok () (wd.setCells g (q * 6) [.string x1, .string x2, .string x3, .string x4, .string x5, .string x6]) := by
                simp [Instr.storeAt, Instr.sureAddr, asAddr, storeVar, Value.cells, Tryz.sizeOf104, hst, Result.andThen]
              have hsc : wd.setCells g (q * 6) [.string x1, .string x2, .string x3, .string x4, .string x5, .string x6] = (((((wd.setCell ⟨g, q * 6, none⟩ (.string x1)).setCell ⟨g, q * 6 + 1, none⟩ (.string x2)).setCell ⟨g, q * 6 + 2, none⟩ (.string x3)).setCell ⟨g, q * 6 + 3, none⟩ (.string x4)).setCell ⟨g, q * 6 + 4, none⟩ (.string x5)).setCell ⟨g, q * 6 + 5, none⟩ (.string x6) := by simp only [World.setCells, Nat.add_assoc, Nat.reduceAdd]
              obtain ⟨w8, hw8⟩ : ∃ y, y = wd.setCells g (q * 6) [.string x1, .string x2, .string x3, .string x4, .string x5, .string x6] := ⟨_, rfl⟩
              rw [← hw8] at hrun
              have HO8 := Lib.hid (show Own w8 B 104 6 (.slice (some ⟨g, 0, none⟩) l.length c) (tuCs (R.set q ⟨⟨x1, x2, x3⟩, ⟨x4, x5, x6⟩⟩)) from by rw [hw8, hsc]; exact HSET.out _ DO.out)
              have HK8 := Lib.hid (show Kept (fun b => b < w.heap.size ∧ (Value.slice (some ⟨g, 0, none⟩) l.length c).ownBlock ≠ some b) w w8 from by rw [hw8]; exact DK.out.setMany (g := g) (fun h => h.2 rfl) _ _)
              clear hst hsc hw8 HSET
              go_wp2_with ((with_reducible refine wpList_store (x := .pointer (some ⟨g, q * 6, none⟩)) (v := .agg #[.string x1, .string x2, .string x3, .string x4, .string x5, .string x6]) (w' := w8) ?hA ?hV ?hR ?hK); (case hA => rfl); (case hV => rfl); (case hR => exact hrun); clear b0 b1 b2 b3 b4 b5 hqi hqi0 hi1 hi3 hii hrun DO DK)
              go_roundw
              case rel => exact ⟨q + 1, a + 1, R.set q ⟨⟨x1, x2, x3⟩, ⟨x4, x5, x6⟩⟩, by go_num, by go_num, by omega, by omega, by have := HLT2.out; omega, by rw [List.length_set]; exact QL.out, by rw [HTK.out, QT.out]; exact HD2.out.symm, HJ2.out, HO8.out, HK8.out⟩
              case measure => have := HLT2.out; simp [intOf]; omega
          · have hpe : m + 1 + a + 1 = l.length := by omega
            rw [hpe] at QT
            have hii : ¬ (((a : Int) + 1) < ((l.length - (m + 1) : Nat) : Int)) := by omega
            have hqp := QP.out.1
            have hql : q < l.length := by omega
            have hqi : (q : Int) ≤ (l.length : Int) := by omega
            have hqi0 : (0 : Int) ≤ (q : Int) := by omega
            have hqc : q ≤ c := by omega
            have hcq : ¬ (c = q) := by omega
            obtain ⟨vs, hcl⟩ := clearT QO.out QL.out.symm q hql 0 (c - q)
            obtain ⟨w8, hw8⟩ : ∃ y, y = wr.setCells g (q * 6) vs := ⟨_, rfl⟩
            rw [← hw8] at hcl
            have HO8 := Lib.hid (show Own w8 B 104 6 (.slice (some ⟨g, 0, none⟩) q c) (tuCs (dd l)) from by
              have h1 := (Own.setMany vs (q * 6) QO.out).cutT (k := q) (Nat.le_of_lt hql)
              rw [setL_take _ _ _ _ (Nat.le_refl _), tuCs_take, QT.out] at h1
              rw [hw8]
              exact h1)
            have HK8 := Lib.hid (show Kept (fun b => b < w.heap.size ∧ (Value.slice (some ⟨g, 0, none⟩) l.length c).ownBlock ≠ some b) w w8 from by rw [hw8]; exact QK2.out.setMany (g := g) (fun h => h.2 rfl) _ _)
            clear hw8 hqp hlt2 QO QK2 QT hpe
            go_wp2_with ((with_reducible refine wpList_clear (v := .slice (some ⟨g, q * 6, none⟩) (l.length - q) (c - q)) (w' := w8) (r := .tuple #[]) ?hV ?hR ?hK); (case hV => rfl); (case hR => exact hcl); clear hcl)
            go_ret
            exact ⟨_, rfl, HO8.out, HK8.out⟩
      · have HN2 := Lib.hid (HNX.out he)
        have hqf : ∀ W, (binOp BinOp.eql 104 (tV x) (tV y)).run Tryz.prog W = .ok (.bool false) W := fun W => by
          have := hq W
          rwa [decide_eq_false he] at this
        clear hq HEQ HNX he
        obtain ⟨⟨x1, x2, x3⟩, ⟨x4, x5, x6⟩⟩ := x
        obtain ⟨⟨y1, y2, y3⟩, ⟨y4, y5, y6⟩⟩ := y
        unfold tV at hqf
        dsimp only at hqf k0 k1 k2 k3 k4 k5 j0 j1 j2 j3 j4 j5
        (refine WalkN.tk [0, 1, 2, 3, 4, 5, 6, 7, 8, 9] ?_; (iterate 10 ((refine TkN.c _ ?_ (by simp only [gtA, gtS, gtZ]; rfl) (by kernel_rfl) (by kernel_rfl) (by rfl) (fun W hW => ?_) ?_; rotate_left; · (go_simp; try with_reducible rfl)); simp only [Act.put, puA, puZ, puS])); refine TkN.n ?_)
        refine WalkN.done (by kernel_rfl) ?_
        clear k0 k1 k2 k3 k4 k5 j0 j1 j2 j3 j4 j5 hqf hw1 hi1 hi2 hi3
        go_wp2_with fail
        go_roundw
        case rel => exact ⟨m + 1, by go_num, by have := HLT.out; omega, HN2.out, DO.out, DK.out⟩
        case measure => have := HLT.out; simp [intOf]; omega
    · obtain hlen : m + 1 = l.length := by omega
      have HD := Lib.hid (show dd l = l from by
        unfold dd
        rw [ddN_same l _ (Nat.le_refl _) fun j h0 h1 => RN.out j h0 (by omega), List.take_length])
      go_wp2_with fail
      go_ret
      exact ⟨_, rfl, by rw [HD.out]; exact RO.out, RK.out⟩
end Go.Proofs.YtjdigpfipmckhaaGreat
