/- A region whose order is open, where several operations that make memory may come up at once: each order is walked, among the worlds of one class S. No condition: lemmas. -/
import Derived.Test.YtcbgemnmehoeaaaRegion
import Derived.Test.YtcbgemnmehoeaaaOwn
namespace Go.Proofs.Ytcbgemnmehoeaaa
open Go Go.RowKit

section
variable {P : Program} {ops : Array Oper} {Q : Exit → Act → World → Prop} {S : World → Prop}

/-- What is to be shown from here on: all have come up; or one is taken that yields the same in every world of S; or each that may come up is made, and the world stays in S. -/
def WalkN (P : Program) (ops : Array Oper) (Q : Exit → Act → World → Prop) (S : World → Prop) : Nat → Array Bool → Act → World → Prop
  | 0, l, a, w => Region.ready .any ops l = [] ∧ Q .normal a w
  | f + 1, l, a, w => (Region.ready .any ops l = [] ∧ Q .normal a w) ∨
      (∃ i o v, ops[i]? = some o ∧ Region.free .any ops l i = true ∧ (Region.ready .any ops l).contains i = true ∧ YieldsIf P ops S o v a ∧ WalkN P ops Q S f (l.setIfInBounds i true) (a.put o.dst v) w) ∨
      (Region.ready .any ops l ≠ [] ∧ ∀ i ∈ Region.ready .any ops l, ∃ o, ops[i]? = some o ∧ ∀ K' : Act → World → Prop, Shut (∀ a' w', S w' → WalkN P ops Q S f (l.setIfInBounds i true) a' w' → K' a' w') →
        if Region.wanted o (yielded ops a.tmps) = true then Oper.wp P o a w K' Q else K' (a.put o.dst undef) w)

theorem walkN_sound (hns : Region.noSelect ops = true) (hQ : ∀ c a d v w, Q (.panic c) (Act.put a d v) w → Q (.panic c) a w) :
    ∀ (f : Nat) (l : Array Bool) (a : Act) (w : World), S w → WalkN P ops Q S f l a w → wpAnyH P .any ops Q S f l a w
  | 0, l, a, w, _, h => wpAnyH_done h.1 h.2 0
  | f + 1, l, a, w, hs, h => by
    rcases h with ⟨h1, h2⟩ | ⟨i, o, v, ho, hf, hr, hy, h⟩ | ⟨hne, h⟩
    · exact wpAnyH_done h1 h2 _
    · exact wpAnyH_take ho hns hf hr (fun c a w => hQ c a _ _ w) hy hs (walkN_sound hns hQ f _ _ w hs h)
    · refine wpAnyH_all rfl hne (fun i hi => ?_)
      obtain ⟨o, ho, hst⟩ := h i hi
      exact wpOp_step ho (fun K' hK => hst K' (fun a' w' he hw => hK a' w' ⟨he, walkN_sound hns hQ f _ a' w' he hw⟩))

theorem region_walkN {id : Nat} {a : Act} {w : World} (S : World → Prop) (hS : S w.drew) (hm : P.follows .mixedOrders = true) (hns : Region.noSelect ops = true) (hQ : ∀ c a d v w, Q (.panic c) (Act.put a d v) w → Q (.panic c) a w)
    (h : WalkN P ops Q S ops.size (Array.replicate ops.size false) a w.drew) : (Code.region id ops true).wp P Q a w :=
  wp_region_held (S := S) hm (walkN_sound hns hQ _ _ a w.drew hS h)

theorem WalkN.done {f : Nat} {l : Array Bool} {a : Act} {w : World} (hr : Region.ready .any ops l = []) (h : Q .normal a w) : WalkN P ops Q S f l a w := by
  cases f
  · exact ⟨hr, h⟩
  · exact .inl ⟨hr, h⟩

theorem WalkN.take {f : Nat} {l : Array Bool} {a : Act} {w : World} (i : Nat) (o : Oper) (v : Value) (ho : ops[i]? = some o) (hf : Region.free .any ops l i = true) (hr : (Region.ready .any ops l).contains i = true)
    (hw : Region.wanted o (yielded ops a.tmps) = true) (hy : ∀ W, S W → (execOp a.eval o).run P W = .ok (.value v) W) (h : WalkN P ops Q S f (l.setIfInBounds i true) (a.put o.dst v) w) : WalkN P ops Q S (f + 1) l a w :=
  .inr (.inl ⟨i, o, v, ho, hf, hr, .inl ⟨hw, hy⟩, h⟩)

/-- What is owed for number i: it is made, and the walk goes on. -/
def MadeN (P : Program) (ops : Array Oper) (Q : Exit → Act → World → Prop) (S : World → Prop) (f : Nat) (l : Array Bool) (a : Act) (w : World) (i : Nat) : Prop :=
  ∃ o, ops[i]? = some o ∧ Region.wanted o (yielded ops a.tmps) = true ∧ ∀ K' : Act → World → Prop, Shut (∀ a' w', S w' → WalkN P ops Q S f (l.setIfInBounds i true) a' w' → K' a' w') → Oper.wp P o a w K' Q

theorem WalkN.one {f : Nat} {l : Array Bool} {a : Act} {w : World} (i : Nat) (hr : Region.ready .any ops l = [i]) (h : MadeN P ops Q S f l a w i) : WalkN P ops Q S (f + 1) l a w := by
  refine .inr (.inr ⟨by rw [hr]; simp, fun j hj => ?_⟩)
  rw [hr] at hj
  obtain rfl : j = i := by simpa using hj
  obtain ⟨o, ho, hw, h⟩ := h
  exact ⟨o, ho, fun K hK => by rw [if_pos hw]; exact h K hK⟩

theorem WalkN.two {f : Nat} {l : Array Bool} {a : Act} {w : World} (i j : Nat) (hr : Region.ready .any ops l = [i, j]) (h : MadeN P ops Q S f l a w i) (h' : MadeN P ops Q S f l a w j) : WalkN P ops Q S (f + 1) l a w := by
  refine .inr (.inr ⟨by rw [hr]; simp, fun k hk => ?_⟩)
  rw [hr] at hk
  have : k = i ∨ k = j := by simpa using hk
  rcases this with rfl | rfl
  · obtain ⟨o, ho, hw, h⟩ := h
    exact ⟨o, ho, fun K hK => by rw [if_pos hw]; exact h K hK⟩
  · obtain ⟨o, ho, hw, h⟩ := h'
    exact ⟨o, ho, fun K hK => by rw [if_pos hw]; exact h K hK⟩
end

/-- The law of append to a row of the call's own, for one operation. -/
theorem wp_own {P : Program} {w : World} {o : Oper} {a : Act} {K : Act → World → Prop} {Q : Exit → Act → World → Prop} {t e : TypeId} {size bytes : Nat} (E : ElemT P t e size bytes)
    (s x : Operand) (hop : o.op = Op.call { callee := Callee.builtin Builtin.append, args := #[s, x], argTypes := #[t, t] })
    {B : Nat} {v : Value} {xs : List Value} (hs : a.eval s = v) (hown : Own w B e size v xs) {T : Nat → Prop} {y : Value} {news : List Value} (hx : a.eval x = y) (hy : Sl T w size y news) (h1 : ∀ u ∈ news, u.oneCell' = true)
    (hlen : xs.length + news.length ≤ 9223372036854775807) (hbytes : (xs.length + news.length) * bytes ≤ 140737488355328) (hB : B ≤ w.heap.size)
    (h : ∀ v' w', Own w' B e size v' (xs ++ news) → Below B w w' → w.grownBy w' v.ownBlock → K (a.put o.dst v') w') : o.wp P a w K Q := by
  obtain ⟨hund, ⟨i, z, hi, hz, h4, h5, h6⟩, hpos⟩ := E
  obtain ⟨n, hown⟩ := hown
  obtain ⟨yo, m, c, rfl, hym, hmc, hcm, hyn, hyc⟩ := hy
  have e1 : ∀ k l : Nat, k ≤ l * size → l * size ≤ k → l ≤ k := fun k l _ hb => Nat.le_trans (Nat.le_mul_of_pos_right l hpos) hb
  have hnl : n ≤ xs.length := e1 _ _ (Nat.le_of_eq hown.1) (Nat.le_of_eq hown.1.symm)
  have hml : m ≤ news.length := e1 _ _ (Nat.le_of_eq hym) (Nat.le_of_eq hym.symm)
  have hb47 : (n + m) * bytes ≤ 140737488355328 := Nat.le_trans (Nat.mul_le_mul_right _ (by omega)) hbytes
  have fin : ∀ v' w', w'.ownsRow B e size v' (n + m) (xs ++ news) → w.grownBy w' v.ownBlock → K (a.put o.dst v') w' :=
    fun v' w' h0 h' => h v' w' ⟨_, h0⟩ ((Below.refl B w).grown h' hB (fun k hk => (hown.lt k hk).1)) h'
  cases yo with
  | some ad =>
    refine wp_append_own w s x t hop B e i z size bytes hund hi hz h4 h5 h6 hpos v n xs hs hown ad m c news hx hym (fun j u hu => ?_) h1 (by unfold maxLen; omega) hb47 hB (fun v' w' h h' _ => fin v' w' h h')
    obtain ⟨b, off, hbo, _, hcc⟩ := hyc (fun e => by subst e; simp at hu)
    cases hbo
    rw [Addr.add_lit]
    exact hcc j u hu
  | none =>
    have hc0 := hyn rfl
    obtain rfl : m = 0 := by omega
    obtain rfl : c = 0 := hc0
    obtain rfl : news = [] := List.eq_nil_of_length_eq_zero (by simpa using hym)
    have hrun := run_append_owned_none (P := P) w B t o.type e i size hund hi v n xs hown
    have := fin v w (by simpa using hown) ⟨rfl, rfl, rfl, Nat.le_refl _, fun _ _ _ => rfl⟩
    unfold Oper.wp
    simp [execOp, hop, resolve, invoke, builtin, hs, hx, hrun, Result.andThen]
    exact this

/-- A new row without room. -/
theorem Own.made (w : World) {B : Nat} (hB : B ≤ w.heap.size) (e : TypeId) (sz : Nat) : Own (w.alloc (.cells #[] e)) B e sz (.slice (some ⟨w.heap.size, 0, none⟩) 0 0) [] :=
  ⟨0, by simp, .inr ⟨w.heap.size, 0, #[], rfl, hB, heap_alloc_new w _, Nat.le_refl _, by unfold maxLen; omega, by simp, by simp⟩⟩

end Go.Proofs.Ytcbgemnmehoeaaa
