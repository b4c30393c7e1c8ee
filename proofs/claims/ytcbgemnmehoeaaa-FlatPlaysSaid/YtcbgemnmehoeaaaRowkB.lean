/- Parts of slices whose elements take several cells. No condition: lemmas. -/
import Derived.Test.YtcbgemnmehoeaaaRowk
import Derived.Test.YtcbgemnmehoeaaaRegionN
namespace Go.Proofs.Ytcbgemnmehoeaaa
open Go Go.RowKit

theorem Sl.dropK {S : Nat → Prop} {w : World} {ao : Option Addr} {n c sz : Nat} {xs : List Value} (h : Sl S w sz (.slice ao n c) xs) (k : Nat) (hk : k ≤ n) :
    Sl S w sz (.slice (Option.map (fun x => x.add (k * sz)) ao) (n - k) (c - k)) (xs.drop (k * sz)) := by
  obtain ⟨ao', n', c', hv, h1, h2, h3, h4, h5⟩ := h
  cases hv
  refine ⟨_, n - k, c - k, rfl, by rw [List.length_drop, h1, Nat.sub_mul], by omega, by omega, fun h => ?_, fun hne => ?_⟩
  · have := h4 (by simpa using h); omega
  · obtain ⟨b, off, rfl, hb, hc⟩ := h5 (fun e => hne (by simp [e]))
    refine ⟨b, off + k * sz, by simp [Addr.add_lit], hb, fun j u hu => ?_⟩
    rw [List.getElem?_drop] at hu
    rw [Nat.add_assoc]
    exact hc _ u hu

/-- A slice's tail: whatever the walk writes for its address where the cut stands at the capacity's end. -/
theorem Sl.tailK {S : Nat → Prop} {w : World} {ao ao' : Option Addr} {n c sz : Nat} {xs : List Value} (h : Sl S w sz (.slice ao n c) xs) (lo : Nat) (h1 : lo ≤ n) (hao : ¬ c = lo → ao' = Option.map (fun x => x.add (lo * sz)) ao) :
    Sl S w sz (.slice ao' (n - lo) (c - lo)) (xs.drop (lo * sz)) := by
  obtain ⟨_, _, _, hv, hl, hnc, _⟩ := h.len
  cases hv
  by_cases hc : c = lo
  · have e1 : n - lo = 0 := by omega
    have e2 : c - lo = 0 := by omega
    have e3 : xs.drop (lo * sz) = [] := List.drop_eq_nil_of_le (by rw [hl]; exact Nat.mul_le_mul_right sz (by omega))
    rw [e1, e2, e3]
    exact ⟨ao', 0, 0, rfl, by simp, Nat.le_refl _, Nat.zero_le _, fun _ => rfl, fun h => absurd rfl h⟩
  · rw [hao hc]
    exact h.dropK lo h1

theorem Own.base {w : World} {B B' : Nat} {e : TypeId} {sz : Nat} {v : Value} {xs : List Value} (h : Own w B e sz v xs) (hB : B' ≤ B) : Own w B' e sz v xs := by
  obtain ⟨n, h1, h2⟩ := h
  refine ⟨n, h1, ?_⟩
  rcases h2 with h2 | ⟨g, cap, cur, hv, hg, r⟩
  · exact .inl h2
  · exact .inr ⟨g, cap, cur, hv, Nat.le_trans hB hg, r⟩
theorem Own.shape {w : World} {B : Nat} {e : TypeId} {sz : Nat} {v : Value} {xs : List Value} (h : Own w B e sz v xs) : (v = .slice none 0 0 ∧ xs = []) ∨ ∃ g n c, v = .slice (some ⟨g, 0, none⟩) n c := by
  obtain ⟨n, h1, h2⟩ := h
  rcases h2 with ⟨rfl, h2⟩ | ⟨g, cap, cur, hv, _⟩
  · left
    refine ⟨rfl, List.eq_nil_of_length_eq_zero ?_⟩
    rw [h1, h2, Nat.zero_mul]
  · exact .inr ⟨g, n, cap, hv⟩
theorem Own.slU {w : World} {B : Nat} {e : TypeId} {sz : Nat} {v : Value} {xs : List Value} (h : Own w B e sz v xs) : Sl (· < w.heap.size) w sz v xs := h.sl.mono fun _ h => h.2

/-- The law of append to a row of the call's own, in the walk. -/
theorem wpList_own {P : Program} {w : World} {ops : Array Oper} {rest : List Oper} {o : Oper} {a : Act} {Q : Exit → Act → World → Prop} {t e : TypeId} {size bytes : Nat} (E : ElemT P t e size bytes)
    (hg : o.guard = none) (s x : Operand) (hop : o.op = Op.call { callee := Callee.builtin Builtin.append, args := #[s, x], argTypes := #[t, t] })
    {B : Nat} {v : Value} {xs : List Value} (hs : a.eval s = v) (hown : Own w B e size v xs) {T : Nat → Prop} {y : Value} {news : List Value} (hx : a.eval x = y) (hy : Sl T w size y news) (h1 : ∀ u ∈ news, u.oneCell' = true)
    (hlen : xs.length + news.length ≤ 9223372036854775807) (hbytes : (xs.length + news.length) * bytes ≤ 140737488355328) (hB : B ≤ w.heap.size)
    (K : ∀ v' w', Own w' B e size v' (xs ++ news) → Below B w w' → w.grownBy w' v.ownBlock → wpList P ops Q rest (a.put o.dst v') w') : wpList P ops Q (o :: rest) a w :=
  wpList_plain hg fun _ hK' => wp_own E s x hop hs hown hx hy h1 hlen hbytes hB fun v' w' h h' h'' => hK' _ _ (K v' w' h h' h'')

end Go.Proofs.Ytcbgemnmehoeaaa
