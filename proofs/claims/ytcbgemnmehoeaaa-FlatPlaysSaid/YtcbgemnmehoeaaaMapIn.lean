/- Ranges over a map held as pairs, inside a fence. No condition: lemmas. -/
import Derived.Test.YtcbgemnmehoeaaaMapB
import Derived.Sort.MapsRangeIn
namespace Go.Proofs.Ytcbgemnmehoeaaa
open Go Go.RowKit Go.Maps

section
variable {F : Fence} {n : Nat} {P : Program} (w : World) {ops : Array Oper} {rest : List Oper} {o : Oper} {a : Act} {Q : Exit → Act → World → Prop} {κ α : Type} {kv : κ → Value} {ev : α → Value} {b : Nat} {l : List (κ × α)}

/-- 'range m'. -/
theorem wpListIn_mp_range (hg : o.guard = none) (m : Operand) (t : TypeId) (hop : o.op = Op.range t m) {k e : TypeId} (ht : P.underlying t = some (.map k e)) (hm : a.eval m = .map (some b)) (h : Mp P k kv ev w b l)
    (hK : ∀ w', Rng P k kv ev w' b w.heap.size l l → Below w.heap.size w w' → w'.heap.size = w.heap.size + 1 → wpListIn F n P ops Q rest (a.put o.dst (.pointer (some ⟨w.heap.size, 0, none⟩))) w') : wpListIn F n P ops Q (o :: rest) a w := by
  refine wpListIn_plain hg fun K' hK' => ?_
  obtain ⟨w', hrun, h1, h2, h3⟩ := h.range ht
  unfold Oper.wpIn
  refine ⟨by simp [Oper.about, hop], ?_⟩
  rw [Oper.semAt_plain F _ _ (by rw [hop]; intro c hc'; cases hc')]
  simp [execOp, hop, hm, hrun, Result.andThen]
  exact hK' _ _ (hK w' h1 h2 h3)

/-- The range's step. -/
theorem wpListIn_mp_next (hg : o.guard = none) (it : Operand) (hop : o.op = Op.next it false) {k : TypeId} {r : Nat} {rem : List (κ × α)} (hit : a.eval it = .pointer (some ⟨r, 0, none⟩)) (h : Rng P k kv ev w b r l rem)
    (hDone : rem = [] → wpListIn F n P ops Q rest (a.put o.dst (.tuple #[.bool false])) w)
    (hMore : ∀ pre p post w', rem = pre ++ p :: post → Rng P k kv ev w' b r l (pre ++ post) → Kept (· ≠ r) w w' → w'.heap.size = w.heap.size → (Instr.entry (.pointer (some ⟨r, 0, none⟩))).run P w' = .ok (.tuple #[kv p.1, ev p.2]) w' →
      wpListIn F n P ops Q rest (a.put o.dst (.tuple #[.bool true, kv p.1, ev p.2])) w') : wpListIn F n P ops Q (o :: rest) a w := by
  refine wpListIn_plain hg fun K' hK' => ?_
  unfold Oper.wpIn
  refine ⟨by simp [Oper.about, hop], ?_⟩
  rw [Oper.semAt_plain F _ _ (by rw [hop]; intro c hc'; cases hc')]
  rcases h.next o.type with ⟨h0, hrun⟩ | ⟨pre, p, post, w', h0, hrun, h1, h2, h3, h4⟩
  · simp [execOp, hop, hit, hrun, Result.andThen]
    exact hK' _ _ (hDone h0)
  · simp [execOp, hop, hit, hrun, Result.andThen]
    exact hK' _ _ (hMore pre p post w' h0 h1 h2 h3 h4)
end

end Go.Proofs.Ytcbgemnmehoeaaa
