/- A row of tuples among the arguments, opened. No condition: lemmas. -/
import Derived.Test.YtipddhcfcehcaaaZ33
import Derived.Test.YtipddhcfcehcaaaZ32
namespace Go.Proofs.Ytipddhcfcehcaaa
open Go Go.RowKit Go.ChangeShapes Go.WideShapes Go.ChangeAt

/-- A row of elements, each of which reads as something. -/
theorem open_rowsT {H : Type} {enc : TypeId × Value → H} {P : Program} {w : World} {α : Type} (ec : α → List Value) (Q : α → Prop) {t e : TypeId} {v : Value} {d : DataW H} {ps : List MemPlace} {sz : Nat}
    (ht : P.underlying t = some (.slice e)) (hsz : P.cellsOf e = sz) (hv : ∃ a len cap, v = .slice a len cap) (h : DataW.Trod enc P w 0 (fun _ => true) true t v d ps)
    (hel : ∀ fuel cs y, DataW.trod enc P w 0 (fun _ => true) true fuel e cs = some y → ∃ a, cs = ec a ∧ Q a) : ∃ l : List α, Sl (· < w.heap.size) w sz v (l.flatMap ec) ∧ ∀ a ∈ l, Q a := by
  obtain ⟨xs, elems, fuel, hs, hl, he, _⟩ := open_sl ht hv h
  rw [hsz] at hs hl he
  have main : ∀ n, n ≤ elems.length → ∃ l : List α, xs.take (n * sz) = l.flatMap ec ∧ ∀ a ∈ l, Q a := by
    intro n
    induction n with
    | zero => intro _; exact ⟨[], by simp, by simp⟩
    | succ n ih =>
      intro hn
      obtain ⟨l, hl1, hl2⟩ := ih (by omega)
      obtain ⟨a, ha, hq⟩ := hel _ _ _ (he n elems[n] (List.getElem?_eq_getElem (by omega)))
      refine ⟨l ++ [a], ?_, fun b hb => ?_⟩
      · rw [Nat.add_mul, Nat.one_mul, List.take_add, hl1, ha, List.flatMap_append]
        simp
      · rcases List.mem_append.1 hb with hb | hb
        · exact hl2 b hb
        · obtain rfl : b = a := by simpa using hb
          exact hq
  obtain ⟨l, hl1, hl2⟩ := main elems.length (Nat.le_refl _)
  rw [← hl, List.take_length] at hl1
  exact ⟨l, hl1 ▸ hs, hl2⟩

theorem tuCs_flat (l : List Tup) : l.flatMap tC4 = tuCs l := by
  induction l with
  | nil => rfl
  | cons a l ih => rw [List.flatMap_cons, ih]; rfl

set_option maxRecDepth 100000 in
theorem open_tupsV {H : Type} {enc : TypeId × Value → H} {W : World} {base : Nat} {v : Value} {d : DataW H} {ps : List MemPlace} (hok : Value.okWide Try.prog W .any base 25 v) (h : DataW.Trod enc Try.prog W 0 (fun _ => true) true 25 v d ps) : ∃ l : List Tup, Sl (· < W.heap.size) W 6 v (tuCs l) ∧ ∀ t ∈ l, t.Ok := by
  obtain ⟨l, h1, h2⟩ := open_rowsT tC4 Tup.Ok Try.underlying25 (by kernel_rfl) (okWide_slice Try.underlying25 hok) h (fun fuel cs y hy => open_tup_cells hy)
  exact ⟨l, tuCs_flat l ▸ h1, h2⟩

end Go.Proofs.Ytipddhcfcehcaaa
