/- The law of append where the row is the call's own, and stays so. No condition: lemmas. -/
import Derived.Test.YtcbgemnmehoeaaaBase
namespace Go.Proofs.Ytcbgemnmehoeaaa
open Go Go.RowKit

/-- A row of the call's own: it lies at B or above, or nowhere. -/
def Own (w : World) (B : Nat) (e : TypeId) (sz : Nat) (v : Value) (xs : List Value) : Prop := ∃ n, w.ownsRow B e sz v n xs

section
variable {w w' : World} {B : Nat} {e : TypeId} {sz : Nat} {v : Value} {xs : List Value}
theorem Own.nil (w : World) (B : Nat) (e : TypeId) (sz : Nat) : Own w B e sz (.slice none 0 0) [] := ⟨0, World.ownsRow_nil w B e sz⟩
theorem Own.app (h : Own w B e sz v xs) : App w B e sz v xs := .inl h
theorem Own.sl (h : Own w B e sz v xs) : Sl (fun b => B ≤ b ∧ b < w.heap.size) w sz v xs := by
  obtain ⟨n, h⟩ := h
  exact ownsRow_sl h _ (fun g hg => h.lt g hg)
theorem Own.keep (h : Own w B e sz v xs) (hs : ∀ b, B ≤ b → b < w.heap.size → w'.heap[b]? = w.heap[b]?) : Own w' B e sz v xs := by
  obtain ⟨n, h⟩ := h
  refine ⟨n, h.1, ?_⟩
  rcases h.2 with hn | ⟨g, cap, cur, rfl, hbg, hg, r⟩
  · exact .inl hn
  · exact .inr ⟨g, cap, cur, rfl, hbg, (hs g hbg (Array.getElem?_eq_some_iff.1 hg).1).trans hg, r⟩
theorem Own.below (h : Own w B e sz v xs) (hb : Below w.heap.size w w') : Own w' B e sz v xs := h.keep fun b _ hl => hb.block b hl
theorem Own.block (h : Own w B e sz v xs) : ∀ g, v.ownBlock = some g → B ≤ g ∧ g < w.heap.size := by
  obtain ⟨n, h⟩ := h
  exact fun g hg => h.lt g hg
end

theorem wpList_own_lit {P : Program} {w : World} {ops : Array Oper} {rest : List Oper} {o : Oper} {a : Act} {Q : Exit → Act → World → Prop} {t e : TypeId} {size bytes : Nat} (E : ElemT P t e size bytes)
    (hg : o.guard = none) (s x : Operand) (hop : o.op = Op.call { callee := Callee.builtin Builtin.append, args := #[s, x], argTypes := #[t, t] })
    {B : Nat} {v : Value} {xs : List Value} (hs : a.eval s = v) (hown : Own w B e size v xs) {cs : Array Value} {m : Nat} (hx : a.eval x = .slice (some ⟨w.heap.size, 0, none⟩) m m) (hm : cs.size = m * size) (h1 : ∀ u ∈ cs.toList, u.oneCell' = true)
    (hlen : xs.length + cs.size ≤ 9223372036854775807) (hbytes : (xs.length + cs.size) * bytes ≤ 140737488355328) (hB : B ≤ w.heap.size)
    (K : ∀ v' w', Own w' B e size v' (xs ++ cs.toList) → Below B w w' → w.grownBy w' v.ownBlock → wpList P ops Q rest (a.put o.dst v') w') : wpList P ops Q (o :: rest) a (w.alloc (.cells cs e)) := by
  obtain ⟨hund, ⟨i, z, hi, hz, h4, h5, h6⟩, hpos⟩ := E
  obtain ⟨n, hown⟩ := hown
  have e1 : ∀ k l : Nat, k ≤ l * size → l * size ≤ k → l ≤ k := fun k l _ hb => Nat.le_trans (Nat.le_mul_of_pos_right l hpos) hb
  have hnl : n ≤ xs.length := e1 _ _ (Nat.le_of_eq hown.1) (Nat.le_of_eq hown.1.symm)
  have hml : m ≤ cs.size := e1 _ _ (Nat.le_of_eq hm) (Nat.le_of_eq hm.symm)
  have hb47 : (n + m) * bytes ≤ 140737488355328 := Nat.le_trans (Nat.mul_le_mul_right _ (by omega)) hbytes
  refine wpList_append_own _ hg s x t hop B e i z size bytes hund hi hz h4 h5 h6 hpos v n xs hs (hown.alloc _) ⟨w.heap.size, 0, none⟩ m m cs.toList hx (by simpa using hm) (fun j u hu => ?_) h1 (by unfold maxLen; omega) hb47 (by simp; omega) (fun v' w' h h' _ => ?_)
  · rw [Addr.add_lit, cell_of_row _ w.heap.size (0 + j) cs e (0, 0) (heap_alloc_new w _)]
    simpa using hu
  · have hgr := grownBy_of_alloc h'
    exact K v' w' ⟨_, h⟩ ((Below.refl B w).grown hgr hB (fun k hk => (hown.lt k hk).1)) hgr

end Go.Proofs.Ytcbgemnmehoeaaa
