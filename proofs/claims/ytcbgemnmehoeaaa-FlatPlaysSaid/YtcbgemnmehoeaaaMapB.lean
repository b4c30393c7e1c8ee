/- Look-ups in maps, as the walk wants them. No condition: lemmas. -/
import Derived.Test.YtcbgemnmehoeaaaMap
namespace Go.Proofs.Ytcbgemnmehoeaaa
open Go Go.RowKit
open Go.Maps (Keyed)

variable {P : Program} (w : World) {ops : Array Oper} {rest : List Oper} {o : Oper} {a : Act} {Q : Exit → Act → World → Prop} {κ α : Type} {kv : κ → Value} {ev : α → Value} {b : Nat} {l : List (κ × α)}

/-- 'v, ok := m[k]' where the key is there, and where it isn't. -/
theorem wpList_mp_some [DecidableEq κ] (hg : o.guard = none) (m x : Operand) (t : TypeId) (hop : o.op = Op.lookup t m x true) {k e : TypeId} (K : Keyed P k) (inj : ∀ a b, kv a = kv b → a = b) (ht : P.underlying t = some (.map k e))
    {z : Value} (hz : (zeroValue e).run P w = .ok z w) (hm : a.eval m = .map (some b)) (h : Mp P k kv ev w b l) {y : κ} (hx : a.eval x = kv y) (hk : ∃ q, keyOf P k (kv y) = some q) {r : α} (hr : lookA l y = some r)
    (hK : wpList P ops Q rest (a.put o.dst (.tuple #[ev r, .bool true])) w) : wpList P ops Q (o :: rest) a w := wpList_mp_look w hg m x t hop K inj ht hz hm h hx hk hr hK
theorem wpList_mp_none [DecidableEq κ] (hg : o.guard = none) (m x : Operand) (t : TypeId) (hop : o.op = Op.lookup t m x true) {k e : TypeId} (K : Keyed P k) (inj : ∀ a b, kv a = kv b → a = b) (ht : P.underlying t = some (.map k e))
    {z : Value} (hz : (zeroValue e).run P w = .ok z w) (hm : a.eval m = .map (some b)) (h : Mp P k kv ev w b l) {y : κ} (hx : a.eval x = kv y) (hk : ∃ q, keyOf P k (kv y) = some q) (hr : lookA l y = none)
    (hK : wpList P ops Q rest (a.put o.dst (.tuple #[z, .bool false])) w) : wpList P ops Q (o :: rest) a w := wpList_mp_look w hg m x t hop K inj ht hz hm h hx hk hr hK
/-- 'm[k]' alone. -/
theorem wpList_mp_get [DecidableEq κ] (hg : o.guard = none) (m x : Operand) (t : TypeId) (hop : o.op = Op.lookup t m x false) {k e : TypeId} (K : Keyed P k) (inj : ∀ a b, kv a = kv b → a = b) (ht : P.underlying t = some (.map k e))
    {z : Value} (hz : (zeroValue e).run P w = .ok z w) (hm : a.eval m = .map (some b)) (h : Mp P k kv ev w b l) {y : κ} (hx : a.eval x = kv y) (hk : ∃ q, keyOf P k (kv y) = some q) {r : Value} (hr : (match lookA l y with | some u => ev u | none => z) = r)
    (hK : wpList P ops Q rest (a.put o.dst r) w) : wpList P ops Q (o :: rest) a w := wpList_mp_look w hg m x t hop K inj ht hz hm h hx hk rfl (by
      have : lookV false z ev (lookA l y) = r := by rw [← hr]; cases lookA l y <;> rfl
      rw [this]; exact hK)

theorem setUp {B b i : Nat} {w w' : World} (h : Below B w w') (hb : B ≤ b) (v : Value) : Below B w (w'.setCell ⟨b, i, none⟩ v) := h.setCell hb v

theorem set5_block {W : World} {B b i0 i1 i2 i3 i4 : Nat} {v0 v1 v2 v3 v4 : Value} (h : b ≠ B) :
    (((((W.setCell ⟨B, i0, none⟩ v0).setCell ⟨B, i1, none⟩ v1).setCell ⟨B, i2, none⟩ v2).setCell ⟨B, i3, none⟩ v3).setCell ⟨B, i4, none⟩ v4).heap[b]? = W.heap[b]? := by
  rw [Below.heap_setCell _ _ _ b h, Below.heap_setCell _ _ _ b h, Below.heap_setCell _ _ _ b h, Below.heap_setCell _ _ _ b h, Below.heap_setCell _ _ _ b h]

end Go.Proofs.Ytcbgemnmehoeaaa
