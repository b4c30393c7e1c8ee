/- Tuples and rows of acts among the arguments, opened. No condition: lemmas. -/
import Derived.Test.YtcbgemnmehoeaaaOpen
import Derived.Test.YtcbgemnmehoeaaaFlatD
import Derived.SizedLaws
namespace Go.Proofs.Ytcbgemnmehoeaaa
open Go Go.RowKit Go.ChangeShapes Go.WideShapes Go.ChangeAt

/-- A row of elements, each of which reads as something. -/
theorem open_rows {H : Type} {enc : TypeId × Value → H} {P : Program} {w : World} {α : Type} (ec : α → List Value) (Q : α → Prop) {t e : TypeId} {v : Value} {d : DataW H} {ps : List MemPlace} {sz : Nat}
    (ht : P.underlying t = some (.slice e)) (hsz : P.cellsOf e = sz) (hv : ∃ a len cap, v = .slice a len cap) (h : DataW.Trod enc P w 0 (fun _ => true) true t v d ps)
    (hel : ∀ fuel cs y, DataW.trod enc P w 0 (fun _ => true) true fuel e cs = some y → ∃ a, cs = ec a ∧ Q a) : ∃ l : List α, Sl (· < w.heap.size) w sz v (l.flatMap ec) ∧ ∀ a ∈ l, Q a := by
  obtain ⟨xs, elems, fuel, hs, hl, he, _⟩ := open_sl ht hv h
  rw [hsz] at hs hl he
  have main : ∀ n, n ≤ elems.length → ∃ l : List α, xs.take (n * sz) = l.flatMap ec ∧ ∀ a ∈ l, Q a := by
    intro n
    induction n with
    | zero => intro _; exact ⟨[], by simp, by simp⟩
    | succ n ih =>
      intro hn
      obtain ⟨l, hl1, hl2⟩ := ih (by omega)
      obtain ⟨a, ha, hq⟩ := hel _ _ _ (he n elems[n] (List.getElem?_eq_getElem (by omega)))
      refine ⟨l ++ [a], ?_, fun b hb => ?_⟩
      · rw [Nat.add_mul, Nat.one_mul, List.take_add, hl1, ha, List.flatMap_append]
        simp
      · rcases List.mem_append.1 hb with hb | hb
        · exact hl2 b hb
        · obtain rfl : b = a := by simpa using hb
          exact hq
  obtain ⟨l, hl1, hl2⟩ := main elems.length (Nat.le_refl _)
  rw [← hl, List.take_length] at hl1
  exact ⟨l, hl1 ▸ hs, hl2⟩

/-- A tuple as cells; an act as cells. -/
def tC (t : Tup) : List Value := [.string t.o.t, .string t.o.i, .string t.o.r, .string t.s.t, .string t.s.i, .string t.s.r]
def aC (a : Bool × Tup) : List Value := .bool a.1 :: tC a.2

section
variable {H : Type} {enc : TypeId × Value → H} {W : World} {base : Nat} {v : Value} {d : DataW H} {ps : List MemPlace}

set_option maxRecDepth 100000 in
theorem open_obj_cells {fuel : Nat} {cs : List Value} {y : DataW H × List MemPlace} (hy : DataW.trod enc Try.prog W 0 (fun _ => true) true fuel 28 cs = some y) : ∃ a b : ByteArray, cs = [.string a, .string b] ∧ a.size ≤ maxLen ∧ b.size ≤ maxLen := by
  obtain ⟨xs, n, _, _, hl, hlen, hf⟩ := DataW.trod_struct Try.underlying28 hy
  rw [show Try.prog.cellsOf 28 = 2 from by kernel_rfl] at hl
  obtain ⟨c0, c1, rfl⟩ : ∃ c0 c1, cs = [c0, c1] := by
    match cs, hl with
    | [c0, c1], _ => exact ⟨c0, c1, rfl⟩
  have h0 := hf 0 _ rfl
  have h1 := hf 1 _ rfl
  obtain ⟨y0, y1, rfl⟩ : ∃ y0 y1, xs = [y0, y1] := by
    match xs, hlen with
    | [y0, y1], _ => exact ⟨y0, y1, rfl⟩
  obtain ⟨a, e0, _, wa⟩ := DataW.trod_string Try.underlying9 h0
  obtain ⟨b, e1, _, wb⟩ := DataW.trod_string Try.underlying9 h1
  have k1 : Try.prog.cellsOf 9 = 1 := by kernel_rfl
  simp [k1] at e0 e1
  subst e0 e1
  exact ⟨a, b, rfl, wa, wb⟩

set_option maxRecDepth 100000 in
theorem open_sub_cells {fuel : Nat} {cs : List Value} {y : DataW H × List MemPlace} (hy : DataW.trod enc Try.prog W 0 (fun _ => true) true fuel 30 cs = some y) : ∃ p : P3, cs = pC p ∧ p.Ok := by
  obtain ⟨xs, n, _, _, hl, hlen, hf⟩ := DataW.trod_struct Try.underlying30 hy
  rw [show Try.prog.cellsOf 30 = 3 from by kernel_rfl] at hl
  obtain ⟨c0, c1, c2, rfl⟩ : ∃ c0 c1 c2, cs = [c0, c1, c2] := by
    match cs, hl with
    | [c0, c1, c2], _ => exact ⟨c0, c1, c2, rfl⟩
  have h0 := hf 0 _ rfl
  have h1 := hf 1 _ rfl
  obtain ⟨y0, y1, rfl⟩ : ∃ y0 y1, xs = [y0, y1] := by
    match xs, hlen with
    | [y0, y1], _ => exact ⟨y0, y1, rfl⟩
  have k0 : Try.prog.cellsOf 28 = 2 := by kernel_rfl
  have k1 : Try.prog.cellsOf 9 = 1 := by kernel_rfl
  obtain ⟨a, b, e0, wa, wb⟩ := open_obj_cells h0
  obtain ⟨c, e1, _, wc⟩ := DataW.trod_string Try.underlying9 h1
  simp [k0] at e0
  simp [k1] at e1
  obtain ⟨rfl, rfl⟩ := e0
  subst e1
  exact ⟨⟨a, b, c⟩, rfl, wa, wb, wc⟩

set_option maxRecDepth 100000 in
theorem open_tup_cells {fuel : Nat} {cs : List Value} {y : DataW H × List MemPlace} (hy : DataW.trod enc Try.prog W 0 (fun _ => true) true fuel 32 cs = some y) : ∃ t : Tup, cs = tC t ∧ t.Ok := by
  obtain ⟨xs, n, _, _, hl, hlen, hf⟩ := DataW.trod_struct Try.underlying32 hy
  rw [show Try.prog.cellsOf 32 = 6 from by kernel_rfl] at hl
  obtain ⟨c0, c1, c2, c3, c4, c5, rfl⟩ : ∃ c0 c1 c2 c3 c4 c5, cs = [c0, c1, c2, c3, c4, c5] := by
    match cs, hl with
    | [c0, c1, c2, c3, c4, c5], _ => exact ⟨c0, c1, c2, c3, c4, c5, rfl⟩
  have h0 := hf 0 _ rfl
  have h1 := hf 1 _ rfl
  have h2 := hf 2 _ rfl
  obtain ⟨y0, y1, y2, rfl⟩ : ∃ y0 y1 y2, xs = [y0, y1, y2] := by
    match xs, hlen with
    | [y0, y1, y2], _ => exact ⟨y0, y1, y2, rfl⟩
  have k0 : Try.prog.cellsOf 28 = 2 := by kernel_rfl
  have k1 : Try.prog.cellsOf 9 = 1 := by kernel_rfl
  have k2 : Try.prog.cellsOf 30 = 3 := by kernel_rfl
  obtain ⟨a, b, e0, wa, wb⟩ := open_obj_cells h0
  obtain ⟨c, e1, _, wc⟩ := DataW.trod_string Try.underlying9 h1
  obtain ⟨p, e2, wp⟩ := open_sub_cells h2
  simp [k0] at e0
  simp [k1] at e1
  simp [k2, pC] at e2
  obtain ⟨rfl, rfl⟩ := e0
  obtain ⟨rfl, rfl, rfl⟩ := e2
  subst e1
  exact ⟨⟨⟨a, b, c⟩, p⟩, rfl, ⟨wa, wb, wc⟩, wp⟩

set_option maxRecDepth 100000 in
theorem open_act_cells {fuel : Nat} {cs : List Value} {y : DataW H × List MemPlace} (hy : DataW.trod enc Try.prog W 0 (fun _ => true) true fuel 34 cs = some y) : ∃ a : Bool × Tup, cs = aC a ∧ a.2.Ok := by
  obtain ⟨xs, n, _, _, hl, hlen, hf⟩ := DataW.trod_struct Try.underlying34 hy
  rw [show Try.prog.cellsOf 34 = 7 from by kernel_rfl] at hl
  obtain ⟨c0, c1, c2, c3, c4, c5, c6, rfl⟩ : ∃ c0 c1 c2 c3 c4 c5 c6, cs = [c0, c1, c2, c3, c4, c5, c6] := by
    match cs, hl with
    | [c0, c1, c2, c3, c4, c5, c6], _ => exact ⟨c0, c1, c2, c3, c4, c5, c6, rfl⟩
  have h0 := hf 0 _ rfl
  have h1 := hf 1 _ rfl
  obtain ⟨y0, y1, rfl⟩ : ∃ y0 y1, xs = [y0, y1] := by
    match xs, hlen with
    | [y0, y1], _ => exact ⟨y0, y1, rfl⟩
  have k0 : Try.prog.cellsOf 4 = 1 := by kernel_rfl
  have k1 : Try.prog.cellsOf 32 = 6 := by kernel_rfl
  obtain ⟨b, e0, _⟩ := DataW.trod_bool Try.underlying4 h0
  obtain ⟨t, e1, wt⟩ := open_tup_cells h1
  simp [k0] at e0
  simp [k1, tC] at e1
  obtain ⟨rfl, rfl, rfl, rfl, rfl, rfl⟩ := e1
  subst e0
  exact ⟨(b, t), rfl, wt⟩

set_option maxRecDepth 100000 in
theorem open_tupV (hok : Value.okWide Try.prog W .any base 32 v) (h : DataW.Trod enc Try.prog W 0 (fun _ => true) true 32 v d ps) : ∃ t : Tup, v = tV t ∧ t.Ok := by
  obtain ⟨ca, rfl, _⟩ := okWide_struct Try.underlying32 hok
  obtain ⟨fuel, hy⟩ := h
  obtain ⟨t, hc, ht⟩ := open_tup_cells hy
  exact ⟨t, congrArg Value.agg (Array.toList_inj.1 hc), ht⟩
set_option maxRecDepth 100000 in
theorem open_actsV (hok : Value.okWide Try.prog W .any base 22 v) (h : DataW.Trod enc Try.prog W 0 (fun _ => true) true 22 v d ps) : ∃ l : List (Bool × Tup), Sl (· < W.heap.size) W 7 v (l.flatMap aC) ∧ ∀ a ∈ l, a.2.Ok :=
  open_rows aC (fun a => a.2.Ok) Try.underlying22 (by kernel_rfl) (okWide_slice Try.underlying22 hok) h (fun _ _ _ hy => open_act_cells hy)
end

end Go.Proofs.Ytcbgemnmehoeaaa
