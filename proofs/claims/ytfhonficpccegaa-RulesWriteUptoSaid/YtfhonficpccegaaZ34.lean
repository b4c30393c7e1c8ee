/- A tuple among the arguments, opened. No condition: lemmas. -/
import Derived.Test.YtfhonficpccegaaZ31
import Derived.Test.YtfhonficpccegaaZ26
namespace Go.Proofs.Ytfhonficpccegaa
open Go Go.RowKit Go.ChangeShapes Go.WideShapes Go.ChangeAt

def pC4 (p : P3) : List Value := [.string p.t, .string p.i, .string p.r]
def tC4 (t : Tup) : List Value := [.string t.o.t, .string t.o.i, .string t.o.r, .string t.s.t, .string t.s.i, .string t.s.r]
section
variable {H : Type} {enc : TypeId × Value → H} {W : World} {base : Nat} {v : Value} {d : DataW H} {ps : List MemPlace}

set_option maxRecDepth 100000 in
theorem open_obj_cells {fuel : Nat} {cs : List Value} {y : DataW H × List MemPlace} (hy : DataW.trod enc Try.prog W 0 (fun _ => true) true fuel 33 cs = some y) : ∃ a b : ByteArray, cs = [.string a, .string b] ∧ a.size ≤ maxLen ∧ b.size ≤ maxLen := by
  obtain ⟨xs, n, _, _, hl, hlen, hf⟩ := DataW.trod_struct Try.underlying33 hy
  rw [show Try.prog.cellsOf 33 = 2 from by kernel_rfl] at hl
  obtain ⟨c0, c1, rfl⟩ : ∃ c0 c1, cs = [c0, c1] := by
    match cs, hl with
    | [c0, c1], _ => exact ⟨c0, c1, rfl⟩
  have h0 := hf 0 _ rfl
  have h1 := hf 1 _ rfl
  obtain ⟨y0, y1, rfl⟩ : ∃ y0 y1, xs = [y0, y1] := by
    match xs, hlen with
    | [y0, y1], _ => exact ⟨y0, y1, rfl⟩
  obtain ⟨a, e0, _, wa⟩ := DataW.trod_string Try.underlying9 h0
  obtain ⟨b, e1, _, wb⟩ := DataW.trod_string Try.underlying9 h1
  have k1 : Try.prog.cellsOf 9 = 1 := by kernel_rfl
  simp [k1] at e0 e1
  subst e0 e1
  exact ⟨a, b, rfl, wa, wb⟩

set_option maxRecDepth 100000 in
theorem open_sub_cells {fuel : Nat} {cs : List Value} {y : DataW H × List MemPlace} (hy : DataW.trod enc Try.prog W 0 (fun _ => true) true fuel 35 cs = some y) : ∃ p : P3, cs = pC4 p ∧ p.Ok := by
  obtain ⟨xs, n, _, _, hl, hlen, hf⟩ := DataW.trod_struct Try.underlying35 hy
  rw [show Try.prog.cellsOf 35 = 3 from by kernel_rfl] at hl
  obtain ⟨c0, c1, c2, rfl⟩ : ∃ c0 c1 c2, cs = [c0, c1, c2] := by
    match cs, hl with
    | [c0, c1, c2], _ => exact ⟨c0, c1, c2, rfl⟩
  have h0 := hf 0 _ rfl
  have h1 := hf 1 _ rfl
  obtain ⟨y0, y1, rfl⟩ : ∃ y0 y1, xs = [y0, y1] := by
    match xs, hlen with
    | [y0, y1], _ => exact ⟨y0, y1, rfl⟩
  have k0 : Try.prog.cellsOf 33 = 2 := by kernel_rfl
  have k1 : Try.prog.cellsOf 9 = 1 := by kernel_rfl
  obtain ⟨a, b, e0, wa, wb⟩ := open_obj_cells h0
  obtain ⟨c, e1, _, wc⟩ := DataW.trod_string Try.underlying9 h1
  simp [k0] at e0
  simp [k1] at e1
  obtain ⟨rfl, rfl⟩ := e0
  subst e1
  exact ⟨⟨a, b, c⟩, rfl, wa, wb, wc⟩

set_option maxRecDepth 100000 in
theorem open_tup_cells {fuel : Nat} {cs : List Value} {y : DataW H × List MemPlace} (hy : DataW.trod enc Try.prog W 0 (fun _ => true) true fuel 37 cs = some y) : ∃ t : Tup, cs = tC4 t ∧ t.Ok := by
  obtain ⟨xs, n, _, _, hl, hlen, hf⟩ := DataW.trod_struct Try.underlying37 hy
  rw [show Try.prog.cellsOf 37 = 6 from by kernel_rfl] at hl
  obtain ⟨c0, c1, c2, c3, c4, c5, rfl⟩ : ∃ c0 c1 c2 c3 c4 c5, cs = [c0, c1, c2, c3, c4, c5] := by
    match cs, hl with
    | [c0, c1, c2, c3, c4, c5], _ => exact ⟨c0, c1, c2, c3, c4, c5, rfl⟩
  have h0 := hf 0 _ rfl
  have h1 := hf 1 _ rfl
  have h2 := hf 2 _ rfl
  obtain ⟨y0, y1, y2, rfl⟩ : ∃ y0 y1 y2, xs = [y0, y1, y2] := by
    match xs, hlen with
    | [y0, y1, y2], _ => exact ⟨y0, y1, y2, rfl⟩
  have k0 : Try.prog.cellsOf 33 = 2 := by kernel_rfl
  have k1 : Try.prog.cellsOf 9 = 1 := by kernel_rfl
  have k2 : Try.prog.cellsOf 35 = 3 := by kernel_rfl
  obtain ⟨a, b, e0, wa, wb⟩ := open_obj_cells h0
  obtain ⟨c, e1, _, wc⟩ := DataW.trod_string Try.underlying9 h1
  obtain ⟨p, e2, wp⟩ := open_sub_cells h2
  simp [k0] at e0
  simp [k1] at e1
  simp [k2, pC4] at e2
  obtain ⟨rfl, rfl⟩ := e0
  obtain ⟨rfl, rfl, rfl⟩ := e2
  subst e1
  exact ⟨⟨⟨a, b, c⟩, p⟩, rfl, ⟨wa, wb, wc⟩, wp⟩

set_option maxRecDepth 100000 in
theorem open_tupV (hok : Value.okWide Try.prog W .any base 37 v) (h : DataW.Trod enc Try.prog W 0 (fun _ => true) true 37 v d ps) : ∃ t : Tup, v = tV t ∧ t.Ok := by
  obtain ⟨ca, rfl, _⟩ := okWide_struct Try.underlying37 hok
  obtain ⟨fuel, hy⟩ := h
  obtain ⟨t, hc, ht⟩ := open_tup_cells hy
  exact ⟨t, congrArg Value.agg (Array.toList_inj.1 hc), ht⟩
end

end Go.Proofs.Ytfhonficpccegaa
