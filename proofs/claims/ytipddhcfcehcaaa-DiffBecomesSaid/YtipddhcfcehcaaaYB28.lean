/- Lemmas for the claim, no condition. -/
import Derived.Test.YtipddhcfcehcaaaYB18
import Derived.Test.YtipddhcfcehcaaaYB16
namespace Go.Proofs.Ytipddhcfcehcaaa
open Go Go.RowKit Go.ChangeShapes Go.WideShapes Go.ChangeAt

section
variable {H : Type} {enc : TypeId × Value → H} {W : World} {base : Nat} {v : Value} {d : DataW H} {ps : List MemPlace}

set_option maxRecDepth 100000 in
theorem open_ref_cells2 {fuel : Nat} {cs : List Value} {y : DataW H × List MemPlace} (hy : DataW.trod enc Try.prog W 0 (fun _ => true) true fuel 61 cs = some y) : ∃ a b : ByteArray, cs = [.string a, .string b] := by
  obtain ⟨xs, n, _, _, hl, hlen, hf⟩ := DataW.trod_struct Try.underlying61 hy
  rw [show Try.prog.cellsOf 61 = 2 from by kernel_rfl] at hl
  obtain ⟨c0, c1, rfl⟩ : ∃ c0 c1, cs = [c0, c1] := by
    match cs, hl with
    | [c0, c1], _ => exact ⟨c0, c1, rfl⟩
  have h0 := hf 0 _ rfl
  have h1 := hf 1 _ rfl
  obtain ⟨y0, y1, rfl⟩ : ∃ y0 y1, xs = [y0, y1] := by
    match xs, hlen with
    | [y0, y1], _ => exact ⟨y0, y1, rfl⟩
  obtain ⟨a, e0, _, wa⟩ := DataW.trod_string Try.underlying9 h0
  obtain ⟨b, e1, _, wb⟩ := DataW.trod_string Try.underlying9 h1
  have k1 : Try.prog.cellsOf 9 = 1 := by kernel_rfl
  simp [k1] at e0 e1
  subst e0 e1
  exact ⟨a, b, rfl⟩

set_option maxRecDepth 100000 in
theorem open_change_cells {fuel : Nat} {cs : List Value} {y : DataW H × List MemPlace} (hy : DataW.trod enc Try.prog W 0 (fun _ => true) true fuel 63 cs = some y) : ∃ (k : Int) (a b : ByteArray), cs = [.int .i64 k, .string a, .string b] := by
  obtain ⟨xs, n, _, _, hl, hlen, hf⟩ := DataW.trod_struct Try.underlying63 hy
  rw [show Try.prog.cellsOf 63 = 3 from by kernel_rfl] at hl
  obtain ⟨c0, c1, c2, rfl⟩ : ∃ c0 c1 c2, cs = [c0, c1, c2] := by
    match cs, hl with
    | [c0, c1, c2], _ => exact ⟨c0, c1, c2, rfl⟩
  have h0 := hf 0 _ rfl
  have h1 := hf 1 _ rfl
  obtain ⟨y0, y1, rfl⟩ : ∃ y0 y1, xs = [y0, y1] := by
    match xs, hlen with
    | [y0, y1], _ => exact ⟨y0, y1, rfl⟩
  obtain ⟨k, e0, _⟩ := DataW.trod_int Try.underlying3 h0
  have k1 : Try.prog.cellsOf 3 = 1 := by kernel_rfl
  have k2 : Try.prog.cellsOf 61 = 2 := by kernel_rfl
  obtain ⟨a, b, e1⟩ := open_ref_cells2 h1
  simp [k1, k2] at e0 e1
  obtain ⟨e1, e2⟩ := e1
  subst e0 e1 e2
  exact ⟨k, a, b, rfl⟩
set_option maxRecDepth 100000 in
theorem open_changeV (hok : Value.okWide Try.prog W .any base 63 v) (h : DataW.Trod enc Try.prog W 0 (fun _ => true) true 63 v d ps) : ∃ c : Ch, v = chV c := by
  obtain ⟨ca, rfl, _⟩ := okWide_struct Try.underlying63 hok
  obtain ⟨fuel, hy⟩ := h
  obtain ⟨k, a, b, hc⟩ := open_change_cells hy
  exact ⟨⟨k, ⟨a, b⟩⟩, congrArg Value.agg (Array.toList_inj.1 hc)⟩
end

end Go.Proofs.Ytipddhcfcehcaaa
