/- Rows of texts and of entries among the arguments, opened. No condition: lemmas. -/
import Derived.Test.YtcglegipdlaoiaaDoorOpenT
import Derived.Test.YtcglegipdlaoiaaDoorDropA
namespace Go.Proofs.YtcglegipdlaoiaaDoor
open Go Go.RowKit Go.ChangeShapes Go.WideShapes Go.ChangeAt

/-- A row of elements, each of which reads as something. -/
theorem open_rows {H : Type} {enc : TypeId × Value → H} {P : Program} {w : World} {α : Type} (ec : α → List Value) (Q : α → Prop) {t e : TypeId} {v : Value} {d : DataW H} {ps : List MemPlace} {sz : Nat}
    (ht : P.underlying t = some (.slice e)) (hsz : P.cellsOf e = sz) (hv : ∃ a len cap, v = .slice a len cap) (h : DataW.Trod enc P w 0 (fun _ => true) true t v d ps)
    (hel : ∀ fuel cs y, DataW.trod enc P w 0 (fun _ => true) true fuel e cs = some y → ∃ a, cs = ec a ∧ Q a) : ∃ l : List α, Sl (· < w.heap.size) w sz v (l.flatMap ec) ∧ ∀ a ∈ l, Q a := by
  obtain ⟨xs, elems, fuel, hs, hl, he, _⟩ := open_sl ht hv h
  rw [hsz] at hs hl he
  have main : ∀ n, n ≤ elems.length → ∃ l : List α, xs.take (n * sz) = l.flatMap ec ∧ ∀ a ∈ l, Q a := by
    intro n
    induction n with
    | zero => intro _; exact ⟨[], by simp, by simp⟩
    | succ n ih =>
      intro hn
      obtain ⟨l, hl1, hl2⟩ := ih (by omega)
      obtain ⟨a, ha, hq⟩ := hel _ _ _ (he n elems[n] (List.getElem?_eq_getElem (by omega)))
      refine ⟨l ++ [a], ?_, fun b hb => ?_⟩
      · rw [Nat.add_mul, Nat.one_mul, List.take_add, hl1, ha, List.flatMap_append]
        simp
      · rcases List.mem_append.1 hb with hb | hb
        · exact hl2 b hb
        · obtain rfl : b = a := by simpa using hb
          exact hq
  obtain ⟨l, hl1, hl2⟩ := main elems.length (Nat.le_refl _)
  rw [← hl, List.take_length] at hl1
  exact ⟨l, hl1 ▸ hs, hl2⟩

section
variable {H : Type} {enc : TypeId × Value → H} {W : World} {base : Nat} {v : Value} {d : DataW H} {ps : List MemPlace}

theorem sc_flat (l : List ByteArray) : l.flatMap (fun s => [Value.string s]) = sc l := by
  induction l with
  | nil => rfl
  | cons a l ih => rw [List.flatMap_cons, ih]; rfl

theorem open_strsV (hok : Value.okWide Tryd.prog W .any base 38 v) (h : DataW.Trod enc Tryd.prog W 0 (fun _ => true) true 38 v d ps) : ∃ l : List ByteArray, Sl (· < W.heap.size) W 1 v (sc l) ∧ ∀ k ∈ l, k.size ≤ 9223372036854775807 := by
  obtain ⟨l, h1, h2⟩ := open_rows (fun s : ByteArray => [Value.string s]) (fun k => k.size ≤ 9223372036854775807) Tryd.underlying38 (by kernel_rfl) (okWide_slice Tryd.underlying38 hok) h (fun fuel cs y hy => by
    obtain ⟨s, rfl, _, hs⟩ := DataW.trod_string Tryd.underlying9 hy
    exact ⟨s, rfl, by unfold maxLen at hs; omega⟩)
  exact ⟨l, sc_flat l ▸ h1, h2⟩

theorem open_entry_cells {fuel : Nat} {cs : List Value} {y : DataW H × List MemPlace} (hy : DataW.trod enc Tryd.prog W 0 (fun _ => true) true fuel 29 cs = some y) : ∃ x : Ent, cs = eC x ∧ U64 x.2.1 := by
  obtain ⟨xs, n, _, _, hl, hlen, hf⟩ := DataW.trod_struct Tryd.underlying29 hy
  rw [show Tryd.prog.cellsOf 29 = 3 from by kernel_rfl] at hl
  obtain ⟨c0, c1, c2, rfl⟩ : ∃ c0 c1 c2, cs = [c0, c1, c2] := by
    match cs, hl with
    | [c0, c1, c2], _ => exact ⟨c0, c1, c2, rfl⟩
  have h0 := hf 0 _ rfl
  have h1 := hf 1 _ rfl
  have h2 := hf 2 _ rfl
  obtain ⟨y0, y1, y2, rfl⟩ : ∃ y0 y1 y2, xs = [y0, y1, y2] := by
    match xs, hlen with
    | [y0, y1, y2], _ => exact ⟨y0, y1, y2, rfl⟩
  obtain ⟨k, e0, _⟩ := DataW.trod_string Tryd.underlying9 h0
  obtain ⟨r, e1, _, wr⟩ := DataW.trod_int Tryd.underlying23 h1
  obtain ⟨b, e2, _⟩ := DataW.trod_bool Tryd.underlying4 h2
  have k0 : Tryd.prog.cellsOf 9 = 1 := by kernel_rfl
  have k1 : Tryd.prog.cellsOf 23 = 1 := by kernel_rfl
  have k2 : Tryd.prog.cellsOf 4 = 1 := by kernel_rfl
  simp [k0] at e0
  simp [k1] at e1
  simp [k2] at e2
  subst e0 e1 e2
  have hb := bounds_u64 wr
  exact ⟨(k, r.toNat, b), by simp only [eC]; rw [show ((r.toNat : Nat) : Int) = r from by omega], by unfold U64; simp only; omega⟩

theorem open_entriesV (hok : Value.okWide Tryd.prog W .any base 44 v) (h : DataW.Trod enc Tryd.prog W 0 (fun _ => true) true 44 v d ps) : ∃ l : List Ent, Sl (· < W.heap.size) W 3 v (ec l) ∧ ∀ x ∈ l, U64 x.2.1 :=
  open_rows eC (fun x => U64 x.2.1) Tryd.underlying44 (by kernel_rfl) (okWide_slice Tryd.underlying44 hok) h (fun _ _ _ hy => open_entry_cells hy)

end

end Go.Proofs.YtcglegipdlaoiaaDoor
