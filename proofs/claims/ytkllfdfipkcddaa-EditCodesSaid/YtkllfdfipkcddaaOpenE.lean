/- A version and an edit among the arguments, opened. No condition: lemmas. -/
import Derived.Test.YtkllfdfipkcddaaOpen
import Derived.Test.YtkllfdfipkcddaaEditD
import Derived.Test.YtkllfdfipkcddaaCodecA
import Derived.SizedLaws
import Derived.Lib.SmallJoins
namespace Go.Proofs.Ytkllfdfipkcddaa
open Go Go.RowKit Go.ChangeShapes Go.WideShapes Go.ChangeAt

theorem list5 {α : Type} {l : List α} (h : l.length = 5) : ∃ a b c d e, l = [a, b, c, d, e] := by
  obtain ⟨a, l, rfl⟩ := List.exists_cons_of_length_eq_add_one h
  obtain ⟨b, l, rfl⟩ := List.exists_cons_of_length_eq_add_one (by simpa using h : l.length = 3 + 1)
  obtain ⟨c, l, rfl⟩ := List.exists_cons_of_length_eq_add_one (by simpa using h : l.length = 2 + 1)
  obtain ⟨d, l, rfl⟩ := List.exists_cons_of_length_eq_add_one (by simpa using h : l.length = 1 + 1)
  obtain ⟨e, l, rfl⟩ := List.exists_cons_of_length_eq_add_one (by simpa using h : l.length = 0 + 1)
  obtain rfl := List.eq_nil_of_length_eq_zero (by simpa using h : l.length = 0)
  exact ⟨a, b, c, d, e, rfl⟩
theorem list6 {α : Type} {l : List α} (h : l.length = 6) : ∃ a b c d e f, l = [a, b, c, d, e, f] := by
  obtain ⟨a, l, rfl⟩ := List.exists_cons_of_length_eq_add_one h
  obtain ⟨b, c, d, e, f, rfl⟩ := list5 (by simpa using h : l.length = 5)
  exact ⟨a, b, c, d, e, f, rfl⟩

section
variable {H : Type} {enc : TypeId × Value → H}

/-- A row of elements, each of which reads as something, and the data it reads as. -/
theorem open_rowsD {P : Program} {w : World} {α : Type} (ec : α → List Value) (Q : α → DataW H → Prop) {t e : TypeId} {v : Value} {fuel0 : Nat} {y0 : DataW H × List MemPlace} {sz : Nat}
    (ht : P.underlying t = some (.slice e)) (hsz : P.cellsOf e = sz) (h : DataW.trod enc P w 0 (fun _ => true) true fuel0 t [v] = some y0)
    (hel : ∀ fuel cs y, DataW.trod enc P w 0 (fun _ => true) true fuel e cs = some y → ∃ a, cs = ec a ∧ Q a y.1) : ∃ l : List α, Sl (· < w.heap.size) w sz v (l.flatMap ec) ∧ ∀ a ∈ l, ∃ dd elems rest, Q a dd ∧ y0.1 = .slice elems rest ∧ dd ∈ elems := by
  have hv : ∃ a len cap, v = .slice a len cap := by
    rcases DataW.trod_slice ht h with ⟨hcs, _⟩ | ⟨a, len, cap, _, _, _, _, hcs, _⟩
    · exact ⟨none, 0, 0, by simpa using hcs⟩
    · exact ⟨some a, len, cap, by simpa using hcs⟩
  have hT : DataW.Trod enc P w 0 (fun _ => true) true t v y0.1 y0.2 := by
    obtain ⟨a, len, cap, rfl⟩ := hv
    exact ⟨fuel0, by simpa [Value.cells] using h⟩
  obtain ⟨xs, elems, fuel, hs, hl, he, hd⟩ := open_sl ht hv hT
  rw [hsz] at hs hl he
  have main : ∀ n, n ≤ elems.length → ∃ l : List α, xs.take (n * sz) = l.flatMap ec ∧ ∀ a ∈ l, ∃ y ∈ elems, Q a y.1 := by
    intro n
    induction n with
    | zero => intro _; exact ⟨[], by simp, by simp⟩
    | succ n ih =>
      intro hn
      obtain ⟨l, hl1, hl2⟩ := ih (by omega)
      obtain ⟨a, ha, hq⟩ := hel _ _ _ (he n elems[n] (List.getElem?_eq_getElem (by omega)))
      refine ⟨l ++ [a], ?_, fun b hb => ?_⟩
      · rw [Nat.add_mul, Nat.one_mul, List.take_add, hl1, ha, List.flatMap_append]
        simp
      · rcases List.mem_append.1 hb with hb | hb
        · exact hl2 b hb
        · obtain rfl : b = a := by simpa using hb
          exact ⟨_, List.getElem_mem (by omega), hq⟩
  obtain ⟨l, hl1, hl2⟩ := main elems.length (Nat.le_refl _)
  rw [← hl, List.take_length] at hl1
  refine ⟨l, hl1 ▸ hs, fun a ha => ?_⟩
  obtain ⟨y, hy, hq⟩ := hl2 a ha
  rcases hd with ⟨_, rfl⟩ | ⟨rest, hd⟩
  · cases hy
  · exact ⟨y.1, _, rest, hq, hd, List.mem_map.2 ⟨y, hy, rfl⟩⟩

theorem weightsAll_mem {P : Program} {e : TypeId} : ∀ {l : List (DataW H)} {d : DataW H}, d ∈ l → ∀ n ∈ d.weights P e, n ∈ DataW.weightsAll P e l
  | a :: l, d, hd, n, hn => by
    simp only [DataW.weightsAll, List.mem_append]
    rcases List.mem_cons.1 hd with rfl | hd
    · exact .inl hn
    · exact .inr (weightsAll_mem hd n hn)

/-- What a table's cells read as. -/
def TabQ (t : Tab) (d : DataW H) : Prop := I64 t.num ∧ I64 t.lvl ∧ I64 t.size ∧ ∃ y0 y1 y2, d = .agg [y0, y1, y2, .lit (.string t.first.data.toList), .lit (.string t.last.data.toList)]

theorem i64_of {n : Int} (h : (Lit.int .i64 n).wf = true) : I64 n := by
  have := bounds_i64 h
  unfold I64
  omega

theorem open_tab_cells {W : World} {fuel : Nat} {cs : List Value} {y : DataW H × List MemPlace} (hy : DataW.trod enc Try.prog W 0 (fun _ => true) true fuel 38 cs = some y) : ∃ x : Tab, cs = tC x ∧ TabQ x y.1 := by
  obtain ⟨xs, n, _, hx, hl, hlen, hf⟩ := DataW.trod_struct Try.underlying38 hy
  rw [show Try.prog.cellsOf 38 = 5 from by kernel_rfl] at hl
  obtain ⟨c0, c1, c2, c3, c4, rfl⟩ := list5 hl
  have h0 := hf 0 _ rfl
  have h1 := hf 1 _ rfl
  have h2 := hf 2 _ rfl
  have h3 := hf 3 _ rfl
  have h4 := hf 4 _ rfl
  obtain ⟨y0, y1, y2, y3, y4, rfl⟩ := list5 hlen
  obtain ⟨n0, e0, _, w0⟩ := DataW.trod_int Try.underlying3 h0
  obtain ⟨n1, e1, _, w1⟩ := DataW.trod_int Try.underlying3 h1
  obtain ⟨n2, e2, _, w2⟩ := DataW.trod_int Try.underlying3 h2
  obtain ⟨s3, e3, d3, _⟩ := DataW.trod_string Try.underlying9 h3
  obtain ⟨s4, e4, d4, _⟩ := DataW.trod_string Try.underlying9 h4
  have k0 : Try.prog.cellsOf 3 = 1 := by kernel_rfl
  have k1 : Try.prog.cellsOf 9 = 1 := by kernel_rfl
  simp [k0] at e0 e1 e2
  simp [k1] at e3 e4
  subst e0 e1 e2 e3 e4 d3 d4
  exact ⟨⟨n0, n1, n2, s3, s4⟩, rfl, i64_of w0, i64_of w1, i64_of w2, y0.1, y1.1, y2.1, by rw [hx]; rfl⟩

theorem tab_sizes {t : Tab} {d : DataW H} (hq : TabQ t d) (hw : ∀ n ∈ d.weights Try.prog 38, n ≤ reachBytes) : TabOk t := by
  obtain ⟨h1, h2, h3, y0, y1, y2, rfl⟩ := hq
  have hW : DataW.weights Try.prog 38 (.agg [y0, y1, y2, .lit (.string t.first.data.toList), .lit (.string t.last.data.toList)]) = DataW.weightsEach Try.prog [3, 3, 3, 9, 9] [y0, y1, y2, .lit (.string t.first.data.toList), .lit (.string t.last.data.toList)] := by
    rw [DataW.weights, Try.underlying38]
    rfl
  rw [hW] at hw
  have a3 := hw _ (DataW.weights_mem_each (j := 3) rfl rfl t.first.data.toList.length (by simp [DataW.weights]))
  have a4 := hw _ (DataW.weights_mem_each (j := 4) rfl rfl t.last.data.toList.length (by simp [DataW.weights]))
  rw [Array.length_toList] at a3 a4
  have := reachBytes_lt
  exact ⟨h1, h2, h3, by show t.first.data.size ≤ _; omega, by show t.last.data.size ≤ _; omega⟩

theorem open_int_cells {W : World} {fuel : Nat} {cs : List Value} {y : DataW H × List MemPlace} (hy : DataW.trod enc Try.prog W 0 (fun _ => true) true fuel 3 cs = some y) : ∃ n : Int, cs = [.int .i64 n] ∧ I64 n := by
  obtain ⟨n, e, _, w⟩ := DataW.trod_int Try.underlying3 hy
  exact ⟨n, e, i64_of w⟩
theorem ic_flat (l : List Int) : l.flatMap (fun n => [Value.int .i64 n]) = ic l := by
  induction l with
  | nil => rfl
  | cons a l ih => rw [List.flatMap_cons, ih]; rfl
theorem u64_of {n : Int} (h : (Lit.int .u64 n).wf = true) : ∃ q : Nat, n = q ∧ U64 q := by
  have := bounds_u64 h
  exact ⟨n.toNat, by omega, by unfold U64; omega⟩

variable {W : World} {base : Nat} {v : Value} {d : DataW H} {ps : List MemPlace}

theorem open_ver (hok : Value.okWide Try.prog W .any base 25 v) (h : DataW.Trod enc Try.prog W 0 (fun _ => true) true 25 v d ps) (hw : ∀ n ∈ d.weights Try.prog 25, n ≤ reachBytes) :
    ∃ (tv : Value) (x : Ver), v = vV tv x ∧ Sl (· < W.heap.size) W 5 tv (tcs x.tabs) ∧ x.Ok := by
  obtain ⟨ca, rfl, hsz⟩ := okWide_struct Try.underlying25 hok
  obtain ⟨fuel, hy⟩ := h
  obtain ⟨xs, n, _, hx, hl, hlen, hf⟩ := DataW.trod_struct Try.underlying25 hy
  rw [show Try.prog.cellsOf 25 = 5 from by kernel_rfl] at hl
  have h0 := hf 0 _ rfl
  have h1 := hf 1 _ rfl
  have h2 := hf 2 _ rfl
  have h3 := hf 3 _ rfl
  have h4 := hf 4 _ rfl
  obtain ⟨y0, y1, y2, y3, y4, rfl⟩ := list5 hlen
  have hca : (Value.agg ca).cells.toList = ca.toList := rfl
  rw [hca] at hl h0 h1 h2 h3 h4
  obtain ⟨c0, c1, c2, c3, c4, hc⟩ := list5 hl
  rw [hc] at h0 h1 h2 h3 h4
  have k0 : Try.prog.cellsOf 3 = 1 := by kernel_rfl
  have k1 : Try.prog.cellsOf 23 = 1 := by kernel_rfl
  have k2 : Try.prog.cellsOf 22 = 1 := by kernel_rfl
  simp [k2] at h0
  obtain ⟨n1, e1, _, w1⟩ := DataW.trod_int Try.underlying23 h1
  obtain ⟨n2, e2, _, w2⟩ := DataW.trod_int Try.underlying23 h2
  obtain ⟨n3, e3, _, w3⟩ := DataW.trod_int Try.underlying3 h3
  obtain ⟨n4, e4, _, w4⟩ := DataW.trod_int Try.underlying3 h4
  simp [k1] at e1 e2
  simp [k0] at e3 e4
  subst e1 e2 e3 e4
  obtain ⟨q1, rfl, hq1⟩ := u64_of w1
  obtain ⟨q2, rfl, hq2⟩ := u64_of w2
  obtain ⟨l, hs, hQ⟩ := open_rowsD tC TabQ Try.underlying22 (by kernel_rfl) h0 (fun _ _ _ hy => open_tab_cells hy)
  refine ⟨c0, ⟨l, q1, q2, n3, n4⟩, ?_, hs, fun t ht => ?_, i64_of w3, i64_of w4⟩
  · exact congrArg Value.agg (Array.toList_inj.1 hc)
  · obtain ⟨dd, elems, rest, hq, he, hm⟩ := hQ t ht
    refine tab_sizes hq (fun n hn => hw n ?_)
    obtain rfl := (Prod.mk.inj hx).1
    have hW : DataW.weights Try.prog 25 (.agg ([y0, y1, y2, y3, y4].map (·.1))) = DataW.weightsEach Try.prog [22, 23, 23, 3, 3] [y0.1, y1.1, y2.1, y3.1, y4.1] := by
      rw [DataW.weights, Try.underlying25]
      rfl
    rw [hW]
    refine DataW.weights_mem_each (j := 0) rfl rfl _ ?_
    rw [he, DataW.weights, Try.underlying22]
    simp only [List.mem_cons, List.mem_append]
    exact .inr (.inl (weightsAll_mem hm n hn))

theorem open_edit (hok : Value.okWide Try.prog W .any base 28 v) (h : DataW.Trod enc Try.prog W 0 (fun _ => true) true 28 v d ps) (hw : ∀ n ∈ d.weights Try.prog 28, n ≤ reachBytes) :
    ∃ (av dv : Value) (x : Edi), v = eV av dv x ∧ Sl (· < W.heap.size) W 5 av (tcs x.add) ∧ Sl (· < W.heap.size) W 1 dv (ic x.drop) ∧ x.Ok ∧ U64 x.floor ∧ U64 x.head := by
  obtain ⟨ca, rfl, hsz⟩ := okWide_struct Try.underlying28 hok
  obtain ⟨fuel, hy⟩ := h
  obtain ⟨xs, n, _, hx, hl, hlen, hf⟩ := DataW.trod_struct Try.underlying28 hy
  rw [show Try.prog.cellsOf 28 = 6 from by kernel_rfl] at hl
  have h0 := hf 0 _ rfl
  have h1 := hf 1 _ rfl
  have h2 := hf 2 _ rfl
  have h3 := hf 3 _ rfl
  have h4 := hf 4 _ rfl
  have h5 := hf 5 _ rfl
  obtain ⟨y0, y1, y2, y3, y4, y5, rfl⟩ := list6 hlen
  have hca : (Value.agg ca).cells.toList = ca.toList := rfl
  rw [hca] at hl h0 h1 h2 h3 h4 h5
  obtain ⟨c0, c1, c2, c3, c4, c5, hc⟩ := list6 hl
  rw [hc] at h0 h1 h2 h3 h4 h5
  have k0 : Try.prog.cellsOf 3 = 1 := by kernel_rfl
  have k1 : Try.prog.cellsOf 23 = 1 := by kernel_rfl
  have k2 : Try.prog.cellsOf 22 = 1 := by kernel_rfl
  have k3 : Try.prog.cellsOf 26 = 1 := by kernel_rfl
  simp [k2] at h0
  simp [k3] at h1
  obtain ⟨n2, e2, _, w2⟩ := DataW.trod_int Try.underlying23 h2
  obtain ⟨n3, e3, _, w3⟩ := DataW.trod_int Try.underlying23 h3
  obtain ⟨n4, e4, _, w4⟩ := DataW.trod_int Try.underlying3 h4
  obtain ⟨n5, e5, _, w5⟩ := DataW.trod_int Try.underlying3 h5
  simp [k1] at e2 e3
  simp [k0] at e4 e5
  subst e2 e3 e4 e5
  obtain ⟨q2, rfl, hq2⟩ := u64_of w2
  obtain ⟨q3, rfl, hq3⟩ := u64_of w3
  obtain ⟨l, hs, hQ⟩ := open_rowsD tC TabQ Try.underlying22 (by kernel_rfl) h0 (fun _ _ _ hy => open_tab_cells hy)
  obtain ⟨m, hsm, hQm⟩ := open_rowsD (fun n : Int => [Value.int .i64 n]) (fun n _ => I64 n) Try.underlying26 (by kernel_rfl) h1 (fun _ _ _ hy => open_int_cells hy)
  refine ⟨c0, c1, ⟨l, m, q2, q3, n4, n5⟩, ?_, hs, ic_flat m ▸ hsm, ⟨fun t ht => ?_, fun n hn => ?_, i64_of w4, i64_of w5⟩, hq2, hq3⟩
  · exact congrArg Value.agg (Array.toList_inj.1 hc)
  · obtain ⟨dd, elems, rest, hq, he, hm⟩ := hQ t ht
    refine tab_sizes hq (fun n hn => hw n ?_)
    obtain rfl := (Prod.mk.inj hx).1
    have hW : DataW.weights Try.prog 28 (.agg ([y0, y1, y2, y3, y4, y5].map (·.1))) = DataW.weightsEach Try.prog [22, 26, 23, 23, 3, 3] [y0.1, y1.1, y2.1, y3.1, y4.1, y5.1] := by
      rw [DataW.weights, Try.underlying28]
      rfl
    rw [hW]
    refine DataW.weights_mem_each (j := 0) rfl rfl _ ?_
    rw [he, DataW.weights, Try.underlying22]
    simp only [List.mem_cons, List.mem_append]
    exact .inr (.inl (weightsAll_mem hm n hn))
  · obtain ⟨_, _, _, hq, _⟩ := hQm n hn
    exact hq
end

end Go.Proofs.Ytkllfdfipkcddaa
