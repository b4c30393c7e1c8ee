/- Rows of rows of entries, and texts with their sizes, among the arguments, opened. No condition: lemmas. -/
import Derived.Test.YtcglegipdlaoiaaDoorOpenS
import Derived.Test.YtcglegipdlaoiaaDoorIterA
import Derived.SizedLaws
namespace Go.Proofs.YtcglegipdlaoiaaDoor
open Go Go.RowKit Go.ChangeShapes Go.WideShapes Go.ChangeAt

section
variable {H : Type} {enc : TypeId × Value → H}

/-- A row of elements, each of which reads as something, and the data it reads as. -/
theorem open_rowsW {P : Program} {w : World} {α : Type} (ec : α → List Value) (Q : α → DataW H → Prop) {t e : TypeId} {v : Value} {fuel0 : Nat} {y0 : DataW H × List MemPlace} {sz : Nat}
    (ht : P.underlying t = some (.slice e)) (hsz : P.cellsOf e = sz) (h : DataW.trod enc P w 0 (fun _ => true) true fuel0 t [v] = some y0)
    (hel : ∀ fuel cs y, DataW.trod enc P w 0 (fun _ => true) true fuel e cs = some y → ∃ a, cs = ec a ∧ Q a y.1) :
    ∃ l : List α, Sl (· < w.heap.size) w sz v (l.flatMap ec) ∧ (l = [] ∨ ∃ elems rest, y0.1 = .slice elems rest ∧ l.length = elems.length ∧ ∀ a ∈ l, ∃ dd ∈ elems, Q a dd) := by
  have hv : ∃ a len cap, v = .slice a len cap := by
    rcases DataW.trod_slice ht h with ⟨hcs, _⟩ | ⟨a, len, cap, _, _, _, _, hcs, _⟩
    · exact ⟨none, 0, 0, by simpa using hcs⟩
    · exact ⟨some a, len, cap, by simpa using hcs⟩
  have hT : DataW.Trod enc P w 0 (fun _ => true) true t v y0.1 y0.2 := by
    obtain ⟨a, len, cap, rfl⟩ := hv
    exact ⟨fuel0, by simpa [Value.cells] using h⟩
  obtain ⟨xs, elems, fuel, hs, hl, he, hd⟩ := open_sl ht hv hT
  rw [hsz] at hs hl he
  have main : ∀ n, n ≤ elems.length → ∃ l : List α, l.length = n ∧ xs.take (n * sz) = l.flatMap ec ∧ ∀ a ∈ l, ∃ y ∈ elems, Q a y.1 := by
    intro n
    induction n with
    | zero => intro _; exact ⟨[], rfl, by simp, by simp⟩
    | succ n ih =>
      intro hn
      obtain ⟨l, hl0, hl1, hl2⟩ := ih (by omega)
      obtain ⟨a, ha, hq⟩ := hel _ _ _ (he n elems[n] (List.getElem?_eq_getElem (by omega)))
      refine ⟨l ++ [a], by simp [hl0], ?_, fun b hb => ?_⟩
      · rw [Nat.add_mul, Nat.one_mul, List.take_add, hl1, ha, List.flatMap_append]
        simp
      · rcases List.mem_append.1 hb with hb | hb
        · exact hl2 b hb
        · obtain rfl : b = a := by simpa using hb
          exact ⟨_, List.getElem_mem (by omega), hq⟩
  obtain ⟨l, hl0, hl1, hl2⟩ := main elems.length (Nat.le_refl _)
  rw [← hl, List.take_length] at hl1
  refine ⟨l, hl1 ▸ hs, ?_⟩
  rcases hd with ⟨_, rfl⟩ | ⟨rest, hd⟩
  · exact .inl (List.eq_nil_of_length_eq_zero (by simpa using hl0))
  · refine .inr ⟨_, rest, hd, by simp [hl0], fun a ha => ?_⟩
    obtain ⟨y, hy, hq⟩ := hl2 a ha
    exact ⟨y.1, List.mem_map.2 ⟨y, hy, rfl⟩, hq⟩

theorem weightsAll_in {P : Program} {e : TypeId} : ∀ {l : List (DataW H)} {d : DataW H}, d ∈ l → ∀ n ∈ d.weights P e, n ∈ DataW.weightsAll P e l
  | a :: l, d, hd, n, hn => by
    simp only [DataW.weightsAll, List.mem_append]
    rcases List.mem_cons.1 hd with rfl | hd
    · exact .inl hn
    · exact .inr (weightsAll_in hd n hn)

variable {W : World} {base : Nat} {v : Value} {d : DataW H} {ps : List MemPlace}

theorem str_weight {s : ByteArray} {t : TypeId} (ht : Tryd.prog.underlying t = some .string) (h : DataW.Trod enc Tryd.prog W 0 (fun _ => true) true t (.string s) d ps) (hw : ∀ n ∈ d.weights Tryd.prog t, n ≤ reachBytes) : s.size ≤ 1000000000000000 := by
  obtain ⟨fuel, hy⟩ := h
  obtain ⟨s', e, hd, _⟩ := DataW.trod_string ht hy
  simp [Value.cells] at e
  subst e
  have hd1 : d = .lit (.string s.data.toList) := (Prod.mk.inj hd).1
  subst hd1
  have := hw s.data.toList.length (by simp [DataW.weights])
  rw [Array.length_toList] at this
  have := reachBytes_lt
  show s.data.size ≤ _
  omega

def EntQ (a : Value × List Ent) (W : World) (d : DataW H) : Prop := RowE W a.1 a.2 ∧ (∀ e ∈ a.2, U64 e.2.1) ∧ (a.2 = [] ∨ ∃ elems rest, d = .slice elems rest ∧ a.2.length = elems.length)

theorem open_rowE_cells {fuel : Nat} {cs : List Value} {y : DataW H × List MemPlace} (hy : DataW.trod enc Tryd.prog W 0 (fun _ => true) true fuel 44 cs = some y) : ∃ a : Value × List Ent, cs = [a.1] ∧ EntQ a W y.1 := by
  have hv : ∃ u, cs = [u] := by
    rcases DataW.trod_slice Tryd.underlying44 hy with ⟨hcs, _⟩ | ⟨a, len, cap, _, _, _, _, hcs, _⟩
    · exact ⟨_, hcs⟩
    · exact ⟨_, hcs⟩
  obtain ⟨u, rfl⟩ := hv
  obtain ⟨l, hs, hq⟩ := open_rowsW eC (fun x _ => U64 x.2.1) Tryd.underlying44 (by kernel_rfl) hy (fun fuel cs y hy => open_entry_cells hy)
  refine ⟨(u, l), rfl, hs, fun e he => ?_, ?_⟩
  · rcases hq with rfl | ⟨elems, rest, _, _, h⟩
    · cases he
    · obtain ⟨_, _, h⟩ := h e he; exact h
  · rcases hq with rfl | ⟨elems, rest, h1, h2, _⟩
    · exact .inl rfl
    · exact .inr ⟨elems, rest, h1, h2⟩

theorem each_of {α : Type} {R : World → Value → α → Prop} {S : Nat → Prop} {w : World} {v : Value} {l : List (Value × α)} (h : Sl S w 1 v (l.flatMap fun a => [a.1])) (hR : ∀ a ∈ l, R w a.1 a.2) : Each R S w v (l.map (·.2)) := by
  refine ⟨l.map (·.1), ?_, by simp, fun i hi hi' => ?_⟩
  · have : (l.flatMap fun a => [a.1]) = l.map (·.1) := by
      clear h hR
      induction l with
      | nil => rfl
      | cons a l ih => rw [List.flatMap_cons, ih]; rfl
    rwa [this] at h
  · simp only [List.getElem_map]
    exact hR _ (List.getElem_mem _)

theorem open_rwsEV (hok : Value.okWide Tryd.prog W .any base 22 v) (h : DataW.Trod enc Tryd.prog W 0 (fun _ => true) true 22 v d ps) (hw : ∀ n ∈ d.weights Tryd.prog 22, n ≤ reachBytes) :
    ∃ ls : List (List Ent), RwsE W v ls ∧ (∀ l ∈ ls, l.length ≤ 4398046511104) ∧ ∀ l ∈ ls, ∀ e ∈ l, U64 e.2.1 := by
  obtain ⟨a, len, cap, rfl⟩ := okWide_slice Tryd.underlying22 hok
  obtain ⟨fuel, hy⟩ := h
  have hy' : DataW.trod enc Tryd.prog W 0 (fun _ => true) true fuel 22 [.slice a len cap] = some (d, ps) := by simpa [Value.cells] using hy
  obtain ⟨l, hs, hq⟩ := open_rowsW (fun a : Value × List Ent => [a.1]) (fun a d => EntQ a W d) Tryd.underlying22 (by kernel_rfl) hy' (fun fuel cs y hy => open_rowE_cells hy)
  have hall : ∀ a ∈ l, RowE W a.1 a.2 ∧ (∀ e ∈ a.2, U64 e.2.1) ∧ a.2.length ≤ 4398046511104 := by
    intro a ha
    rcases hq with rfl | ⟨elems, rest, hd, _, h⟩
    · cases ha
    · obtain ⟨dd, hm, h1, h2, h3⟩ := h a ha
      refine ⟨h1, h2, ?_⟩
      rcases h3 with h3 | ⟨els, rst, rfl, h3⟩
      · rw [h3]; simp
      · have hb : Tryd.prog.bytesOf 29 = 32 := by kernel_rfl
        dsimp only at hd
        have := hw ((els.length + rst.length) * 32) (by
          rw [hd, DataW.weights, Tryd.underlying22]
          simp only [List.mem_cons, List.mem_append]
          refine .inr (.inl (weightsAll_in hm _ ?_))
          rw [DataW.weights, Tryd.underlying44]
          simp [hb])
        have := reachBytes_lt
        omega
  refine ⟨l.map (·.2), each_of hs fun a ha => (hall a ha).1, fun r hr => ?_, fun r hr => ?_⟩
  · obtain ⟨a, ha, rfl⟩ := List.mem_map.1 hr; exact (hall a ha).2.2
  · obtain ⟨a, ha, rfl⟩ := List.mem_map.1 hr; exact (hall a ha).2.1

theorem open_strzV (hok : Value.okWide Tryd.prog W .any base 9 v) (h : DataW.Trod enc Tryd.prog W 0 (fun _ => true) true 9 v d ps) (hw : ∀ n ∈ d.weights Tryd.prog 9, n ≤ reachBytes) : ∃ s : ByteArray, v = .string s ∧ s.size ≤ 1000000000000000 := by
  obtain ⟨s, rfl, _⟩ := open_strV hok h
  exact ⟨s, rfl, str_weight Tryd.underlying9 h hw⟩

theorem open_intV (hok : Value.okWide Tryd.prog W .any base 3 v) (h : DataW.Trod enc Tryd.prog W 0 (fun _ => true) true 3 v d ps) : ∃ n : Int, v = .int .i64 n := by
  obtain ⟨x, rfl, _⟩ := open_int Tryd.underlying3 hok h
  exact ⟨x, rfl⟩
end

end Go.Proofs.YtcglegipdlaoiaaDoor
