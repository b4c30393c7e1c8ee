/- How an argument's reading as data gives what a slice holds in memory; and what a law's row asks behind the call. No condition: lemmas. -/
import Derived.Test.YtcbgemnmehoeaaaBase
import Derived.ProofKit
import Derived.OpenShut
namespace Go.Proofs.Ytcbgemnmehoeaaa
open Go Go.RowKit Go.ChangeShapes Go.WideShapes Go.ChangeAt

section
variable {H : Type} {enc : TypeId × Value → H} {P : Program} {w : World}

theorem mapM_some {α β : Type} {f : α → Option β} : ∀ {l : List α} {r : List β}, l.mapM f = some r → r.length = l.length ∧ ∀ (i : Nat) (x : α), l[i]? = some x → f x = r[i]? := by
  intro l
  induction l with
  | nil => intro r h; simp at h; subst h; exact ⟨rfl, by simp⟩
  | cons a l ih =>
    intro r h
    simp only [List.mapM_cons, Option.bind_eq_bind, Option.bind_eq_some_iff, Option.pure_def, Option.some.injEq] at h
    obtain ⟨b, hb, bs, hbs, rfl⟩ := h
    obtain ⟨h1, h2⟩ := ih hbs
    refine ⟨by simp [h1], fun i x hx => ?_⟩
    cases i with
    | zero => simp at hx; subst hx; simpa using hb
    | succ i => simp at hx ⊢; exact h2 i x hx

theorem addr_add_add (a : Addr) (x y : Nat) : (a.add x).add y = a.add (x + y) := by
  by_cases hx : x = 0
  · subst hx; simp [Addr.add]
  · by_cases hy : y = 0
    · subst hy; simp [Addr.add]
    · simp [Addr.add, hx, hy, Nat.add_assoc]

/-- The cells of a row: as World.cells? reads them. -/
theorem cells_get {base : Nat} {a : Addr} {n : Nat} {cs : List Value} (h : w.cells? base a n = some cs) : cs.length = n ∧ ∀ j, j < n → w.cell? (a.add j) = cs[j]? := by
  unfold World.cells? at h
  split at h
  · obtain ⟨h1, h2⟩ := mapM_some h
    refine ⟨by simpa using h1, fun j hj => h2 j j (by simp [hj])⟩
  · cases h

/-- A slice's reading gives its cells, element by element. -/
theorem open_sl {t e : TypeId} {v : Value} {d : DataW H} {ps : List MemPlace} (ht : P.underlying t = some (.slice e)) (hv : ∃ a len cap, v = .slice a len cap) (h : DataW.Trod enc P w 0 (fun _ => true) true t v d ps) :
    ∃ (xs : List Value) (elems : List (DataW H × List MemPlace)) (fuel : Nat), Sl (· < w.heap.size) w (P.cellsOf e) v xs ∧ xs.length = elems.length * P.cellsOf e ∧
      (∀ i y, elems[i]? = some y → DataW.trod enc P w 0 (fun _ => true) true fuel e ((xs.drop (i * P.cellsOf e)).take (P.cellsOf e)) = some y) ∧
      (d = .nil ∧ elems = [] ∨ ∃ rest, d = .slice (elems.map (·.1)) rest) := by
  obtain ⟨a0, len0, cap0, rfl⟩ := hv
  obtain ⟨fuel, hf⟩ := h
  rcases DataW.trod_slice ht hf with ⟨hcs, hx⟩ | ⟨a, len, cap, elems, rest, n, hfu, hcs, hx, _, hlc, hcm, hlen, hel, _⟩
  · have hv : Value.slice a0 len0 cap0 = .slice none 0 0 := by simpa [Value.cells] using hcs
    rw [hv]
    simp only [Prod.mk.injEq] at hx
    exact ⟨[], [], 0, Sl.nil _ w _, by simp, by simp, .inl ⟨hx.1, rfl⟩⟩
  · have hv : Value.slice a0 len0 cap0 = .slice (some a) len cap := by simpa [Value.cells] using hcs
    rw [hv]
    generalize hk : P.cellsOf e = k at *
    have hget : ∀ i, i < len → ∃ cs y, w.cells? 0 (a.add (i * k)) k = some cs ∧ elems[i]? = some y ∧ DataW.trod enc P w 0 (fun _ => true) true n e cs = some y := by
      intro i hi
      have h1 := hel i hi
      obtain ⟨y, hy⟩ : ∃ y, elems[i]? = some y := ⟨_, List.getElem?_eq_getElem (by omega)⟩
      rw [hy] at h1
      obtain ⟨cs, hc1, hc2⟩ := Option.bind_eq_some_iff.1 h1
      exact ⟨cs, y, hc1, hy, hc2⟩
    -- the cells, one by one
    obtain ⟨xs, hxl, hxs⟩ : ∃ xs : List Value, xs.length = len * k ∧ ∀ i j, i < len → j < k → w.cell? (a.add (i * k + j)) = xs[i * k + j]? := by
      refine ⟨(List.range (len * k)).map fun m => (w.cell? (a.add m)).getD undef, by simp, fun i j hi hj => ?_⟩
      have hm : i * k + j < len * k := by
        have := Nat.mul_le_mul_right k (show i + 1 ≤ len from hi)
        rw [Nat.add_mul] at this
        omega
      obtain ⟨cs, y, hc1, _, _⟩ := hget i hi
      obtain ⟨hcl, hcc⟩ := cells_get hc1
      have h2 := hcc j hj
      rw [addr_add_add] at h2
      rw [h2, List.getElem?_eq_getElem (by omega)]
      simp [hm, h2, List.getElem?_eq_getElem (show j < cs.length by omega)]
    have hxm : ∀ m u, xs[m]? = some u → w.cell? (a.add m) = some u := by
      intro m u hu
      have hml : m < len * k := by rw [← hxl]; exact (List.getElem?_eq_some_iff.1 hu).1
      have hk0 : 0 < k := by
        apply Nat.pos_of_ne_zero
        intro h0
        rw [h0] at hml
        omega
      have hdm := Nat.div_add_mod m k
      have hi : m / k < len := (Nat.div_lt_iff_lt_mul hk0).2 hml
      have := hxs (m / k) (m % k) hi (Nat.mod_lt _ hk0)
      rw [Nat.mul_comm, hdm] at this
      rw [this, hu]
    refine ⟨xs, elems, n, ⟨some a, len, cap, rfl, hxl, hlc, hcm, fun h => (by cases h), fun hne => ?_⟩, by rw [hxl, hlen], fun i y hy => ?_, .inr ⟨rest.map (·.1), ?_⟩⟩
    · obtain ⟨u, hu⟩ : ∃ u, xs[0]? = some u := by
        cases xs with
        | nil => exact absurd rfl hne
        | cons x _ => exact ⟨x, rfl⟩
      have h0 := hxm 0 u hu
      obtain ⟨b, off, s⟩ := a
      have hs : s = none := by
        cases s with
        | none => rfl
        | some s =>
          exfalso
          simp only [Addr.add, World.cell?] at h0
          split at h0 <;> simp at h0
      subst hs
      have hb := World.block_lt_of_cell? w _ h0
      rw [Addr.add_lit] at hb
      exact ⟨b, off, rfl, hb, fun j u hu => by have := hxm j u hu; rwa [Addr.add_lit] at this⟩
    · have hi : i < len := by rw [← hlen]; exact (List.getElem?_eq_some_iff.1 hy).1
      obtain ⟨cs, y', hc1, hy', hc2⟩ := hget i hi
      obtain rfl : y = y' := by rw [hy] at hy'; exact Option.some.inj hy'
      obtain ⟨hcl, hcc⟩ := cells_get hc1
      have : (xs.drop (i * k)).take k = cs := by
        apply List.ext_getElem?
        intro j
        rw [List.getElem?_take]
        split
        · rename_i hj
          rw [List.getElem?_drop, ← hxs i j hi hj, ← hcc j hj, addr_add_add]
        · rename_i hj
          rw [List.getElem?_eq_none (by omega)]
      rw [this]
      exact hc2
    · simp only [Prod.mk.injEq] at hx
      exact hx.1

/-- What all of a law's arguments read as, they read as behind a call that has only made new blocks. -/
theorem trodAll_stays {ts : List TypeId} (hl : laidOutB P = true) {W W' : World} (hb : Below W.heap.size W W') :
    ∀ {vs : List Value} {ds : List (DataW H)} {ps : List MemPlace}, (∀ t ∈ ts, P.readableRec t = true ∧ t < P.types.size) → (∀ x ∈ ps, x.block < W.heap.size) →
      DataW.TrodAll enc P W 0 (fun _ => true) true ts vs ds ps → DataW.TrodAll enc P W' 0 (fun b => decide (b < W.heap.size)) true ts vs ds ps := by
  induction ts with
  | nil =>
    intro vs ds ps _ _ h
    cases vs <;> cases ds <;> simp_all [DataW.TrodAll]
  | cons t ts ih =>
    intro vs ds ps hr hlt h
    obtain ⟨v, vs', d, ds', p, q, rfl, rfl, rfl, h1, h2⟩ := trodAll_cons h
    exact trodAll_cons_mk (Below.trod hl (hr t (by simp)).1 (hr t (by simp)).2 h1 hb (fun x hx => hlt x (by simp [hx]))) (ih (fun t ht => hr t (by simp [ht])) (fun x hx => hlt x (by simp [hx])) h2)

/-- A law's post: it says true; the arguments read as they did. -/
theorem law_post {f : Func} {s : ChangeSpec} {W W' : World} {args : Array Value} {ds gs : List (DataW H)} {before : List MemPlace} {tb : TypeId}
    (hW : DataW.Whole enc P f.params.toList s.vars false W args.toList ds gs before) (hvars : s.vars = []) (hres : f.resultTypes = #[tb]) (htb : P.underlying tb = some .bool)
    (hfn : (s.fn H (ds ++ gs)).results = [.lit (.bool true)]) (hfa : (s.fn H (ds ++ gs)).args = ds) (hfv : (s.fn H (ds ++ gs)).vars = [])
    (hl : laidOutB P = true) (hr : (f.params.toList.all fun t => P.readableRec t && decide (t < P.types.size)) = true) (hb : Below W.heap.size W W') :
    s.post enc P f false true false false W args (.bool true) W' := by
  have hlt := hW.lt
  have hW0 := hW
  obtain ⟨p, q, hA, hV, rfl, _, _⟩ := hW
  rw [hvars] at hV
  refine ⟨ds, gs, p ++ q, [], p, [], hW0, ?_, ?_, ?_, hb.frame _, fun h => by cases h⟩
  · rw [hfn, hres]
    exact trodAll_mk1 (shut_bool htb true)
  · rw [hfa]
    refine trodAll_stays hl hb (fun t ht => ?_) (fun x hx => hlt x (by simp [hx])) hA
    have := List.all_eq_true.1 hr t ht
    simpa using this
  · rw [hfv, hvars]
    rfl
end

end Go.Proofs.Ytcbgemnmehoeaaa
