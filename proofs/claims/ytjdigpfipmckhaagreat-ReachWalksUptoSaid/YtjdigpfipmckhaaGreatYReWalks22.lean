/- Lemmas for the claim, no condition. -/
import Derived.ProofKit
import Derived.OpenShut
import Derived.Test.YtjdigpfipmckhaaGreatRows
import Derived.SizedLaws
import Derived.Test.YtjdigpfipmckhaaGreatYReWalks21
import Derived.Test.YtjdigpfipmckhaaGreatYReWalks15
import Derived.Test.YtjdigpfipmckhaaGreatYReWalks9
import Derived.Test.YtjdigpfipmckhaaGreatYReWalks3
import Derived.Test.YtjdigpfipmckhaaGreatYReWalks0
import Derived.Test.YtjdigpfipmckhaaGreatYReWalks10
import Derived.Test.YtjdigpfipmckhaaGreatYReWalks20
import Derived.Test.YtjdigpfipmckhaaGreatYReWalks8
import Derived.Test.YtjdigpfipmckhaaGreatYReWalks1
import Derived.Test.YtjdigpfipmckhaaGreatYReWalks19
import Derived.Test.YtjdigpfipmckhaaGreatYReWalks7
namespace Go.Proofs.YtjdigpfipmckhaaGreat
open Go Go.RowKit Go.Maps Go.Shelf
theorem flat_le {α β : Type} (f : α → List β) (D : Nat) : ∀ l : List α, (∀ x ∈ l, (f x).length ≤ D) → (l.flatMap f).length ≤ l.length * D
  | [], _ => by simp
  | a :: l, h => by
    rw [List.flatMap_cons, List.length_append, List.length_cons, Nat.add_mul]
    have h1 := h a List.mem_cons_self
    have h2 := flat_le f D l fun x hx => h x (List.mem_cons_of_mem _ hx)
    omega
end Go.Proofs.YtjdigpfipmckhaaGreat
namespace Go.Proofs.YtjdigpfipmckhaaGreat
open Go Go.RowKit Go.ChangeShapes Go.WideShapes Go.ChangeAt
section
variable {H : Type} {enc : TypeId × Value → H} {P : Program} {w : World}
theorem mapM_some {α β : Type} {f : α → Option β} : ∀ {l : List α} {r : List β}, l.mapM f = some r → r.length = l.length ∧ ∀ (i : Nat) (x : α), l[i]? = some x → f x = r[i]? := by
  intro l
  induction l with
  | nil => intro r h; simp at h; subst h; exact ⟨rfl, by simp⟩
  | cons a l ih =>
    intro r h
    simp only [List.mapM_cons, Option.bind_eq_bind, Option.bind_eq_some_iff, Option.pure_def, Option.some.injEq] at h
    obtain ⟨b, hb, bs, hbs, rfl⟩ := h
    obtain ⟨h1, h2⟩ := ih hbs
    refine ⟨by simp [h1], fun i x hx => ?_⟩
    cases i with
    | zero => simp at hx; subst hx; simpa using hb
    | succ i => simp at hx ⊢; exact h2 i x hx
theorem addr_add_add (a : Addr) (x y : Nat) : (a.add x).add y = a.add (x + y) := by
  by_cases hx : x = 0
  · subst hx; simp [Addr.add]
  · by_cases hy : y = 0
    · subst hy; simp [Addr.add]
    · simp [Addr.add, hx, hy, Nat.add_assoc]
theorem cells_get {base : Nat} {a : Addr} {n : Nat} {cs : List Value} (h : w.cells? base a n = some cs) : cs.length = n ∧ ∀ j, j < n → w.cell? (a.add j) = cs[j]? := by
  unfold World.cells? at h
  split at h
  · obtain ⟨h1, h2⟩ := mapM_some h
    refine ⟨by simpa using h1, fun j hj => h2 j j (by simp [hj])⟩
  · cases h
theorem open_sl {t e : TypeId} {v : Value} {d : DataW H} {ps : List MemPlace} (ht : P.underlying t = some (.slice e)) (hv : ∃ a len cap, v = .slice a len cap) (h : DataW.Trod enc P w 0 (fun _ => true) true t v d ps) :
    ∃ (xs : List Value) (elems : List (DataW H × List MemPlace)) (fuel : Nat), Sl (· < w.heap.size) w (P.cellsOf e) v xs ∧ xs.length = elems.length * P.cellsOf e ∧
      (∀ i y, elems[i]? = some y → DataW.trod enc P w 0 (fun _ => true) true fuel e ((xs.drop (i * P.cellsOf e)).take (P.cellsOf e)) = some y) ∧
      (d = .nil ∧ elems = [] ∨ ∃ rest, d = .slice (elems.map (·.1)) rest) := by
  obtain ⟨a0, len0, cap0, rfl⟩ := hv
  obtain ⟨fuel, hf⟩ := h
  rcases DataW.trod_slice ht hf with ⟨hcs, hx⟩ | ⟨a, len, cap, elems, rest, n, hfu, hcs, hx, _, hlc, hcm, hlen, hel, _⟩
  · have hv : Value.slice a0 len0 cap0 = .slice none 0 0 := by simpa [Value.cells] using hcs
    rw [hv]
    simp only [Prod.mk.injEq] at hx
    exact ⟨[], [], 0, Sl.nil _ w _, by simp, by simp, .inl ⟨hx.1, rfl⟩⟩
  · have hv : Value.slice a0 len0 cap0 = .slice (some a) len cap := by simpa [Value.cells] using hcs
    rw [hv]
    generalize hk : P.cellsOf e = k at *
    have hget : ∀ i, i < len → ∃ cs y, w.cells? 0 (a.add (i * k)) k = some cs ∧ elems[i]? = some y ∧ DataW.trod enc P w 0 (fun _ => true) true n e cs = some y := by
      intro i hi
      have h1 := hel i hi
      obtain ⟨y, hy⟩ : ∃ y, elems[i]? = some y := ⟨_, List.getElem?_eq_getElem (by omega)⟩
      rw [hy] at h1
      obtain ⟨cs, hc1, hc2⟩ := Option.bind_eq_some_iff.1 h1
      exact ⟨cs, y, hc1, hy, hc2⟩
    -- the cells, one by one
    obtain ⟨xs, hxl, hxs⟩ : ∃ xs : List Value, xs.length = len * k ∧ ∀ i j, i < len → j < k → w.cell? (a.add (i * k + j)) = xs[i * k + j]? := by
      refine ⟨(List.range (len * k)).map fun m => (w.cell? (a.add m)).getD undef, by simp, fun i j hi hj => ?_⟩
      have hm : i * k + j < len * k := by
        have := Nat.mul_le_mul_right k (show i + 1 ≤ len from hi)
        rw [Nat.add_mul] at this
        omega
      obtain ⟨cs, y, hc1, _, _⟩ := hget i hi
      obtain ⟨hcl, hcc⟩ := cells_get hc1
      have h2 := hcc j hj
      rw [addr_add_add] at h2
      rw [h2, List.getElem?_eq_getElem (by omega)]
      simp [hm, h2, List.getElem?_eq_getElem (show j < cs.length by omega)]
    have hxm : ∀ m u, xs[m]? = some u → w.cell? (a.add m) = some u := by
      intro m u hu
      have hml : m < len * k := by rw [← hxl]; exact (List.getElem?_eq_some_iff.1 hu).1
      have hk0 : 0 < k := by
        apply Nat.pos_of_ne_zero
        intro h0
        rw [h0] at hml
        omega
      have hdm := Nat.div_add_mod m k
      have hi : m / k < len := (Nat.div_lt_iff_lt_mul hk0).2 hml
      have := hxs (m / k) (m % k) hi (Nat.mod_lt _ hk0)
      rw [Nat.mul_comm, hdm] at this
      rw [this, hu]
    refine ⟨xs, elems, n, ⟨some a, len, cap, rfl, hxl, hlc, hcm, fun h => (by cases h), fun hne => ?_⟩, by rw [hxl, hlen], fun i y hy => ?_, .inr ⟨rest.map (·.1), ?_⟩⟩
    · obtain ⟨u, hu⟩ : ∃ u, xs[0]? = some u := by
        cases xs with
        | nil => exact absurd rfl hne
        | cons x _ => exact ⟨x, rfl⟩
      have h0 := hxm 0 u hu
      obtain ⟨b, off, s⟩ := a
      have hs : s = none := by
        cases s with
        | none => rfl
        | some s =>
          exfalso
          simp only [Addr.add, World.cell?] at h0
          split at h0 <;> simp at h0
      subst hs
      have hb := World.block_lt_of_cell? w _ h0
      rw [Addr.add_lit] at hb
      exact ⟨b, off, rfl, hb, fun j u hu => by have := hxm j u hu; rwa [Addr.add_lit] at this⟩
    · have hi : i < len := by rw [← hlen]; exact (List.getElem?_eq_some_iff.1 hy).1
      obtain ⟨cs, y', hc1, hy', hc2⟩ := hget i hi
      obtain rfl : y = y' := by rw [hy] at hy'; exact Option.some.inj hy'
      obtain ⟨hcl, hcc⟩ := cells_get hc1
      have : (xs.drop (i * k)).take k = cs := by
        apply List.ext_getElem?
        intro j
        rw [List.getElem?_take]
        split
        · rename_i hj
          rw [List.getElem?_drop, ← hxs i j hi hj, ← hcc j hj, addr_add_add]
        · rename_i hj
          rw [List.getElem?_eq_none (by omega)]
      rw [this]
      exact hc2
    · simp only [Prod.mk.injEq] at hx
      exact hx.1
theorem trodAll_stays {ts : List TypeId} (hl : laidOutB P = true) {W W' : World} (hb : Below W.heap.size W W') :
    ∀ {vs : List Value} {ds : List (DataW H)} {ps : List MemPlace}, (∀ t ∈ ts, P.readableRec t = true ∧ t < P.types.size) → (∀ x ∈ ps, x.block < W.heap.size) →
      DataW.TrodAll enc P W 0 (fun _ => true) true ts vs ds ps → DataW.TrodAll enc P W' 0 (fun b => decide (b < W.heap.size)) true ts vs ds ps := by
  induction ts with
  | nil =>
    intro vs ds ps _ _ h
    cases vs <;> cases ds <;> simp_all [DataW.TrodAll]
  | cons t ts ih =>
    intro vs ds ps hr hlt h
    obtain ⟨v, vs', d, ds', p, q, rfl, rfl, rfl, h1, h2⟩ := trodAll_cons h
    exact trodAll_cons_mk (Below.trod hl (hr t (by simp)).1 (hr t (by simp)).2 h1 hb (fun x hx => hlt x (by simp [hx]))) (ih (fun t ht => hr t (by simp [ht])) (fun x hx => hlt x (by simp [hx])) h2)
theorem law_post {f : Func} {s : ChangeSpec} {W W' : World} {args : Array Value} {ds gs : List (DataW H)} {before : List MemPlace} {tb : TypeId}
    (hW : DataW.Whole enc P f.params.toList s.vars false W args.toList ds gs before) (hvars : s.vars = []) (hres : f.resultTypes = #[tb]) (htb : P.underlying tb = some .bool)
    (hfn : (s.fn H (ds ++ gs)).results = [.lit (.bool true)]) (hfa : (s.fn H (ds ++ gs)).args = ds) (hfv : (s.fn H (ds ++ gs)).vars = [])
    (hl : laidOutB P = true) (hr : (f.params.toList.all fun t => P.readableRec t && decide (t < P.types.size)) = true) (hb : Below W.heap.size W W') :
    s.post enc P f false true false false W args (.bool true) W' := by
  have hlt := hW.lt
  have hW0 := hW
  obtain ⟨p, q, hA, hV, rfl, _, _⟩ := hW
  rw [hvars] at hV
  refine ⟨ds, gs, p ++ q, [], p, [], hW0, ?_, ?_, ?_, hb.frame _, fun h => by cases h⟩
  · rw [hfn, hres]
    exact trodAll_mk1 (shut_bool htb true)
  · rw [hfa]
    refine trodAll_stays hl hb (fun t ht => ?_) (fun x hx => hlt x (by simp [hx])) hA
    have := List.all_eq_true.1 hr t ht
    simpa using this
  · rw [hfv, hvars]
    rfl
end
end Go.Proofs.YtjdigpfipmckhaaGreat
namespace Go.Proofs.YtjdigpfipmckhaaGreat
open Go Go.RowKit Go.ChangeShapes Go.WideShapes Go.ChangeAt
section
variable {H : Type} {enc : TypeId × Value → H} {P : Program} {w : World}
theorem open_slF {fuel0 : Nat} {t e : TypeId} {v : Value} {d : DataW H} {ps : List MemPlace} (ht : P.underlying t = some (.slice e)) (hf : DataW.trod enc P w 0 (fun _ => true) true fuel0 t [v] = some (d, ps)) :
    ∃ (xs : List Value) (elems : List (DataW H × List MemPlace)) (fuel : Nat), (elems = [] ∨ fuel < fuel0) ∧ Sl (· < w.heap.size) w (P.cellsOf e) v xs ∧ xs.length = elems.length * P.cellsOf e ∧
      (∀ i y, elems[i]? = some y → DataW.trod enc P w 0 (fun _ => true) true fuel e ((xs.drop (i * P.cellsOf e)).take (P.cellsOf e)) = some y) ∧
      (d = .nil ∧ elems = [] ∨ ∃ rest, d = .slice (elems.map (·.1)) rest) := by
  rcases DataW.trod_slice ht hf with ⟨hcs, hx⟩ | ⟨a, len, cap, elems, rest, n, hfu, hcs, hx, _, hlc, hcm, hlen, hel, _⟩
  · obtain rfl : v = .slice none 0 0 := by simpa using hcs
    simp only [Prod.mk.injEq] at hx
    exact ⟨[], [], 0, .inl rfl, Sl.nil _ w _, by simp, by simp, .inl ⟨hx.1, rfl⟩⟩
  · obtain rfl : v = .slice (some a) len cap := by simpa using hcs
    generalize hk : P.cellsOf e = k at *
    have hget : ∀ i, i < len → ∃ cs y, w.cells? 0 (a.add (i * k)) k = some cs ∧ elems[i]? = some y ∧ DataW.trod enc P w 0 (fun _ => true) true n e cs = some y := by
      intro i hi
      have h1 := hel i hi
      obtain ⟨y, hy⟩ : ∃ y, elems[i]? = some y := ⟨_, List.getElem?_eq_getElem (by omega)⟩
      rw [hy] at h1
      obtain ⟨cs, hc1, hc2⟩ := Option.bind_eq_some_iff.1 h1
      exact ⟨cs, y, hc1, hy, hc2⟩
    -- the cells, one by one
    obtain ⟨xs, hxl, hxs⟩ : ∃ xs : List Value, xs.length = len * k ∧ ∀ i j, i < len → j < k → w.cell? (a.add (i * k + j)) = xs[i * k + j]? := by
      refine ⟨(List.range (len * k)).map fun m => (w.cell? (a.add m)).getD undef, by simp, fun i j hi hj => ?_⟩
      have hm : i * k + j < len * k := by
        have := Nat.mul_le_mul_right k (show i + 1 ≤ len from hi)
        rw [Nat.add_mul] at this
        omega
      obtain ⟨cs, y, hc1, _, _⟩ := hget i hi
      obtain ⟨hcl, hcc⟩ := cells_get hc1
      have h2 := hcc j hj
      rw [addr_add_add] at h2
      rw [h2, List.getElem?_eq_getElem (by omega)]
      simp [hm, h2, List.getElem?_eq_getElem (show j < cs.length by omega)]
    have hxm : ∀ m u, xs[m]? = some u → w.cell? (a.add m) = some u := by
      intro m u hu
      have hml : m < len * k := by rw [← hxl]; exact (List.getElem?_eq_some_iff.1 hu).1
      have hk0 : 0 < k := by
        apply Nat.pos_of_ne_zero
        intro h0
        rw [h0] at hml
        omega
      have hdm := Nat.div_add_mod m k
      have hi : m / k < len := (Nat.div_lt_iff_lt_mul hk0).2 hml
      have := hxs (m / k) (m % k) hi (Nat.mod_lt _ hk0)
      rw [Nat.mul_comm, hdm] at this
      rw [this, hu]
    refine ⟨xs, elems, n, .inr (by omega), ⟨some a, len, cap, rfl, hxl, hlc, hcm, fun h => (by cases h), fun hne => ?_⟩, by rw [hxl, hlen], fun i y hy => ?_, .inr ⟨rest.map (·.1), ?_⟩⟩
    · obtain ⟨u, hu⟩ : ∃ u, xs[0]? = some u := by
        cases xs with
        | nil => exact absurd rfl hne
        | cons x _ => exact ⟨x, rfl⟩
      have h0 := hxm 0 u hu
      obtain ⟨b, off, s⟩ := a
      have hs : s = none := by
        cases s with
        | none => rfl
        | some s =>
          exfalso
          simp only [Addr.add, World.cell?] at h0
          split at h0 <;> simp at h0
      subst hs
      have hb := World.block_lt_of_cell? w _ h0
      rw [Addr.add_lit] at hb
      exact ⟨b, off, rfl, hb, fun j u hu => by have := hxm j u hu; rwa [Addr.add_lit] at this⟩
    · have hi : i < len := by rw [← hlen]; exact (List.getElem?_eq_some_iff.1 hy).1
      obtain ⟨cs, y', hc1, hy', hc2⟩ := hget i hi
      obtain rfl : y = y' := by rw [hy] at hy'; exact Option.some.inj hy'
      obtain ⟨hcl, hcc⟩ := cells_get hc1
      have : (xs.drop (i * k)).take k = cs := by
        apply List.ext_getElem?
        intro j
        rw [List.getElem?_take]
        split
        · rename_i hj
          rw [List.getElem?_drop, ← hxs i j hi hj, ← hcc j hj, addr_add_add]
        · rename_i hj
          rw [List.getElem?_eq_none (by omega)]
      rw [this]
      exact hc2
    · simp only [Prod.mk.injEq] at hx
      exact hx.1
theorem open_rowsB {α : Type} (ec : α → List Value) (Q : α → DataW H → Prop) {t e : TypeId} {v : Value} {fuel0 : Nat} {y0 : DataW H × List MemPlace} {sz : Nat}
    (ht : P.underlying t = some (.slice e)) (hsz : P.cellsOf e = sz) (h : DataW.trod enc P w 0 (fun _ => true) true fuel0 t [v] = some y0)
    (hel : ∀ fuel, fuel < fuel0 → ∀ cs y, DataW.trod enc P w 0 (fun _ => true) true fuel e cs = some y → ∃ a, cs = ec a ∧ Q a y.1) :
    ∃ l : List (α × DataW H), Sl (· < w.heap.size) w sz v ((l.map (·.1)).flatMap ec) ∧ (∀ p ∈ l, Q p.1 p.2) ∧ (l = [] ∨ ∃ rest, y0.1 = .slice (l.map (·.2)) rest) := by
  obtain ⟨xs, elems, fuel, hfu, hs, hl, he, hd⟩ := open_slF ht (d := y0.1) (ps := y0.2) h
  rw [hsz] at hs hl he
  have main : ∀ n, n ≤ elems.length → ∃ l : List (α × DataW H), l.length = n ∧ xs.take (n * sz) = (l.map (·.1)).flatMap ec ∧ l.map (·.2) = (elems.take n).map (·.1) ∧ ∀ p ∈ l, Q p.1 p.2 := by
    intro n
    induction n with
    | zero => intro _; exact ⟨[], rfl, by simp, by simp, by simp⟩
    | succ n ih =>
      intro hn
      obtain ⟨l, hl0, hl1, hl3, hl2⟩ := ih (by omega)
      have hf : fuel < fuel0 := by
        rcases hfu with h | h
        · rw [h] at hn; simp at hn
        · exact h
      obtain ⟨a, ha, hq⟩ := hel _ hf _ _ (he n elems[n] (List.getElem?_eq_getElem (by omega)))
      refine ⟨l ++ [(a, elems[n].1)], by simp [hl0], ?_, ?_, fun b hb => ?_⟩
      · rw [Nat.add_mul, Nat.one_mul, List.take_add, hl1, ha, List.map_append, List.flatMap_append]
        simp
      · rw [List.map_append, hl3, List.take_succ_eq_append_getElem (by omega), List.map_append]
        rfl
      · rcases List.mem_append.1 hb with hb | hb
        · exact hl2 b hb
        · obtain rfl : b = (a, elems[n].1) := by simpa using hb
          exact hq
  obtain ⟨l, hl0, hl1, hl3, hl2⟩ := main elems.length (Nat.le_refl _)
  rw [← hl, List.take_length] at hl1
  rw [List.take_length] at hl3
  refine ⟨l, hl1 ▸ hs, hl2, ?_⟩
  rcases hd with ⟨_, rfl⟩ | ⟨rest, hd⟩
  · exact .inl (List.eq_nil_of_length_eq_zero (by simpa using hl0))
  · exact .inr ⟨rest, by rw [hl3]; exact hd⟩
end
mutual
def RT.bk : RT → Nat | .mk _ a b ps => 5 + a.size + b.size + bkL ps
def bkL : List RT → Nat | [] => 0 | r :: rs => r.bk + bkL rs
end
def relBk (x : ByteArray × RT) : Nat := 2 + x.1.size + x.2.bk
def sumN {α : Type} (f : α → Nat) : List α → Nat | [] => 0 | x :: l => f x + sumN f l
theorem relBk_eq (x : ByteArray × RT) : relBk x = 2 + x.1.size + x.2.bk := rfl
def tyBk (t : TyS) : Nat := 2 + t.name.size + sumN relBk t.rels
theorem tyBk_eq (t : TyS) : tyBk t = 2 + t.name.size + sumN relBk t.rels := rfl
theorem bkL_sum (l : List RT) : bkL l = sumN RT.bk l := by
  induction l with
  | nil => rfl
  | cons x l ih => rw [bkL, sumN, ih]
theorem bulk_sum {H α : Type} {f : α → Nat} : ∀ {l : List (α × DataW H)}, (∀ p ∈ l, f p.1 ≤ Rows.uptoBulk p.2) → sumN f (l.map (·.1)) ≤ Rows.uptoBulkAll (l.map (·.2))
  | [], _ => Nat.zero_le _
  | p :: l, h => by
    rw [List.map_cons, List.map_cons, sumN, Rows.uptoBulkAll]
    have h1 := h p List.mem_cons_self
    have h2 := bulk_sum (l := l) fun q hq => h q (List.mem_cons_of_mem _ hq)
    omega
theorem bulk_pos {H : Type} (d : DataW H) : 1 ≤ Rows.uptoBulk d := by
  cases d with
  | lit l => cases l <;> simp [Rows.uptoBulk]
  | nil => simp [Rows.uptoBulk]
  | ptr d => simp [Rows.uptoBulk]
  | slice elems spare => simp [Rows.uptoBulk]
  | agg parts => simp [Rows.uptoBulk]
  | iface t d => simp [Rows.uptoBulk]
  | map entries => simp [Rows.uptoBulk]
  | held h => simp [Rows.uptoBulk]
theorem bulk_row {H α : Type} {f : α → Nat} {l : List (α × DataW H)} {d : DataW H} (hd : l = [] ∨ ∃ rest, d = .slice (l.map (·.2)) rest) (h : ∀ p ∈ l, f p.1 ≤ Rows.uptoBulk p.2) : sumN f (l.map (·.1)) + 1 ≤ Rows.uptoBulk d := by
  rcases hd with rfl | ⟨rest, rfl⟩
  · have := bulk_pos d
    simpa [sumN] using this
  · rw [Rows.uptoBulk]
    have := bulk_sum (f := f) h
    omega
theorem sumN_map {α β : Type} (g : β → Nat) (f : α → β) (l : List α) : sumN (fun x => g (f x)) l = sumN g (l.map f) := by
  induction l with
  | nil => rfl
  | cons x l ih => rw [List.map_cons, sumN, sumN, ih]
theorem sumN_mem {α : Type} (f : α → Nat) {a : α} : ∀ {l : List α}, a ∈ l → f a ≤ sumN f l
  | x :: l, h => by
    rw [sumN]
    rcases List.mem_cons.1 h with rfl | h
    · omega
    · have := sumN_mem f h; omega
section
variable {H : Type} {enc : TypeId × Value → H} {W : World} {base : Nat} {v : Value} {d : DataW H} {ps : List MemPlace}
def RuleQ (W : World) (x : RT × Value) (d : DataW H) : Prop := RTAt (· < W.heap.size) W x.1 x.2 ∧ (x.1.bk ≤ 1048576 → x.1.Ok) ∧ x.1.bk ≤ Rows.uptoBulk d
set_option maxRecDepth 100000 in
theorem open_rule_cells (fuel : Nat) : ∀ {cs : List Value} {y : DataW H × List MemPlace}, DataW.trod enc Tryz.prog W 0 (fun _ => true) true fuel 98 cs = some y → ∃ x : RT × Value, cs = rC x ∧ RuleQ W x y.1 := by
  induction fuel using Nat.strongRecOn with
  | ind fuel ih =>
  intro cs y hy
  obtain ⟨xs, n, hfn, hyx, hl, hlen, hf⟩ := DataW.trod_struct Tryz.underlying98 hy
  rw [show Tryz.prog.cellsOf 98 = 4 from by kernel_rfl] at hl
  obtain ⟨c0, c1, c2, c3, rfl⟩ : ∃ c0 c1 c2 c3, cs = [c0, c1, c2, c3] := by
    match cs, hl with
    | [c0, c1, c2, c3], _ => exact ⟨c0, c1, c2, c3, rfl⟩
  have h0 := hf 0 _ rfl
  have h1 := hf 1 _ rfl
  have h2 := hf 2 _ rfl
  have h3 := hf 3 _ rfl
  obtain ⟨y0, y1, y2, y3, rfl⟩ : ∃ y0 y1 y2 y3, xs = [y0, y1, y2, y3] := by
    match xs, hlen with
    | [y0, y1, y2, y3], _ => exact ⟨y0, y1, y2, y3, rfl⟩
  have k0 : Tryz.prog.cellsOf 3 = 1 := by kernel_rfl
  have k1 : Tryz.prog.cellsOf 9 = 1 := by kernel_rfl
  have k2 : Tryz.prog.cellsOf 96 = 1 := by kernel_rfl
  obtain ⟨k, e0, d0, w0⟩ := DataW.trod_int Tryz.underlying3 h0
  obtain ⟨a, e1, d1, wa⟩ := DataW.trod_string Tryz.underlying9 h1
  obtain ⟨b, e2, d2, wb⟩ := DataW.trod_string Tryz.underlying9 h2
  simp [k0] at e0
  simp [k1] at e1 e2
  subst e0 e1 e2
  have h3' : DataW.trod enc Tryz.prog W 0 (fun _ => true) true n 96 [c3] = some y3 := by simpa [k2] using h3
  obtain ⟨l, hs, hq, hd⟩ := open_rowsB rC (RuleQ W) Tryz.underlying96 (show _ = 4 by kernel_rfl) h3' (fun fuel' hlt cs y hy => ih fuel' (by omega) hy)
  have hbk : (RT.mk k a b (l.map (·.1.1))).bk ≤ Rows.uptoBulk y.1 := by
    have h4 := bulk_row (f := fun x : RT × Value => x.1.bk) hd fun p hp => (hq p hp).2.2
    rw [sumN_map RT.bk (fun x : RT × Value => x.1), List.map_map] at h4
    rw [hyx, d0, d1, d2, RT.bk, bkL_sum]
    simp only [List.map_cons, List.map_nil, Rows.uptoBulkAll, Rows.uptoBulk, Array.length_toList]
    have e : (l.map (·.1.1)) = l.map ((fun x : RT × Value => x.1) ∘ fun x => x.1) := rfl
    rw [e]
    show 5 + a.data.size + b.data.size + _ ≤ _
    omega
  refine ⟨(.mk k a b (l.map (·.1.1)), c3), rfl, (RTAt.iff _ _).2 ⟨l.map (·.1), by simp [RT.ps, List.map_map], fun x hx => ?_, hs⟩, fun hle => ?_, hbk⟩
  · obtain ⟨p, hp, rfl⟩ := List.mem_map.1 hx
    exact (hq p hp).1
  · rw [RT.bk] at hle
    refine (RT.ok_iff _).2 ⟨?_, ?_, ?_, fun r hr => ?_⟩
    · have := w0
      simp [Lit.wf] at this
      exact this
    · show a.size ≤ _; omega
    · show b.size ≤ _; omega
    · obtain ⟨p, hp, rfl⟩ := List.mem_map.1 hr
      exact (hq p hp).2.1 (by
        have : p.1.1.bk ≤ bkL (l.map (·.1.1)) := by
          rw [bkL_sum]
          exact sumN_mem _ (List.mem_map.2 ⟨p, hp, rfl⟩)
        omega)
def RelQ (W : World) (x : (ByteArray × RT) × Value) (d : DataW H) : Prop := RTAt (· < W.heap.size) W x.1.2 x.2 ∧ (relBk x.1 ≤ 1048576 → x.1.2.Ok) ∧ relBk x.1 ≤ Rows.uptoBulk d
set_option maxRecDepth 100000 in
theorem open_rel_cells {fuel : Nat} {cs : List Value} {y : DataW H × List MemPlace} (hy : DataW.trod enc Tryz.prog W 0 (fun _ => true) true fuel 100 cs = some y) : ∃ x : (ByteArray × RT) × Value, cs = relC x ∧ RelQ W x y.1 := by
  obtain ⟨xs, n, hfn, hyx, hl, hlen, hf⟩ := DataW.trod_struct Tryz.underlying100 hy
  rw [show Tryz.prog.cellsOf 100 = 5 from by kernel_rfl] at hl
  obtain ⟨c0, c1, c2, c3, c4, rfl⟩ : ∃ c0 c1 c2 c3 c4, cs = [c0, c1, c2, c3, c4] := by
    match cs, hl with
    | [c0, c1, c2, c3, c4], _ => exact ⟨c0, c1, c2, c3, c4, rfl⟩
  have h0 := hf 0 _ rfl
  have h1 := hf 1 _ rfl
  obtain ⟨y0, y1, rfl⟩ : ∃ y0 y1, xs = [y0, y1] := by
    match xs, hlen with
    | [y0, y1], _ => exact ⟨y0, y1, rfl⟩
  have k0 : Tryz.prog.cellsOf 9 = 1 := by kernel_rfl
  have k1 : Tryz.prog.cellsOf 98 = 4 := by kernel_rfl
  obtain ⟨a, e0, d0, wa⟩ := DataW.trod_string Tryz.underlying9 h0
  simp [k0] at e0
  subst e0
  have h1' : DataW.trod enc Tryz.prog W 0 (fun _ => true) true n 98 [c1, c2, c3, c4] = some y1 := by simpa [k1] using h1
  obtain ⟨⟨r, pv⟩, hc, hat, hok, hbk⟩ := open_rule_cells n h1'
  simp only [rC, List.cons.injEq, and_true] at hc
  obtain ⟨rfl, rfl, rfl, rfl⟩ := hc
  refine ⟨((a, r), _), rfl, hat, fun hle => hok ?_, ?_⟩
  · unfold relBk at hle
    dsimp only at hle ⊢
    omega
  · rw [hyx, d0]
    simp only [List.map_cons, List.map_nil, Rows.uptoBulkAll, Rows.uptoBulk, Array.length_toList]
    show 2 + a.data.size + r.bk ≤ _
    dsimp only at hbk
    omega
def TyQ (W : World) (x : TyS × Value) (d : DataW H) : Prop := RelsAt (· < W.heap.size) W x.1.rels x.2 ∧ (tyBk x.1 ≤ 1048576 → x.1.Ok) ∧ tyBk x.1 ≤ Rows.uptoBulk d
set_option maxRecDepth 100000 in
theorem open_type_cells {fuel : Nat} {cs : List Value} {y : DataW H × List MemPlace} (hy : DataW.trod enc Tryz.prog W 0 (fun _ => true) true fuel 95 cs = some y) : ∃ x : TyS × Value, cs = tyC x ∧ TyQ W x y.1 := by
  obtain ⟨xs, n, hfn, hyx, hl, hlen, hf⟩ := DataW.trod_struct Tryz.underlying95 hy
  rw [show Tryz.prog.cellsOf 95 = 2 from by kernel_rfl] at hl
  obtain ⟨c0, c1, rfl⟩ : ∃ c0 c1, cs = [c0, c1] := by
    match cs, hl with
    | [c0, c1], _ => exact ⟨c0, c1, rfl⟩
  have h0 := hf 0 _ rfl
  have h1 := hf 1 _ rfl
  obtain ⟨y0, y1, rfl⟩ : ∃ y0 y1, xs = [y0, y1] := by
    match xs, hlen with
    | [y0, y1], _ => exact ⟨y0, y1, rfl⟩
  have k0 : Tryz.prog.cellsOf 9 = 1 := by kernel_rfl
  have k1 : Tryz.prog.cellsOf 93 = 1 := by kernel_rfl
  obtain ⟨a, e0, d0, wa⟩ := DataW.trod_string Tryz.underlying9 h0
  simp [k0] at e0
  subst e0
  have h1' : DataW.trod enc Tryz.prog W 0 (fun _ => true) true n 93 [c1] = some y1 := by simpa [k1] using h1
  obtain ⟨l, hs, hq, hd⟩ := open_rowsB relC (RelQ W) Tryz.underlying93 (show _ = 5 by kernel_rfl) h1' (fun fuel' _ cs y hy => open_rel_cells hy)
  have h4 := bulk_row (f := fun x : (ByteArray × RT) × Value => relBk x.1) hd fun p hp => (hq p hp).2.2
  rw [sumN_map relBk (fun x : (ByteArray × RT) × Value => x.1), List.map_map] at h4
  refine ⟨(⟨a, l.map ((fun x : (ByteArray × RT) × Value => x.1) ∘ fun x => x.1)⟩, c1), rfl, ⟨l.map (·.1), by simp [List.map_map], fun x hx => ?_, hs⟩, fun hle => ?_, ?_⟩
  · obtain ⟨p, hp, rfl⟩ := List.mem_map.1 hx
    exact (hq p hp).1
  · unfold tyBk at hle
    dsimp only at hle
    refine ⟨by show a.size ≤ _; omega, fun r hr => ?_⟩
    have h5 := sumN_mem relBk hr
    obtain ⟨p, hp, rfl⟩ := List.mem_map.1 hr
    dsimp only [Function.comp_apply] at h5
    refine ⟨?_, (hq p hp).2.1 (by omega)⟩
    have h6 := relBk_eq p.1.1
    show p.1.1.1.size ≤ _
    omega
  · rw [hyx, d0, tyBk_eq]
    simp only [List.map_cons, List.map_nil, Rows.uptoBulkAll, Rows.uptoBulk, Array.length_toList]
    show 2 + a.data.size + sumN relBk (l.map ((fun x : (ByteArray × RT) × Value => x.1) ∘ fun x => x.1)) + 0 ≤ _
    omega
def schBk (ts : List TyS) : Nat := sumN tyBk ts
set_option maxRecDepth 100000 in
theorem open_schemaV (hok : Value.okWide Tryz.prog W .any base 24 v) (h : DataW.Trod enc Tryz.prog W 0 (fun _ => true) true 24 v d ps) : ∃ (ts : List TyS) (tv : Value), v = .agg #[tv] ∧ TysAt (· < W.heap.size) W ts tv ∧ schBk ts + 2 ≤ Rows.uptoBulk d ∧ (schBk ts ≤ 1048576 → ∀ t ∈ ts, t.Ok) := by
  obtain ⟨ca, rfl, _⟩ := okWide_struct Tryz.underlying24 hok
  obtain ⟨fuel, hy⟩ := h
  obtain ⟨xs, n, hfn, hyx, hl, hlen, hf⟩ := DataW.trod_struct Tryz.underlying24 hy
  rw [show Tryz.prog.cellsOf 24 = 1 from by kernel_rfl] at hl
  obtain ⟨c0, hc⟩ : ∃ c0, (Value.agg ca).cells.toList = [c0] := by
    match (Value.agg ca).cells.toList, hl with
    | [c0], _ => exact ⟨c0, rfl⟩
  have h0 := hf 0 _ rfl
  obtain ⟨y0, rfl⟩ : ∃ y0, xs = [y0] := by
    match xs, hlen with
    | [y0], _ => exact ⟨y0, rfl⟩
  have k0 : Tryz.prog.cellsOf 22 = 1 := by kernel_rfl
  rw [hc] at h0
  have h0' : DataW.trod enc Tryz.prog W 0 (fun _ => true) true n 22 [c0] = some y0 := by simpa [k0] using h0
  obtain ⟨l, hs, hq, hd⟩ := open_rowsB tyC (TyQ W) Tryz.underlying22 (show _ = 2 by kernel_rfl) h0' (fun fuel' _ cs y hy => open_type_cells hy)
  have h4 := bulk_row (f := fun x : TyS × Value => tyBk x.1) hd fun p hp => (hq p hp).2.2
  rw [sumN_map tyBk (fun x : TyS × Value => x.1), List.map_map] at h4
  refine ⟨l.map ((fun x : TyS × Value => x.1) ∘ fun x => x.1), c0, congrArg Value.agg (Array.toList_inj.1 hc), ⟨l.map (·.1), by simp [List.map_map], fun x hx => ?_, hs⟩, ?_, fun hle t ht => ?_⟩
  · obtain ⟨p, hp, rfl⟩ := List.mem_map.1 hx
    exact (hq p hp).1
  · have hdd := congrArg Prod.fst hyx
    dsimp only at hdd
    rw [hdd]
    simp only [List.map_cons, List.map_nil, Rows.uptoBulkAll, Rows.uptoBulk]
    unfold schBk
    omega
  · have h5 := sumN_mem tyBk ht
    obtain ⟨p, hp, rfl⟩ := List.mem_map.1 ht
    unfold schBk at hle
    exact (hq p hp).2.1 (by dsimp only [Function.comp_apply] at h5; omega)
end
theorem sz_bk (r : RT) : 5 * r.sz ≤ r.bk ∧ 5 + r.a.size + r.b.size ≤ r.bk := by
  induction r using RT.ind with
  | h r ih =>
    obtain ⟨k, a, b, ps⟩ := r
    have : 5 * szL ps ≤ bkL ps := by
      have hh : ∀ p ∈ ps, 5 * p.sz ≤ p.bk := fun p hp => (ih p hp).1
      clear ih
      induction ps with
      | nil => simp [szL, bkL]
      | cons x ps ih =>
        rw [szL, bkL]
        have h1 := hh x List.mem_cons_self
        have h2 := ih fun p hp => hh p (List.mem_cons_of_mem _ hp)
        omega
    rw [RT.sz, RT.bk]
    refine ⟨by omega, ?_⟩
    show 5 + a.size + b.size ≤ _
    omega
theorem relW_bk (l : List (ByteArray × RT)) : relW l ≤ 20 * sumN relBk l := by
  induction l with
  | nil => simp [relW]
  | cons x l ih =>
    rw [relW, sumN]
    have := (sz_bk x.2).1
    have := relBk_eq x
    omega
theorem schW_bk (ts : List TyS) : schW ts ≤ 20 * schBk ts := by
  induction ts with
  | nil => simp [schW]
  | cons t ts ih =>
    rw [schW]
    have := relW_bk t.rels
    unfold schBk at ih ⊢
    rw [sumN]
    have := tyBk_eq t
    omega
theorem rels_bk (l : List (ByteArray × RT)) : l.length ≤ sumN relBk l := by
  induction l with
  | nil => simp
  | cons x l ih => rw [sumN, List.length_cons]; have := relBk_eq x; omega
theorem names_bk (ts : List TyS) : (namesOf ts).length ≤ schBk ts ∧ (refsOf ts).length ≤ schBk ts := by
  induction ts with
  | nil => exact ⟨Nat.zero_le _, Nat.zero_le _⟩
  | cons t ts ih =>
    have h1 := rels_bk t.rels
    unfold schBk namesOf refsOf at ih ⊢
    rw [List.flatMap_cons, List.flatMap_cons, List.length_append, List.length_append, sumN]
    have h2 : (relsOf t.name t.rels).length = t.rels.length := by unfold relsOf; rw [List.length_map]
    have h3 : (namesT t).length ≤ t.rels.length + 1 := by unfold namesT; simp
    have := tyBk_eq t
    omega
theorem sz_sch {ts : List TyS} (h : schBk ts ≤ 1048576) : ∀ t ∈ ts, ∀ r ∈ t.rels, r.2.sz ≤ 1000000 := fun t ht r hr => by
  have h1 := sumN_mem tyBk ht
  have h2 := sumN_mem relBk hr
  have h3 := (sz_bk r.2).1
  unfold schBk at h
  have h4 := tyBk_eq t
  have h5 := relBk_eq r
  omega
theorem wt_bk (r : RT) : r.wt + 8 ≤ 4 * r.bk := by
  induction r using RT.ind with
  | h r ih =>
    obtain ⟨k, a, b, ps⟩ := r
    have : wtL ps ≤ 4 * bkL ps := by
      have hh : ∀ p ∈ ps, p.wt + 8 ≤ 4 * p.bk := fun p hp => ih p hp
      clear ih
      induction ps with
      | nil => simp [wtL, bkL]
      | cons x ps ih =>
        rw [wtL, bkL]
        have h1 := hh x List.mem_cons_self
        have h2 := ih fun p hp => hh p (List.mem_cons_of_mem _ hp)
        omega
    rw [RT.wt, RT.bk]
    omega
theorem relB_bk (l : List (ByteArray × RT)) : relB l ≤ 5 * sumN relBk l := by
  induction l with
  | nil => simp [relB]
  | cons x l ih =>
    rw [relB, sumN]
    have := wt_bk x.2
    have := relBk_eq x
    omega
theorem schB_bk (ts : List TyS) : schB ts ≤ 5 * schBk ts := by
  induction ts with
  | nil => simp [schB]
  | cons t ts ih =>
    rw [schB]
    have := relB_bk t.rels
    unfold schBk at ih ⊢
    rw [sumN]
    have := tyBk_eq t
    omega
end Go.Proofs.YtjdigpfipmckhaaGreat
