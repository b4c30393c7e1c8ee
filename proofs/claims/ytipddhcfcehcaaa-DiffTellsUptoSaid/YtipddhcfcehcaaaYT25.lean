/- Lemmas for the claim, no condition. -/
import Derived.Test.YtipddhcfcehcaaaRows
import Derived.SizedLaws
import Derived.Test.YtipddhcfcehcaaaYT24
import Derived.Test.YtipddhcfcehcaaaYT2
import Derived.Test.YtipddhcfcehcaaaYT11
import Derived.Test.YtipddhcfcehcaaaYT20
import Derived.Test.YtipddhcfcehcaaaYT22
import Derived.Test.YtipddhcfcehcaaaYT21
import Derived.Test.YtipddhcfcehcaaaYT3
import Derived.Test.YtipddhcfcehcaaaYT0
import Derived.Test.YtipddhcfcehcaaaYT1
import Derived.Test.YtipddhcfcehcaaaYT6
namespace Go.Proofs.Ytipddhcfcehcaaa
open Go Go.RowKit Go.ChangeShapes Go.WideShapes Go.ChangeAt

section
variable {H : Type} {enc : TypeId × Value → H} {P : Program} {w : World}
/-- A slice's reading gives its cells, element by element. -/
theorem open_slF {fuel0 : Nat} {t e : TypeId} {v : Value} {d : DataW H} {ps : List MemPlace} (ht : P.underlying t = some (.slice e)) (hf : DataW.trod enc P w 0 (fun _ => true) true fuel0 t [v] = some (d, ps)) :
    ∃ (xs : List Value) (elems : List (DataW H × List MemPlace)) (fuel : Nat), (elems = [] ∨ fuel < fuel0) ∧ Sl (· < w.heap.size) w (P.cellsOf e) v xs ∧ xs.length = elems.length * P.cellsOf e ∧
      (∀ i y, elems[i]? = some y → DataW.trod enc P w 0 (fun _ => true) true fuel e ((xs.drop (i * P.cellsOf e)).take (P.cellsOf e)) = some y) ∧
      (d = .nil ∧ elems = [] ∨ ∃ rest, d = .slice (elems.map (·.1)) rest) := by
  rcases DataW.trod_slice ht hf with ⟨hcs, hx⟩ | ⟨a, len, cap, elems, rest, n, hfu, hcs, hx, _, hlc, hcm, hlen, hel, _⟩
  · obtain rfl : v = .slice none 0 0 := by simpa using hcs
    simp only [Prod.mk.injEq] at hx
    exact ⟨[], [], 0, .inl rfl, Sl.nil _ w _, by simp, by simp, .inl ⟨hx.1, rfl⟩⟩
  · obtain rfl : v = .slice (some a) len cap := by simpa using hcs
    generalize hk : P.cellsOf e = k at *
    have hget : ∀ i, i < len → ∃ cs y, w.cells? 0 (a.add (i * k)) k = some cs ∧ elems[i]? = some y ∧ DataW.trod enc P w 0 (fun _ => true) true n e cs = some y := by
      intro i hi
      have h1 := hel i hi
      obtain ⟨y, hy⟩ : ∃ y, elems[i]? = some y := ⟨_, List.getElem?_eq_getElem (by omega)⟩
      rw [hy] at h1
      obtain ⟨cs, hc1, hc2⟩ := Option.bind_eq_some_iff.1 h1
      exact ⟨cs, y, hc1, hy, hc2⟩
    -- the cells, one by one
    obtain ⟨xs, hxl, hxs⟩ : ∃ xs : List Value, xs.length = len * k ∧ ∀ i j, i < len → j < k → w.cell? (a.add (i * k + j)) = xs[i * k + j]? := by
      refine ⟨(List.range (len * k)).map fun m => (w.cell? (a.add m)).getD undef, by simp, fun i j hi hj => ?_⟩
      have hm : i * k + j < len * k := by
        have := Nat.mul_le_mul_right k (show i + 1 ≤ len from hi)
        rw [Nat.add_mul] at this
        omega
      obtain ⟨cs, y, hc1, _, _⟩ := hget i hi
      obtain ⟨hcl, hcc⟩ := cells_get hc1
      have h2 := hcc j hj
      rw [addr_add_add] at h2
      rw [h2, List.getElem?_eq_getElem (by omega)]
      simp [hm, h2, List.getElem?_eq_getElem (show j < cs.length by omega)]
    have hxm : ∀ m u, xs[m]? = some u → w.cell? (a.add m) = some u := by
      intro m u hu
      have hml : m < len * k := by rw [← hxl]; exact (List.getElem?_eq_some_iff.1 hu).1
      have hk0 : 0 < k := by
        apply Nat.pos_of_ne_zero
        intro h0
        rw [h0] at hml
        omega
      have hdm := Nat.div_add_mod m k
      have hi : m / k < len := (Nat.div_lt_iff_lt_mul hk0).2 hml
      have := hxs (m / k) (m % k) hi (Nat.mod_lt _ hk0)
      rw [Nat.mul_comm, hdm] at this
      rw [this, hu]
    refine ⟨xs, elems, n, .inr (by omega), ⟨some a, len, cap, rfl, hxl, hlc, hcm, fun h => (by cases h), fun hne => ?_⟩, by rw [hxl, hlen], fun i y hy => ?_, .inr ⟨rest.map (·.1), ?_⟩⟩
    · obtain ⟨u, hu⟩ : ∃ u, xs[0]? = some u := by
        cases xs with
        | nil => exact absurd rfl hne
        | cons x _ => exact ⟨x, rfl⟩
      have h0 := hxm 0 u hu
      obtain ⟨b, off, s⟩ := a
      have hs : s = none := by
        cases s with
        | none => rfl
        | some s =>
          exfalso
          simp only [Addr.add, World.cell?] at h0
          split at h0 <;> simp at h0
      subst hs
      have hb := World.block_lt_of_cell? w _ h0
      rw [Addr.add_lit] at hb
      exact ⟨b, off, rfl, hb, fun j u hu => by have := hxm j u hu; rwa [Addr.add_lit] at this⟩
    · have hi : i < len := by rw [← hlen]; exact (List.getElem?_eq_some_iff.1 hy).1
      obtain ⟨cs, y', hc1, hy', hc2⟩ := hget i hi
      obtain rfl : y = y' := by rw [hy] at hy'; exact Option.some.inj hy'
      obtain ⟨hcl, hcc⟩ := cells_get hc1
      have : (xs.drop (i * k)).take k = cs := by
        apply List.ext_getElem?
        intro j
        rw [List.getElem?_take]
        split
        · rename_i hj
          rw [List.getElem?_drop, ← hxs i j hi hj, ← hcc j hj, addr_add_add]
        · rename_i hj
          rw [List.getElem?_eq_none (by omega)]
      rw [this]
      exact hc2
    · simp only [Prod.mk.injEq] at hx
      exact hx.1


/-- A row of elements, each of which reads as something, and the data it reads as, one by one. -/
theorem open_rowsB {α : Type} (ec : α → List Value) (Q : α → DataW H → Prop) {t e : TypeId} {v : Value} {fuel0 : Nat} {y0 : DataW H × List MemPlace} {sz : Nat}
    (ht : P.underlying t = some (.slice e)) (hsz : P.cellsOf e = sz) (h : DataW.trod enc P w 0 (fun _ => true) true fuel0 t [v] = some y0)
    (hel : ∀ fuel, fuel < fuel0 → ∀ cs y, DataW.trod enc P w 0 (fun _ => true) true fuel e cs = some y → ∃ a, cs = ec a ∧ Q a y.1) :
    ∃ l : List (α × DataW H), Sl (· < w.heap.size) w sz v ((l.map (·.1)).flatMap ec) ∧ (∀ p ∈ l, Q p.1 p.2) ∧ (l = [] ∨ ∃ rest, y0.1 = .slice (l.map (·.2)) rest) := by
  obtain ⟨xs, elems, fuel, hfu, hs, hl, he, hd⟩ := open_slF ht (d := y0.1) (ps := y0.2) h
  rw [hsz] at hs hl he
  have main : ∀ n, n ≤ elems.length → ∃ l : List (α × DataW H), l.length = n ∧ xs.take (n * sz) = (l.map (·.1)).flatMap ec ∧ l.map (·.2) = (elems.take n).map (·.1) ∧ ∀ p ∈ l, Q p.1 p.2 := by
    intro n
    induction n with
    | zero => intro _; exact ⟨[], rfl, by simp, by simp, by simp⟩
    | succ n ih =>
      intro hn
      obtain ⟨l, hl0, hl1, hl3, hl2⟩ := ih (by omega)
      have hf : fuel < fuel0 := by
        rcases hfu with h | h
        · rw [h] at hn; simp at hn
        · exact h
      obtain ⟨a, ha, hq⟩ := hel _ hf _ _ (he n elems[n] (List.getElem?_eq_getElem (by omega)))
      refine ⟨l ++ [(a, elems[n].1)], by simp [hl0], ?_, ?_, fun b hb => ?_⟩
      · rw [Nat.add_mul, Nat.one_mul, List.take_add, hl1, ha, List.map_append, List.flatMap_append]
        simp
      · rw [List.map_append, hl3, List.take_succ_eq_append_getElem (by omega), List.map_append]
        rfl
      · rcases List.mem_append.1 hb with hb | hb
        · exact hl2 b hb
        · obtain rfl : b = (a, elems[n].1) := by simpa using hb
          exact hq
  obtain ⟨l, hl0, hl1, hl3, hl2⟩ := main elems.length (Nat.le_refl _)
  rw [← hl, List.take_length] at hl1
  rw [List.take_length] at hl3
  refine ⟨l, hl1 ▸ hs, hl2, ?_⟩
  rcases hd with ⟨_, rfl⟩ | ⟨rest, hd⟩
  · exact .inl (List.eq_nil_of_length_eq_zero (by simpa using hl0))
  · exact .inr ⟨rest, by rw [hl3]; exact hd⟩
end

mutual
/-- A rule's bulk, as data. -/
def RT.bk : RT → Nat | .mk _ a b ps => 5 + a.size + b.size + bkL ps
def bkL : List RT → Nat | [] => 0 | r :: rs => r.bk + bkL rs
end
def relBk (x : ByteArray × RT) : Nat := 2 + x.1.size + x.2.bk
def sumN {α : Type} (f : α → Nat) : List α → Nat | [] => 0 | x :: l => f x + sumN f l
theorem relBk_eq (x : ByteArray × RT) : relBk x = 2 + x.1.size + x.2.bk := rfl
def tyBk (t : TyS) : Nat := 2 + t.name.size + sumN relBk t.rels
theorem tyBk_eq (t : TyS) : tyBk t = 2 + t.name.size + sumN relBk t.rels := rfl
theorem bkL_sum (l : List RT) : bkL l = sumN RT.bk l := by
  induction l with
  | nil => rfl
  | cons x l ih => rw [bkL, sumN, ih]
theorem bulk_sum {H α : Type} {f : α → Nat} : ∀ {l : List (α × DataW H)}, (∀ p ∈ l, f p.1 ≤ Rows.uptoBulk p.2) → sumN f (l.map (·.1)) ≤ Rows.uptoBulkAll (l.map (·.2))
  | [], _ => Nat.zero_le _
  | p :: l, h => by
    rw [List.map_cons, List.map_cons, sumN, Rows.uptoBulkAll]
    have h1 := h p List.mem_cons_self
    have h2 := bulk_sum (l := l) fun q hq => h q (List.mem_cons_of_mem _ hq)
    omega

theorem bulk_pos {H : Type} (d : DataW H) : 1 ≤ Rows.uptoBulk d := by
  cases d with
  | lit l => cases l <;> simp [Rows.uptoBulk]
  | nil => simp [Rows.uptoBulk]
  | ptr d => simp [Rows.uptoBulk]
  | slice elems spare => simp [Rows.uptoBulk]
  | agg parts => simp [Rows.uptoBulk]
  | iface t d => simp [Rows.uptoBulk]
  | map entries => simp [Rows.uptoBulk]
  | held h => simp [Rows.uptoBulk]
theorem bulk_row {H α : Type} {f : α → Nat} {l : List (α × DataW H)} {d : DataW H} (hd : l = [] ∨ ∃ rest, d = .slice (l.map (·.2)) rest) (h : ∀ p ∈ l, f p.1 ≤ Rows.uptoBulk p.2) : sumN f (l.map (·.1)) + 1 ≤ Rows.uptoBulk d := by
  rcases hd with rfl | ⟨rest, rfl⟩
  · have := bulk_pos d
    simpa [sumN] using this
  · rw [Rows.uptoBulk]
    have := bulk_sum (f := f) h
    omega
theorem sumN_map {α β : Type} (g : β → Nat) (f : α → β) (l : List α) : sumN (fun x => g (f x)) l = sumN g (l.map f) := by
  induction l with
  | nil => rfl
  | cons x l ih => rw [List.map_cons, sumN, sumN, ih]
theorem sumN_mem {α : Type} (f : α → Nat) {a : α} : ∀ {l : List α}, a ∈ l → f a ≤ sumN f l
  | x :: l, h => by
    rw [sumN]
    rcases List.mem_cons.1 h with rfl | h
    · omega
    · have := sumN_mem f h; omega

section
variable {H : Type} {enc : TypeId × Value → H} {W : World} {base : Nat} {v : Value} {d : DataW H} {ps : List MemPlace}

def RuleQ (W : World) (x : RT × Value) (d : DataW H) : Prop := RTAt (· < W.heap.size) W x.1 x.2 ∧ (x.1.bk ≤ 1048576 → x.1.Ok) ∧ x.1.bk ≤ Rows.uptoBulk d

set_option maxRecDepth 100000 in
theorem open_rule_cells (fuel : Nat) : ∀ {cs : List Value} {y : DataW H × List MemPlace}, DataW.trod enc Try.prog W 0 (fun _ => true) true fuel 72 cs = some y → ∃ x : RT × Value, cs = rC x ∧ RuleQ W x y.1 := by
  induction fuel using Nat.strongRecOn with
  | ind fuel ih =>
  intro cs y hy
  obtain ⟨xs, n, hfn, hyx, hl, hlen, hf⟩ := DataW.trod_struct Try.underlying72 hy
  rw [show Try.prog.cellsOf 72 = 4 from by kernel_rfl] at hl
  obtain ⟨c0, c1, c2, c3, rfl⟩ : ∃ c0 c1 c2 c3, cs = [c0, c1, c2, c3] := by
    match cs, hl with
    | [c0, c1, c2, c3], _ => exact ⟨c0, c1, c2, c3, rfl⟩
  have h0 := hf 0 _ rfl
  have h1 := hf 1 _ rfl
  have h2 := hf 2 _ rfl
  have h3 := hf 3 _ rfl
  obtain ⟨y0, y1, y2, y3, rfl⟩ : ∃ y0 y1 y2 y3, xs = [y0, y1, y2, y3] := by
    match xs, hlen with
    | [y0, y1, y2, y3], _ => exact ⟨y0, y1, y2, y3, rfl⟩
  have k0 : Try.prog.cellsOf 3 = 1 := by kernel_rfl
  have k1 : Try.prog.cellsOf 9 = 1 := by kernel_rfl
  have k2 : Try.prog.cellsOf 70 = 1 := by kernel_rfl
  obtain ⟨k, e0, d0, w0⟩ := DataW.trod_int Try.underlying3 h0
  obtain ⟨a, e1, d1, wa⟩ := DataW.trod_string Try.underlying9 h1
  obtain ⟨b, e2, d2, wb⟩ := DataW.trod_string Try.underlying9 h2
  simp [k0] at e0
  simp [k1] at e1 e2
  subst e0 e1 e2
  have h3' : DataW.trod enc Try.prog W 0 (fun _ => true) true n 70 [c3] = some y3 := by simpa [k2] using h3
  obtain ⟨l, hs, hq, hd⟩ := open_rowsB rC (RuleQ W) Try.underlying70 (show _ = 4 by kernel_rfl) h3' (fun fuel' hlt cs y hy => ih fuel' (by omega) hy)
  have hbk : (RT.mk k a b (l.map (·.1.1))).bk ≤ Rows.uptoBulk y.1 := by
    have h4 := bulk_row (f := fun x : RT × Value => x.1.bk) hd fun p hp => (hq p hp).2.2
    rw [sumN_map RT.bk (fun x : RT × Value => x.1), List.map_map] at h4
    rw [hyx, d0, d1, d2, RT.bk, bkL_sum]
    simp only [List.map_cons, List.map_nil, Rows.uptoBulkAll, Rows.uptoBulk, Array.length_toList]
    have e : (l.map (·.1.1)) = l.map ((fun x : RT × Value => x.1) ∘ fun x => x.1) := rfl
    rw [e]
    show 5 + a.data.size + b.data.size + _ ≤ _
    omega
  refine ⟨(.mk k a b (l.map (·.1.1)), c3), rfl, (RTAt.iff _ _).2 ⟨l.map (·.1), by simp [RT.ps, List.map_map], fun x hx => ?_, hs⟩, fun hle => ?_, hbk⟩
  · obtain ⟨p, hp, rfl⟩ := List.mem_map.1 hx
    exact (hq p hp).1
  · rw [RT.bk] at hle
    refine (RT.ok_iff _).2 ⟨?_, ?_, ?_, fun r hr => ?_⟩
    · have := w0
      simp [Lit.wf] at this
      exact this
    · show a.size ≤ _; omega
    · show b.size ≤ _; omega
    · obtain ⟨p, hp, rfl⟩ := List.mem_map.1 hr
      exact (hq p hp).2.1 (by
        have : p.1.1.bk ≤ bkL (l.map (·.1.1)) := by
          rw [bkL_sum]
          exact sumN_mem _ (List.mem_map.2 ⟨p, hp, rfl⟩)
        omega)

def RelQ (W : World) (x : (ByteArray × RT) × Value) (d : DataW H) : Prop := RTAt (· < W.heap.size) W x.1.2 x.2 ∧ (relBk x.1 ≤ 1048576 → x.1.2.Ok) ∧ relBk x.1 ≤ Rows.uptoBulk d
set_option maxRecDepth 100000 in
theorem open_rel_cells {fuel : Nat} {cs : List Value} {y : DataW H × List MemPlace} (hy : DataW.trod enc Try.prog W 0 (fun _ => true) true fuel 82 cs = some y) : ∃ x : (ByteArray × RT) × Value, cs = relC x ∧ RelQ W x y.1 := by
  obtain ⟨xs, n, hfn, hyx, hl, hlen, hf⟩ := DataW.trod_struct Try.underlying82 hy
  rw [show Try.prog.cellsOf 82 = 5 from by kernel_rfl] at hl
  obtain ⟨c0, c1, c2, c3, c4, rfl⟩ : ∃ c0 c1 c2 c3 c4, cs = [c0, c1, c2, c3, c4] := by
    match cs, hl with
    | [c0, c1, c2, c3, c4], _ => exact ⟨c0, c1, c2, c3, c4, rfl⟩
  have h0 := hf 0 _ rfl
  have h1 := hf 1 _ rfl
  obtain ⟨y0, y1, rfl⟩ : ∃ y0 y1, xs = [y0, y1] := by
    match xs, hlen with
    | [y0, y1], _ => exact ⟨y0, y1, rfl⟩
  have k0 : Try.prog.cellsOf 9 = 1 := by kernel_rfl
  have k1 : Try.prog.cellsOf 72 = 4 := by kernel_rfl
  obtain ⟨a, e0, d0, wa⟩ := DataW.trod_string Try.underlying9 h0
  simp [k0] at e0
  subst e0
  have h1' : DataW.trod enc Try.prog W 0 (fun _ => true) true n 72 [c1, c2, c3, c4] = some y1 := by simpa [k1] using h1
  obtain ⟨⟨r, pv⟩, hc, hat, hok, hbk⟩ := open_rule_cells n h1'
  simp only [rC, List.cons.injEq, and_true] at hc
  obtain ⟨rfl, rfl, rfl, rfl⟩ := hc
  refine ⟨((a, r), _), rfl, hat, fun hle => hok ?_, ?_⟩
  · unfold relBk at hle
    dsimp only at hle ⊢
    omega
  · rw [hyx, d0]
    simp only [List.map_cons, List.map_nil, Rows.uptoBulkAll, Rows.uptoBulk, Array.length_toList]
    show 2 + a.data.size + r.bk ≤ _
    dsimp only at hbk
    omega

def TyQ (W : World) (x : TyS × Value) (d : DataW H) : Prop := RelsAt (· < W.heap.size) W x.1.rels x.2 ∧ (tyBk x.1 ≤ 1048576 → x.1.Ok) ∧ tyBk x.1 ≤ Rows.uptoBulk d
set_option maxRecDepth 100000 in
theorem open_type_cells {fuel : Nat} {cs : List Value} {y : DataW H × List MemPlace} (hy : DataW.trod enc Try.prog W 0 (fun _ => true) true fuel 49 cs = some y) : ∃ x : TyS × Value, cs = tyC x ∧ TyQ W x y.1 := by
  obtain ⟨xs, n, hfn, hyx, hl, hlen, hf⟩ := DataW.trod_struct Try.underlying49 hy
  rw [show Try.prog.cellsOf 49 = 2 from by kernel_rfl] at hl
  obtain ⟨c0, c1, rfl⟩ : ∃ c0 c1, cs = [c0, c1] := by
    match cs, hl with
    | [c0, c1], _ => exact ⟨c0, c1, rfl⟩
  have h0 := hf 0 _ rfl
  have h1 := hf 1 _ rfl
  obtain ⟨y0, y1, rfl⟩ : ∃ y0 y1, xs = [y0, y1] := by
    match xs, hlen with
    | [y0, y1], _ => exact ⟨y0, y1, rfl⟩
  have k0 : Try.prog.cellsOf 9 = 1 := by kernel_rfl
  have k1 : Try.prog.cellsOf 47 = 1 := by kernel_rfl
  obtain ⟨a, e0, d0, wa⟩ := DataW.trod_string Try.underlying9 h0
  simp [k0] at e0
  subst e0
  have h1' : DataW.trod enc Try.prog W 0 (fun _ => true) true n 47 [c1] = some y1 := by simpa [k1] using h1
  obtain ⟨l, hs, hq, hd⟩ := open_rowsB relC (RelQ W) Try.underlying47 (show _ = 5 by kernel_rfl) h1' (fun fuel' _ cs y hy => open_rel_cells hy)
  have h4 := bulk_row (f := fun x : (ByteArray × RT) × Value => relBk x.1) hd fun p hp => (hq p hp).2.2
  rw [sumN_map relBk (fun x : (ByteArray × RT) × Value => x.1), List.map_map] at h4
  refine ⟨(⟨a, l.map ((fun x : (ByteArray × RT) × Value => x.1) ∘ fun x => x.1)⟩, c1), rfl, ⟨l.map (·.1), by simp [List.map_map], fun x hx => ?_, hs⟩, fun hle => ?_, ?_⟩
  · obtain ⟨p, hp, rfl⟩ := List.mem_map.1 hx
    exact (hq p hp).1
  · unfold tyBk at hle
    dsimp only at hle
    refine ⟨by show a.size ≤ _; omega, fun r hr => ?_⟩
    have h5 := sumN_mem relBk hr
    obtain ⟨p, hp, rfl⟩ := List.mem_map.1 hr
    dsimp only [Function.comp_apply] at h5
    refine ⟨?_, (hq p hp).2.1 (by omega)⟩
    have h6 := relBk_eq p.1.1
    show p.1.1.1.size ≤ _
    omega
  · rw [hyx, d0, tyBk_eq]
    simp only [List.map_cons, List.map_nil, Rows.uptoBulkAll, Rows.uptoBulk, Array.length_toList]
    show 2 + a.data.size + sumN relBk (l.map ((fun x : (ByteArray × RT) × Value => x.1) ∘ fun x => x.1)) + 0 ≤ _
    omega

def schBk (ts : List TyS) : Nat := sumN tyBk ts
set_option maxRecDepth 100000 in
theorem open_schemaV (hok : Value.okWide Try.prog W .any base 24 v) (h : DataW.Trod enc Try.prog W 0 (fun _ => true) true 24 v d ps) : ∃ (ts : List TyS) (tv : Value), v = .agg #[tv] ∧ TysAt (· < W.heap.size) W ts tv ∧ schBk ts + 2 ≤ Rows.uptoBulk d ∧ (schBk ts ≤ 1048576 → ∀ t ∈ ts, t.Ok) := by
  obtain ⟨ca, rfl, _⟩ := okWide_struct Try.underlying24 hok
  obtain ⟨fuel, hy⟩ := h
  obtain ⟨xs, n, hfn, hyx, hl, hlen, hf⟩ := DataW.trod_struct Try.underlying24 hy
  rw [show Try.prog.cellsOf 24 = 1 from by kernel_rfl] at hl
  obtain ⟨c0, hc⟩ : ∃ c0, (Value.agg ca).cells.toList = [c0] := by
    match (Value.agg ca).cells.toList, hl with
    | [c0], _ => exact ⟨c0, rfl⟩
  have h0 := hf 0 _ rfl
  obtain ⟨y0, rfl⟩ : ∃ y0, xs = [y0] := by
    match xs, hlen with
    | [y0], _ => exact ⟨y0, rfl⟩
  have k0 : Try.prog.cellsOf 22 = 1 := by kernel_rfl
  rw [hc] at h0
  have h0' : DataW.trod enc Try.prog W 0 (fun _ => true) true n 22 [c0] = some y0 := by simpa [k0] using h0
  obtain ⟨l, hs, hq, hd⟩ := open_rowsB tyC (TyQ W) Try.underlying22 (show _ = 2 by kernel_rfl) h0' (fun fuel' _ cs y hy => open_type_cells hy)
  have h4 := bulk_row (f := fun x : TyS × Value => tyBk x.1) hd fun p hp => (hq p hp).2.2
  rw [sumN_map tyBk (fun x : TyS × Value => x.1), List.map_map] at h4
  refine ⟨l.map ((fun x : TyS × Value => x.1) ∘ fun x => x.1), c0, congrArg Value.agg (Array.toList_inj.1 hc), ⟨l.map (·.1), by simp [List.map_map], fun x hx => ?_, hs⟩, ?_, fun hle t ht => ?_⟩
  · obtain ⟨p, hp, rfl⟩ := List.mem_map.1 hx
    exact (hq p hp).1
  · have hdd := congrArg Prod.fst hyx
    dsimp only at hdd
    rw [hdd]
    simp only [List.map_cons, List.map_nil, Rows.uptoBulkAll, Rows.uptoBulk]
    unfold schBk
    omega
  · have h5 := sumN_mem tyBk ht
    obtain ⟨p, hp, rfl⟩ := List.mem_map.1 ht
    unfold schBk at hle
    exact (hq p hp).2.1 (by dsimp only [Function.comp_apply] at h5; omega)
end

theorem sz_bk (r : RT) : 5 * r.sz ≤ r.bk ∧ 5 + r.a.size + r.b.size ≤ r.bk := by
  induction r using RT.ind with
  | h r ih =>
    obtain ⟨k, a, b, ps⟩ := r
    have : 5 * szL ps ≤ bkL ps := by
      have hh : ∀ p ∈ ps, 5 * p.sz ≤ p.bk := fun p hp => (ih p hp).1
      clear ih
      induction ps with
      | nil => simp [szL, bkL]
      | cons x ps ih =>
        rw [szL, bkL]
        have h1 := hh x List.mem_cons_self
        have h2 := ih fun p hp => hh p (List.mem_cons_of_mem _ hp)
        omega
    rw [RT.sz, RT.bk]
    refine ⟨by omega, ?_⟩
    show 5 + a.size + b.size ≤ _
    omega
theorem relW_bk (l : List (ByteArray × RT)) : relW l ≤ 20 * sumN relBk l := by
  induction l with
  | nil => simp [relW]
  | cons x l ih =>
    rw [relW, sumN]
    have := (sz_bk x.2).1
    have := relBk_eq x
    omega
theorem schW_bk (ts : List TyS) : schW ts ≤ 20 * schBk ts := by
  induction ts with
  | nil => simp [schW]
  | cons t ts ih =>
    rw [schW]
    have := relW_bk t.rels
    unfold schBk at ih ⊢
    rw [sumN]
    have := tyBk_eq t
    omega
theorem rels_bk (l : List (ByteArray × RT)) : l.length ≤ sumN relBk l := by
  induction l with
  | nil => simp
  | cons x l ih => rw [sumN, List.length_cons]; have := relBk_eq x; omega
theorem names_bk (ts : List TyS) : (namesOf ts).length ≤ schBk ts ∧ (refsOf ts).length ≤ schBk ts := by
  induction ts with
  | nil => exact ⟨Nat.zero_le _, Nat.zero_le _⟩
  | cons t ts ih =>
    have h1 := rels_bk t.rels
    unfold schBk namesOf refsOf at ih ⊢
    rw [List.flatMap_cons, List.flatMap_cons, List.length_append, List.length_append, sumN]
    have h2 : (relsOf t.name t.rels).length = t.rels.length := by unfold relsOf; rw [List.length_map]
    have h3 : (namesT t).length ≤ t.rels.length + 1 := by unfold namesT; simp
    have := tyBk_eq t
    omega
theorem sz_sch {ts : List TyS} (h : schBk ts ≤ 1048576) : ∀ t ∈ ts, ∀ r ∈ t.rels, r.2.sz ≤ 1000000 := fun t ht r hr => by
  have h1 := sumN_mem tyBk ht
  have h2 := sumN_mem relBk hr
  have h3 := (sz_bk r.2).1
  unfold schBk at h
  have h4 := tyBk_eq t
  have h5 := relBk_eq r
  omega
theorem wt_bk (r : RT) : r.wt + 8 ≤ 4 * r.bk := by
  induction r using RT.ind with
  | h r ih =>
    obtain ⟨k, a, b, ps⟩ := r
    have : wtL ps ≤ 4 * bkL ps := by
      have hh : ∀ p ∈ ps, p.wt + 8 ≤ 4 * p.bk := fun p hp => ih p hp
      clear ih
      induction ps with
      | nil => simp [wtL, bkL]
      | cons x ps ih =>
        rw [wtL, bkL]
        have h1 := hh x List.mem_cons_self
        have h2 := ih fun p hp => hh p (List.mem_cons_of_mem _ hp)
        omega
    rw [RT.wt, RT.bk]
    omega
theorem relB_bk (l : List (ByteArray × RT)) : relB l ≤ 5 * sumN relBk l := by
  induction l with
  | nil => simp [relB]
  | cons x l ih =>
    rw [relB, sumN]
    have := wt_bk x.2
    have := relBk_eq x
    omega
theorem schB_bk (ts : List TyS) : schB ts ≤ 5 * schBk ts := by
  induction ts with
  | nil => simp [schB]
  | cons t ts ih =>
    rw [schB]
    have := relB_bk t.rels
    unfold schBk at ih ⊢
    rw [sumN]
    have := tyBk_eq t
    omega

end Go.Proofs.Ytipddhcfcehcaaa
namespace Go.Proofs.Ytipddhcfcehcaaa
open Go Go.RowKit Go.Maps

theorem ba_toList_inj {a b : ByteArray} (h : a.toList = b.toList) : a = b := by
  rw [ByteArray.toList_eq, ByteArray.toList_eq] at h
  exact ByteArray.ext (by rw [← Array.toList_inj]; exact h)
theorem parts_eq {l m : List RT} (hl : l.length = m.length) (h : ∀ i (h1 : i < l.length) (h2 : i < m.length), l[i] = m[i]) : l = m := List.ext_getElem hl h

set_option maxRecDepth 100000 in
set_option maxHeartbeats 600000 in
theorem sameRule_any (r : RT) : ∀ (q : RT) (pv qv : Value) (w : World) (t : Bool), RTAt (· < w.heap.size) w r pv → RTAt (· < w.heap.size) w q qv → (t = true ↔ r = q) →
    Calls Try.prog 48 #[rV r pv, rV q qv] w fun e w' => e = .returned (.bool t) ∧ Below w.heap.size w w' := by
  induction r using RT.ind with
  | h r ih =>
  intro q pv qv w t hr hq ht
  have HT := Lib.hid ht
  obtain ⟨ao, c, rfl, hlc, hcm, hcell⟩ := hr.rows
  obtain ⟨ao2, cc, rfl, hlc2, hcm2, hcell2⟩ := hq.rows
  have HC := Lib.hid hcell
  have HC2 := Lib.hid hcell2
  have HI := Lib.hid ih
  clear ih hcell hcell2 hr hq ht
  obtain ⟨k, a, b, ps⟩ := r
  obtain ⟨k2, a2, b2, qs⟩ := q
  unfold rV
  dsimp only [RT.ps] at HC HC2 HI hlc hlc2
  dsimp only [RT.k, RT.a, RT.b, RT.ps]
  have hX := Ext.trans (Ext.alloc w (.cells #[.int .i64 k, .string a, .string b, .slice ao ps.length c] 72)) (Ext.alloc _ (.cells #[.int .i64 k2, .string a2, .string b2, .slice ao2 qs.length cc] 72))
  have HX := Lib.hid hX
  clear hX
  by_cases hk : k = k2
  case neg =>
    have hk1 : (k == k2) = false := by rw [beq_eq_false_iff_ne]; exact hk
    have hk2 : (k != k2) = true := by rw [bne_iff_ne]; exact hk
    have HN := Lib.hid (show ¬ RT.mk k a b ps = RT.mk k2 a2 b2 qs from fun h => hk (by injection h))
    have HTF := Lib.hid (show t = false from by cases t with | false => rfl | true => exact absurd (HT.out.1 rfl) HN.out)
    clear hk
    go_enter Try.func48, Try.ntmps48
    go_wp2_with fail
    go_ret
    exact ⟨by rw [HTF.out]; rfl, HX.out⟩
  subst hk
  by_cases ha : a = a2
  case neg =>
    have ha1 := ba_beq' ha
    have ha2 : ¬ a.toList = a2.toList := fun h => ha (ba_toList_inj h)
    have HN := Lib.hid (show ¬ RT.mk k a b ps = RT.mk k a2 b2 qs from fun h => ha (by injection h))
    have HTF := Lib.hid (show t = false from by cases t with | false => rfl | true => exact absurd (HT.out.1 rfl) HN.out)
    clear ha
    go_enter Try.func48, Try.ntmps48
    go_wp2_with fail
    go_ret
    exact ⟨by rw [HTF.out]; rfl, HX.out⟩
  subst ha
  by_cases hb : b = b2
  case neg =>
    have hb1 := ba_beq' hb
    have hb2 : ¬ b.toList = b2.toList := fun h => hb (ba_toList_inj h)
    have HN := Lib.hid (show ¬ RT.mk k a b ps = RT.mk k a b2 qs from fun h => hb (by injection h))
    have HTF := Lib.hid (show t = false from by cases t with | false => rfl | true => exact absurd (HT.out.1 rfl) HN.out)
    clear hb
    go_enter Try.func48, Try.ntmps48
    go_wp2_with fail
    go_ret
    exact ⟨by rw [HTF.out]; rfl, HX.out⟩
  subst hb
  by_cases hn : ps.length = qs.length
  case neg =>
    have HN := Lib.hid (show ¬ RT.mk k a b ps = RT.mk k a b qs from fun h => hn (by injection h with _ _ _ h; rw [h]))
    have HTF := Lib.hid (show t = false from by cases t with | false => rfl | true => exact absurd (HT.out.1 rfl) HN.out)
    clear HC HC2 HI
    generalize ps.length = n1 at *
    generalize qs.length = n2 at *
    have hn1 : ((n1 : Int) == (n2 : Int)) = false := by rw [beq_eq_false_iff_ne]; omega
    have hn2 : ((n1 : Int) != (n2 : Int)) = true := by rw [bne_iff_ne]; omega
    clear hn
    go_enter Try.func48, Try.ntmps48
    go_wp2_with fail
    go_ret
    exact ⟨by rw [HTF.out]; rfl, HX.out⟩
  have HN := Lib.hid hn
  obtain ⟨wa, hwa⟩ : ∃ x, x = w.alloc (.cells #[.int .i64 k, .string a, .string b, .slice ao ps.length c] 72) := ⟨_, rfl⟩
  obtain ⟨wb, hwb⟩ : ∃ x, x = wa.alloc (.cells #[.int .i64 k, .string a, .string b, .slice ao2 ps.length cc] 72) := ⟨_, rfl⟩
  have e1 : wa.heap.size = w.heap.size + 1 := by rw [hwa]; simp
  have x12 : Ext wa wb := by rw [hwb]; exact Ext.alloc _ _
  have HA := Lib.hid (show Blk wb w.heap.size #[.int .i64 k, .string a, .string b, .slice ao ps.length c] 72 from Blk.below (by rw [hwa]; exact Blk.made _ _ _) x12)
  have HB := Lib.hid (show Blk wb (w.heap.size + 1) #[.int .i64 k, .string a, .string b, .slice ao2 ps.length cc] 72 from by rw [hwb, ← e1]; exact Blk.made _ _ _)
  rw [← hn] at HX hlc2 ⊢
  have HX := Lib.hid (show Below w.heap.size w wb from by rw [hwb, hwa]; exact HX.out)
  have ha := HA.out.cells
  have hb := HB.out.cells
  subst hwb hwa
  clear e1 x12 hn
  go_enter Try.func48, Try.ntmps48
  go_wp2_with fail
  obtain ⟨wb, hwb⟩ : ∃ x, x = (w.alloc (.cells #[.int .i64 k, .string a, .string b, .slice ao ps.length c] 72)).alloc (.cells #[.int .i64 k, .string a, .string b, .slice ao2 ps.length cc] 72) := ⟨_, rfl⟩
  rw [← hwb] at HA HB HX ⊢
  clear hwb ha hb
  go_loopw [5, 37] (fun _ iv wr => ∃ i : Nat, i ≤ ps.length ∧ iv = .int .i64 i ∧ (∀ j (h1 : j < ps.length) (h2 : j < qs.length), j < i → ps[j] = qs[j]) ∧ Ext wb wr) (fun _ iv _ => ps.length - (intOf iv).toNat)
  case atStart => exact ⟨0, by omega, rfl, fun j _ _ h => absurd h (by omega), Ext.refl _⟩
  case round =>
    obtain ⟨i, hi, rfl, hall, hext⟩ := hrel
    have HALL := Lib.hid hall
    have HE := Lib.hid hext
    have hbel := Lib.hid (show Below w.heap.size w wr from HX.out.trans (hext.mono HX.out.size))
    clear hall
    by_cases hlt : i < ps.length
    · have hlt2 : i < qs.length := by have := HN.out; omega
      obtain ⟨bb, off, pv, rfl, hb, c0, c1, c2, c3, hpt⟩ := HC.out i hlt
      obtain ⟨bb2, off2, qv, rfl, hb2, f0, f1, f2, f3, hqt⟩ := HC2.out i hlt2
      have HI2 := Lib.hid (HI.out ps[i] (List.getElem_mem hlt) qs[i])
      have HST := Lib.hid (show ps[i] = qs[i] → ∀ j (h1 : j < ps.length) (h2 : j < qs.length), j < i + 1 → ps[j] = qs[j] from fun he j h1 h2 hj => by
        by_cases hji : j = i
        · subst hji; exact he
        · exact HALL.out j h1 h2 (by omega))
      have HNE := Lib.hid (show ¬ ps[i] = qs[i] → ¬ RT.mk k a b ps = RT.mk k a b qs from fun hne h => hne (by injection h with _ _ _ h; subst h; rfl))
      obtain ⟨aop, cp, rfl, -, -, -⟩ := hpt.rows
      obtain ⟨aoq, cq, rfl, -, -, -⟩ := hqt.rows
      generalize ps[i] = p at *
      generalize qs[i] = q at *
      have HPT := Lib.hid hpt
      have HQT := Lib.hid hqt
      clear hpt hqt hlt2
      go_wp2_with fail
      have hx := hbel.out
      have hra : ∀ W, Ext wr W → W.cell? ⟨w.heap.size, 3, none⟩ = some (.slice (some ⟨bb, off, none⟩) ps.length c) := fun W h => by rw [(HA.out.below (HE.out.trans h)).cells]; rfl
      have hrb : ∀ W, Ext wr W → W.cell? ⟨w.heap.size + 1, 3, none⟩ = some (.slice (some ⟨bb2, off2, none⟩) ps.length cc) := fun W h => by rw [(HB.out.below (HE.out.trans h)).cells]; rfl
      have g0 : ∀ W, Ext wr W → W.cell? ⟨bb, off + i * 4, none⟩ = some (.int .i64 p.k) := fun W h => ((Below.cell (hx.trans (h.mono hx.size)) (p := ⟨bb, off + i * 4, none⟩) hb)).trans c0
      have g1 : ∀ W, Ext wr W → W.cell? ⟨bb, off + i * 4 + 1, none⟩ = some (.string p.a) := fun W h => ((Below.cell (hx.trans (h.mono hx.size)) (p := ⟨bb, off + i * 4 + 1, none⟩) hb)).trans c1
      have g2 : ∀ W, Ext wr W → W.cell? ⟨bb, off + i * 4 + 2, none⟩ = some (.string p.b) := fun W h => ((Below.cell (hx.trans (h.mono hx.size)) (p := ⟨bb, off + i * 4 + 2, none⟩) hb)).trans c2
      have g3 : ∀ W, Ext wr W → W.cell? ⟨bb, off + i * 4 + 3, none⟩ = some (.slice aop p.ps.length cp) := fun W h => ((Below.cell (hx.trans (h.mono hx.size)) (p := ⟨bb, off + i * 4 + 3, none⟩) hb)).trans c3
      have k0 : ∀ W, Ext wr W → W.cell? ⟨bb2, off2 + i * 4, none⟩ = some (.int .i64 q.k) := fun W h => ((Below.cell (hx.trans (h.mono hx.size)) (p := ⟨bb2, off2 + i * 4, none⟩) hb2)).trans f0
      have k1 : ∀ W, Ext wr W → W.cell? ⟨bb2, off2 + i * 4 + 1, none⟩ = some (.string q.a) := fun W h => ((Below.cell (hx.trans (h.mono hx.size)) (p := ⟨bb2, off2 + i * 4 + 1, none⟩) hb2)).trans f1
      have k2 : ∀ W, Ext wr W → W.cell? ⟨bb2, off2 + i * 4 + 2, none⟩ = some (.string q.b) := fun W h => ((Below.cell (hx.trans (h.mono hx.size)) (p := ⟨bb2, off2 + i * 4 + 2, none⟩) hb2)).trans f2
      have k3 : ∀ W, Ext wr W → W.cell? ⟨bb2, off2 + i * 4 + 3, none⟩ = some (.slice aoq q.ps.length cq) := fun W h => ((Below.cell (hx.trans (h.mono hx.size)) (p := ⟨bb2, off2 + i * 4 + 3, none⟩) hb2)).trans f3
      have hE : Ext wr wr.drew := Ext.drew wr
      have HX2 := Lib.hid (show Below w.heap.size w wr.drew from hx.trans (hE.mono hx.size))
      have HE2 := Lib.hid (show Ext wb wr.drew from HE.out.trans hE)
      clear c0 c1 c2 c3 f0 f1 f2 f3 hb hb2 hx hext hbel HE
      refine region_walk [(0, true), (1, true), (2, true), (3, true), (4, true), (5, true), (6, true), (7, true), (8, true), (9, true), (10, false), (11, true)] (by kernel_rfl) (by kernel_rfl) (by kernel_rfl) rfl (fun _ _ d _ _ h => by cases d <;> exact h) ?_
      iterate 10 ((refine Walk.take _ ?_ (by simp only [List.getElem?_toArray, List.getElem?_cons_succ, List.getElem?_cons_zero]; rfl) (by rfl) (fun W hW => ?_) ?_; rotate_left; · (have hE0 := hE.trans hW; go_simp; try with_reducible rfl)); simp only [Act.put, List.setIfInBounds_toArray, List.set_cons_zero, List.set_cons_succ])
      refine Walk.make _ (by simp only [List.getElem?_toArray, List.getElem?_cons_succ, List.getElem?_cons_zero]; rfl) (by rfl) (fun K hK => ?_); go_simp
      obtain ⟨tf, htf⟩ : ∃ tf : Bool, tf = true ↔ p = q := by
        by_cases h : p = q
        · exact ⟨true, by simp [h]⟩
        · exact ⟨false, by simp [h]⟩
      have HTF2 := Lib.hid htf
      clear htf
      refine (HI2.out _ _ _ tf (HPT.out.up HX2.out) (HQT.out.up HX2.out) HTF2.out).mono ?_
      rintro e w4 ⟨rfl, hb4⟩
      refine hK.out _ _ hb4 ?_
      have hE := hE.trans hb4
      clear hK
      iterate 1 ((refine Walk.take _ ?_ (by simp only [List.getElem?_toArray, List.getElem?_cons_succ, List.getElem?_cons_zero]; rfl) (by rfl) (fun W hW => ?_) ?_; rotate_left; · (have hE0 := hE.trans hW; go_simp; try with_reducible rfl)); simp only [Act.put, List.setIfInBounds_toArray, List.set_cons_zero, List.set_cons_succ])
      unfold Walk
      have HE4 := Lib.hid (show Ext wb w4 from HE2.out.trans hb4)
      have HX4 := Lib.hid (show Below w.heap.size w w4 from HX2.out.trans (hb4.mono HX2.out.size))
      clear hE hra hrb g0 g1 g2 g3 k0 k1 k2 k3 hb4
      cases tf with
      | true =>
        have HS := Lib.hid (HST.out (HTF2.out.1 rfl))
        go_wp2_with fail
        go_roundw
        case rel => exact ⟨i + 1, by omega, by go_num, HS.out, HE4.out⟩
        case measure => simp [intOf]; omega
      | false =>
        have HF := Lib.hid (HNE.out fun h => by have := HTF2.out.2 h; cases this)
        have HTF := Lib.hid (show t = false from by cases t with | false => rfl | true => exact absurd (HT.out.1 rfl) HF.out)
        go_wp2_with fail
        go_ret
        exact ⟨by rw [HTF.out]; rfl, HX4.out⟩
    · obtain rfl : i = ps.length := by omega
      have HEQ := Lib.hid (show ps = qs from parts_eq HN.out fun j h1 h2 => HALL.out j h1 h2 h1)
      clear hext
      go_wp2_with fail
      go_ret
      exact ⟨by rw [HT.out.2 (by rw [HEQ.out])]; rfl, hbel.out⟩

end Go.Proofs.Ytipddhcfcehcaaa
