/- How an argument's reading as data gives what a slice holds in memory; and what a law's row asks behind the call. The arguments' types, opened; a world in which the library's tables lie. Rows of texts and of entries among the arguments, opened. Rows of rows of entries, and texts with their sizes, among the arguments, opened. No condition: lemmas. -/
import Derived.ProofKit
import Derived.OpenShut
import GoSem.PinnedTables
import Derived.Deep.DeepHandedRow
import Derived.Lib.SmallJoins
import Derived.SizedLaws
import Derived.Test.YtmmeofiocbfamaaGreatDoorZ0
import Derived.Test.YtmmeofiocbfamaaGreatDoorZ5
import Derived.Test.YtmmeofiocbfamaaGreatDoorZ7
import Derived.Test.YtmmeofiocbfamaaGreatDoorZ21
namespace Go.Proofs.YtmmeofiocbfamaaGreatDoor
open Go Go.RowKit Go.ChangeShapes Go.WideShapes Go.ChangeAt

section
variable {H : Type} {enc : TypeId × Value → H} {P : Program} {w : World}

theorem mapM_some {α β : Type} {f : α → Option β} : ∀ {l : List α} {r : List β}, l.mapM f = some r → r.length = l.length ∧ ∀ (i : Nat) (x : α), l[i]? = some x → f x = r[i]? := by
  intro l
  induction l with
  | nil => intro r h; simp at h; subst h; exact ⟨rfl, by simp⟩
  | cons a l ih =>
    intro r h
    simp only [List.mapM_cons, Option.bind_eq_bind, Option.bind_eq_some_iff, Option.pure_def, Option.some.injEq] at h
    obtain ⟨b, hb, bs, hbs, rfl⟩ := h
    obtain ⟨h1, h2⟩ := ih hbs
    refine ⟨by simp [h1], fun i x hx => ?_⟩
    cases i with
    | zero => simp at hx; subst hx; simpa using hb
    | succ i => simp at hx ⊢; exact h2 i x hx

theorem addr_add_add (a : Addr) (x y : Nat) : (a.add x).add y = a.add (x + y) := by
  by_cases hx : x = 0
  · subst hx; simp [Addr.add]
  · by_cases hy : y = 0
    · subst hy; simp [Addr.add]
    · simp [Addr.add, hx, hy, Nat.add_assoc]

/-- The cells of a row: as World.cells? reads them. -/
theorem cells_get {base : Nat} {a : Addr} {n : Nat} {cs : List Value} (h : w.cells? base a n = some cs) : cs.length = n ∧ ∀ j, j < n → w.cell? (a.add j) = cs[j]? := by
  unfold World.cells? at h
  split at h
  · obtain ⟨h1, h2⟩ := mapM_some h
    refine ⟨by simpa using h1, fun j hj => h2 j j (by simp [hj])⟩
  · cases h

/-- A slice's reading gives its cells, element by element. -/
theorem open_sl {t e : TypeId} {v : Value} {d : DataW H} {ps : List MemPlace} (ht : P.underlying t = some (.slice e)) (hv : ∃ a len cap, v = .slice a len cap) (h : DataW.Trod enc P w 0 (fun _ => true) true t v d ps) :
    ∃ (xs : List Value) (elems : List (DataW H × List MemPlace)) (fuel : Nat), Sl (· < w.heap.size) w (P.cellsOf e) v xs ∧ xs.length = elems.length * P.cellsOf e ∧
      (∀ i y, elems[i]? = some y → DataW.trod enc P w 0 (fun _ => true) true fuel e ((xs.drop (i * P.cellsOf e)).take (P.cellsOf e)) = some y) ∧
      (d = .nil ∧ elems = [] ∨ ∃ rest, d = .slice (elems.map (·.1)) rest) := by
  obtain ⟨a0, len0, cap0, rfl⟩ := hv
  obtain ⟨fuel, hf⟩ := h
  rcases DataW.trod_slice ht hf with ⟨hcs, hx⟩ | ⟨a, len, cap, elems, rest, n, hfu, hcs, hx, _, hlc, hcm, hlen, hel, _⟩
  · have hv : Value.slice a0 len0 cap0 = .slice none 0 0 := by simpa [Value.cells] using hcs
    rw [hv]
    simp only [Prod.mk.injEq] at hx
    exact ⟨[], [], 0, Sl.nil _ w _, by simp, by simp, .inl ⟨hx.1, rfl⟩⟩
  · have hv : Value.slice a0 len0 cap0 = .slice (some a) len cap := by simpa [Value.cells] using hcs
    rw [hv]
    generalize hk : P.cellsOf e = k at *
    have hget : ∀ i, i < len → ∃ cs y, w.cells? 0 (a.add (i * k)) k = some cs ∧ elems[i]? = some y ∧ DataW.trod enc P w 0 (fun _ => true) true n e cs = some y := by
      intro i hi
      have h1 := hel i hi
      obtain ⟨y, hy⟩ : ∃ y, elems[i]? = some y := ⟨_, List.getElem?_eq_getElem (by omega)⟩
      rw [hy] at h1
      obtain ⟨cs, hc1, hc2⟩ := Option.bind_eq_some_iff.1 h1
      exact ⟨cs, y, hc1, hy, hc2⟩
    -- the cells, one by one
    obtain ⟨xs, hxl, hxs⟩ : ∃ xs : List Value, xs.length = len * k ∧ ∀ i j, i < len → j < k → w.cell? (a.add (i * k + j)) = xs[i * k + j]? := by
      refine ⟨(List.range (len * k)).map fun m => (w.cell? (a.add m)).getD undef, by simp, fun i j hi hj => ?_⟩
      have hm : i * k + j < len * k := by
        have := Nat.mul_le_mul_right k (show i + 1 ≤ len from hi)
        rw [Nat.add_mul] at this
        omega
      obtain ⟨cs, y, hc1, _, _⟩ := hget i hi
      obtain ⟨hcl, hcc⟩ := cells_get hc1
      have h2 := hcc j hj
      rw [addr_add_add] at h2
      rw [h2, List.getElem?_eq_getElem (by omega)]
      simp [hm, h2, List.getElem?_eq_getElem (show j < cs.length by omega)]
    have hxm : ∀ m u, xs[m]? = some u → w.cell? (a.add m) = some u := by
      intro m u hu
      have hml : m < len * k := by rw [← hxl]; exact (List.getElem?_eq_some_iff.1 hu).1
      have hk0 : 0 < k := by
        apply Nat.pos_of_ne_zero
        intro h0
        rw [h0] at hml
        omega
      have hdm := Nat.div_add_mod m k
      have hi : m / k < len := (Nat.div_lt_iff_lt_mul hk0).2 hml
      have := hxs (m / k) (m % k) hi (Nat.mod_lt _ hk0)
      rw [Nat.mul_comm, hdm] at this
      rw [this, hu]
    refine ⟨xs, elems, n, ⟨some a, len, cap, rfl, hxl, hlc, hcm, fun h => (by cases h), fun hne => ?_⟩, by rw [hxl, hlen], fun i y hy => ?_, .inr ⟨rest.map (·.1), ?_⟩⟩
    · obtain ⟨u, hu⟩ : ∃ u, xs[0]? = some u := by
        cases xs with
        | nil => exact absurd rfl hne
        | cons x _ => exact ⟨x, rfl⟩
      have h0 := hxm 0 u hu
      obtain ⟨b, off, s⟩ := a
      have hs : s = none := by
        cases s with
        | none => rfl
        | some s =>
          exfalso
          simp only [Addr.add, World.cell?] at h0
          split at h0 <;> simp at h0
      subst hs
      have hb := World.block_lt_of_cell? w _ h0
      rw [Addr.add_lit] at hb
      exact ⟨b, off, rfl, hb, fun j u hu => by have := hxm j u hu; rwa [Addr.add_lit] at this⟩
    · have hi : i < len := by rw [← hlen]; exact (List.getElem?_eq_some_iff.1 hy).1
      obtain ⟨cs, y', hc1, hy', hc2⟩ := hget i hi
      obtain rfl : y = y' := by rw [hy] at hy'; exact Option.some.inj hy'
      obtain ⟨hcl, hcc⟩ := cells_get hc1
      have : (xs.drop (i * k)).take k = cs := by
        apply List.ext_getElem?
        intro j
        rw [List.getElem?_take]
        split
        · rename_i hj
          rw [List.getElem?_drop, ← hxs i j hi hj, ← hcc j hj, addr_add_add]
        · rename_i hj
          rw [List.getElem?_eq_none (by omega)]
      rw [this]
      exact hc2
    · simp only [Prod.mk.injEq] at hx
      exact hx.1

/-- What all of a law's arguments read as, they read as behind a call that has only made new blocks. -/
theorem trodAll_stays {ts : List TypeId} (hl : laidOutB P = true) {W W' : World} (hb : Below W.heap.size W W') :
    ∀ {vs : List Value} {ds : List (DataW H)} {ps : List MemPlace}, (∀ t ∈ ts, P.readableRec t = true ∧ t < P.types.size) → (∀ x ∈ ps, x.block < W.heap.size) →
      DataW.TrodAll enc P W 0 (fun _ => true) true ts vs ds ps → DataW.TrodAll enc P W' 0 (fun b => decide (b < W.heap.size)) true ts vs ds ps := by
  induction ts with
  | nil =>
    intro vs ds ps _ _ h
    cases vs <;> cases ds <;> simp_all [DataW.TrodAll]
  | cons t ts ih =>
    intro vs ds ps hr hlt h
    obtain ⟨v, vs', d, ds', p, q, rfl, rfl, rfl, h1, h2⟩ := trodAll_cons h
    exact trodAll_cons_mk (Below.trod hl (hr t (by simp)).1 (hr t (by simp)).2 h1 hb (fun x hx => hlt x (by simp [hx]))) (ih (fun t ht => hr t (by simp [ht])) (fun x hx => hlt x (by simp [hx])) h2)

/-- A law's post: it says true; the arguments read as they did. -/
theorem law_post {f : Func} {s : ChangeSpec} {W W' : World} {args : Array Value} {ds gs : List (DataW H)} {before : List MemPlace} {tb : TypeId}
    (hW : DataW.Whole enc P f.params.toList s.vars false W args.toList ds gs before) (hvars : s.vars = []) (hres : f.resultTypes = #[tb]) (htb : P.underlying tb = some .bool)
    (hfn : (s.fn H (ds ++ gs)).results = [.lit (.bool true)]) (hfa : (s.fn H (ds ++ gs)).args = ds) (hfv : (s.fn H (ds ++ gs)).vars = [])
    (hl : laidOutB P = true) (hr : (f.params.toList.all fun t => P.readableRec t && decide (t < P.types.size)) = true) (hb : Below W.heap.size W W') :
    s.post enc P f false true false false W args (.bool true) W' := by
  have hlt := hW.lt
  have hW0 := hW
  obtain ⟨p, q, hA, hV, rfl, _, _⟩ := hW
  rw [hvars] at hV
  refine ⟨ds, gs, p ++ q, [], p, [], hW0, ?_, ?_, ?_, hb.frame _, fun h => by cases h⟩
  · rw [hfn, hres]
    exact trodAll_mk1 (shut_bool htb true)
  · rw [hfa]
    refine trodAll_stays hl hb (fun t ht => ?_) (fun x hx => hlt x (by simp [hx])) hA
    have := List.all_eq_true.1 hr t ht
    simpa using this
  · rw [hfv, hvars]
    rfl
end

end Go.Proofs.YtmmeofiocbfamaaGreatDoor
namespace Go.Proofs.YtmmeofiocbfamaaGreatDoor
open Go Go.RowKit Go.ChangeShapes Go.WideShapes Go.ChangeAt
open Go.ChangeMaps (open_string)

section
variable {H : Type} {enc : TypeId × Value → H} {W : World} {base : Nat} {v : Value} {d : DataW H} {ps : List MemPlace}

set_option maxRecDepth 100000 in
theorem open_bytesV (hok : Value.okWide Tryz.prog W .any base 24 v) (h : DataW.Trod enc Tryz.prog W 0 (fun _ => true) true 24 v d ps) : ∃ l : List UInt8, Sl (· < W.heap.size) W 1 v (bc l) := by
  obtain ⟨xs, elems, fuel, hs, hl, he, _⟩ := open_sl Tryz.underlying24 (okWide_slice Tryz.underlying24 hok) h
  rw [show Tryz.prog.cellsOf 5 = 1 from by kernel_rfl] at hs hl he
  have hall : ∀ i (hi : i < xs.length), ∃ c : UInt8, xs[i] = .int .u8 c.toNat := by
    intro i hi
    have hie : i < elems.length := by omega
    have := he i elems[i] (by simp [hie])
    rw [Nat.mul_one, show (xs.drop i).take 1 = [xs[i]] from by rw [List.drop_eq_getElem_cons hi]; rfl] at this
    obtain ⟨n, e1, _, hw⟩ := DataW.trod_int Tryz.underlying5 this
    have hb := bounds_u8 hw
    refine ⟨UInt8.ofNat n.toNat, ?_⟩
    have e2 : xs[i] = .int .u8 n := by simpa using e1
    rw [e2]
    congr 1
    have : (UInt8.ofNat n.toNat).toNat = n.toNat := by simp; omega
    rw [this]
    omega
  refine ⟨xs.map fun x => match x with | .int _ n => UInt8.ofNat n.toNat | _ => 0, ?_⟩
  have : bc (xs.map fun x => match x with | .int _ n => UInt8.ofNat n.toNat | _ => 0) = xs := by
    apply List.ext_getElem
    · simp [bc]
    · intro i h1 h2
      obtain ⟨c, hc⟩ := hall i h2
      simp [bc, hc]
  rw [this]
  exact hs

set_option maxRecDepth 100000 in
theorem open_u64V (hok : Value.okWide Tryz.prog W .any base 51 v) (h : DataW.Trod enc Tryz.prog W 0 (fun _ => true) true 51 v d ps) : ∃ q : Nat, v = .int .u64 q ∧ U64 q := by
  obtain ⟨x, rfl, _, _, wx⟩ := open_int Tryz.underlying51 hok h
  have hb := bounds_u64 wx
  refine ⟨x.toNat, by congr 1; omega, ?_⟩
  unfold U64
  omega

set_option maxRecDepth 100000 in
theorem open_strV (hok : Value.okWide Tryz.prog W .any base 9 v) (h : DataW.Trod enc Tryz.prog W 0 (fun _ => true) true 9 v d ps) : ∃ s : ByteArray, v = .string s ∧ s.size ≤ 9223372036854775807 := by
  obtain ⟨s, rfl, _, _, hs⟩ := open_string Tryz.underlying9 hok h
  exact ⟨s, rfl, by unfold maxLen at hs; omega⟩

set_option maxRecDepth 100000 in
theorem open_boolV (hok : Value.okWide Tryz.prog W .any base 4 v) (h : DataW.Trod enc Tryz.prog W 0 (fun _ => true) true 4 v d ps) : ∃ b : Bool, v = .bool b := by
  obtain ⟨b, rfl, _⟩ := open_bool Tryz.underlying4 hok h
  exact ⟨b, rfl⟩

set_option maxRecDepth 100000 in
theorem open_entryV (hok : Value.okWide Tryz.prog W .any base 53 v) (h : DataW.Trod enc Tryz.prog W 0 (fun _ => true) true 53 v d ps) : ∃ (k : ByteArray) (r : Nat) (b : Bool), v = entV k r b ∧ U64 r := by
  have hc : Tryz.prog.cellsOf 53 = 3 := by kernel_rfl
  obtain ⟨c0, c1, c2, y0, y1, y2, m, rfl, _, _, h0, h1, h2⟩ := Go.Joins.open_agg3 Tryz.underlying53 (by kernel_rfl) hc hok h
  obtain ⟨k, e0, _⟩ := DataW.trod_string Tryz.underlying9 h0
  obtain ⟨r, e1, _, wr⟩ := DataW.trod_int Tryz.underlying51 h1
  obtain ⟨b, e2, _⟩ := DataW.trod_bool Tryz.underlying4 h2
  have hb := bounds_u64 wr
  simp at e0 e1 e2
  subst e0 e1 e2
  refine ⟨k, r.toNat, b, ?_, by unfold U64; omega⟩
  unfold entV
  rw [show ((r.toNat : Nat) : Int) = r from by omega]
end

theorem own : ownKnob Tryz.prog.godebug = none := by kernel_rfl

def layRow (cs : Array Value) : Obj → Obj
  | .cells _ t frozen => .cells cs t frozen
  | o => o

def acceptRow : Array Value := #[.int .u8 128, .int .u8 191, .int .u8 160, .int .u8 191, .int .u8 128, .int .u8 159, .int .u8 144, .int .u8 191, .int .u8 128, .int .u8 143, .int .u8 0, .int .u8 0, .int .u8 0, .int .u8 0, .int .u8 0, .int .u8 0, .int .u8 0, .int .u8 0, .int .u8 0, .int .u8 0, .int .u8 0, .int .u8 0, .int .u8 0, .int .u8 0, .int .u8 0, .int .u8 0, .int .u8 0, .int .u8 0, .int .u8 0, .int .u8 0, .int .u8 0, .int .u8 0]
def firstRow : Array Value := (Go.Pinned.utf8FirstZ.map fun (n : Nat) => Value.int .u8 n).toArray

/-- The settled world, the library's two tables laid. -/
noncomputable def laidWorld (os : Os) : World :=
  { World.holding Tryz.prog os ⟨#[], #[], []⟩ with heap := ((World.holding Tryz.prog os ⟨#[], #[], []⟩).heap.modify 1 (layRow firstRow)).modify 2 (layRow acceptRow) }

end Go.Proofs.YtmmeofiocbfamaaGreatDoor
namespace Go.Proofs.YtmmeofiocbfamaaGreatDoor
open Go Go.RowKit Go.ChangeShapes Go.WideShapes Go.ChangeAt

set_option maxRecDepth 100000 in
/-- A row of elements, each of which reads as something. -/
theorem open_rows {H : Type} {enc : TypeId × Value → H} {P : Program} {w : World} {α : Type} (ec : α → List Value) (Q : α → Prop) {t e : TypeId} {v : Value} {d : DataW H} {ps : List MemPlace} {sz : Nat}
    (ht : P.underlying t = some (.slice e)) (hsz : P.cellsOf e = sz) (hv : ∃ a len cap, v = .slice a len cap) (h : DataW.Trod enc P w 0 (fun _ => true) true t v d ps)
    (hel : ∀ fuel cs y, DataW.trod enc P w 0 (fun _ => true) true fuel e cs = some y → ∃ a, cs = ec a ∧ Q a) : ∃ l : List α, Sl (· < w.heap.size) w sz v (l.flatMap ec) ∧ ∀ a ∈ l, Q a := by
  obtain ⟨xs, elems, fuel, hs, hl, he, _⟩ := open_sl ht hv h
  rw [hsz] at hs hl he
  have main : ∀ n, n ≤ elems.length → ∃ l : List α, xs.take (n * sz) = l.flatMap ec ∧ ∀ a ∈ l, Q a := by
    intro n
    induction n with
    | zero => intro _; exact ⟨[], by simp, by simp⟩
    | succ n ih =>
      intro hn
      obtain ⟨l, hl1, hl2⟩ := ih (by omega)
      obtain ⟨a, ha, hq⟩ := hel _ _ _ (he n elems[n] (List.getElem?_eq_getElem (by omega)))
      refine ⟨l ++ [a], ?_, fun b hb => ?_⟩
      · rw [Nat.add_mul, Nat.one_mul, List.take_add, hl1, ha, List.flatMap_append]
        simp
      · rcases List.mem_append.1 hb with hb | hb
        · exact hl2 b hb
        · obtain rfl : b = a := by simpa using hb
          exact hq
  obtain ⟨l, hl1, hl2⟩ := main elems.length (Nat.le_refl _)
  rw [← hl, List.take_length] at hl1
  exact ⟨l, hl1 ▸ hs, hl2⟩

section
variable {H : Type} {enc : TypeId × Value → H} {W : World} {base : Nat} {v : Value} {d : DataW H} {ps : List MemPlace}

theorem sc_flat (l : List ByteArray) : l.flatMap (fun s => [Value.string s]) = sc l := by
  induction l with
  | nil => rfl
  | cons a l ih => rw [List.flatMap_cons, ih]; rfl

set_option maxRecDepth 100000 in
theorem open_strsV (hok : Value.okWide Tryz.prog W .any base 22 v) (h : DataW.Trod enc Tryz.prog W 0 (fun _ => true) true 22 v d ps) : ∃ l : List ByteArray, Sl (· < W.heap.size) W 1 v (sc l) ∧ ∀ k ∈ l, k.size ≤ 9223372036854775807 := by
  obtain ⟨l, h1, h2⟩ := open_rows (fun s : ByteArray => [Value.string s]) (fun k => k.size ≤ 9223372036854775807) Tryz.underlying22 (by kernel_rfl) (okWide_slice Tryz.underlying22 hok) h (fun fuel cs y hy => by
    obtain ⟨s, rfl, _, hs⟩ := DataW.trod_string Tryz.underlying9 hy
    exact ⟨s, rfl, by unfold maxLen at hs; omega⟩)
  exact ⟨l, sc_flat l ▸ h1, h2⟩

set_option maxRecDepth 100000 in
theorem open_entry_cells {fuel : Nat} {cs : List Value} {y : DataW H × List MemPlace} (hy : DataW.trod enc Tryz.prog W 0 (fun _ => true) true fuel 53 cs = some y) : ∃ x : Ent, cs = eC x ∧ U64 x.2.1 := by
  obtain ⟨xs, n, _, _, hl, hlen, hf⟩ := DataW.trod_struct Tryz.underlying53 hy
  rw [show Tryz.prog.cellsOf 53 = 3 from by kernel_rfl] at hl
  obtain ⟨c0, c1, c2, rfl⟩ : ∃ c0 c1 c2, cs = [c0, c1, c2] := by
    match cs, hl with
    | [c0, c1, c2], _ => exact ⟨c0, c1, c2, rfl⟩
  have h0 := hf 0 _ rfl
  have h1 := hf 1 _ rfl
  have h2 := hf 2 _ rfl
  obtain ⟨y0, y1, y2, rfl⟩ : ∃ y0 y1 y2, xs = [y0, y1, y2] := by
    match xs, hlen with
    | [y0, y1, y2], _ => exact ⟨y0, y1, y2, rfl⟩
  obtain ⟨k, e0, _⟩ := DataW.trod_string Tryz.underlying9 h0
  obtain ⟨r, e1, _, wr⟩ := DataW.trod_int Tryz.underlying51 h1
  obtain ⟨b, e2, _⟩ := DataW.trod_bool Tryz.underlying4 h2
  have k0 : Tryz.prog.cellsOf 9 = 1 := by kernel_rfl
  have k1 : Tryz.prog.cellsOf 51 = 1 := by kernel_rfl
  have k2 : Tryz.prog.cellsOf 4 = 1 := by kernel_rfl
  simp [k0] at e0
  simp [k1] at e1
  simp [k2] at e2
  subst e0 e1 e2
  have hb := bounds_u64 wr
  exact ⟨(k, r.toNat, b), by simp only [eC]; rw [show ((r.toNat : Nat) : Int) = r from by omega], by unfold U64; simp only; omega⟩

set_option maxRecDepth 100000 in
theorem open_entriesV (hok : Value.okWide Tryz.prog W .any base 29 v) (h : DataW.Trod enc Tryz.prog W 0 (fun _ => true) true 29 v d ps) : ∃ l : List Ent, Sl (· < W.heap.size) W 3 v (ec l) ∧ ∀ x ∈ l, U64 x.2.1 :=
  open_rows eC (fun x => U64 x.2.1) Tryz.underlying29 (by kernel_rfl) (okWide_slice Tryz.underlying29 hok) h (fun _ _ _ hy => open_entry_cells hy)

set_option maxRecDepth 100000 in
theorem open_u16V (hok : Value.okWide Tryz.prog W .any base 30 v) (h : DataW.Trod enc Tryz.prog W 0 (fun _ => true) true 30 v d ps) : ∃ q : Nat, v = .int .u16 q ∧ q < 65536 := by
  obtain ⟨x, rfl, _, _, wx⟩ := open_int Tryz.underlying30 hok h
  have hb := bounds_u16 wx
  exact ⟨x.toNat, by congr 1; omega, by omega⟩
end

end Go.Proofs.YtmmeofiocbfamaaGreatDoor
namespace Go.Proofs.YtmmeofiocbfamaaGreatDoor
open Go Go.RowKit Go.ChangeShapes Go.WideShapes Go.ChangeAt

section
variable {H : Type} {enc : TypeId × Value → H}

set_option maxRecDepth 100000 in
/-- A row of elements, each of which reads as something, and the data it reads as. -/
theorem open_rowsW {P : Program} {w : World} {α : Type} (ec : α → List Value) (Q : α → DataW H → Prop) {t e : TypeId} {v : Value} {fuel0 : Nat} {y0 : DataW H × List MemPlace} {sz : Nat}
    (ht : P.underlying t = some (.slice e)) (hsz : P.cellsOf e = sz) (h : DataW.trod enc P w 0 (fun _ => true) true fuel0 t [v] = some y0)
    (hel : ∀ fuel cs y, DataW.trod enc P w 0 (fun _ => true) true fuel e cs = some y → ∃ a, cs = ec a ∧ Q a y.1) :
    ∃ l : List α, Sl (· < w.heap.size) w sz v (l.flatMap ec) ∧ (l = [] ∨ ∃ elems rest, y0.1 = .slice elems rest ∧ l.length = elems.length ∧ ∀ a ∈ l, ∃ dd ∈ elems, Q a dd) := by
  have hv : ∃ a len cap, v = .slice a len cap := by
    rcases DataW.trod_slice ht h with ⟨hcs, _⟩ | ⟨a, len, cap, _, _, _, _, hcs, _⟩
    · exact ⟨none, 0, 0, by simpa using hcs⟩
    · exact ⟨some a, len, cap, by simpa using hcs⟩
  have hT : DataW.Trod enc P w 0 (fun _ => true) true t v y0.1 y0.2 := by
    obtain ⟨a, len, cap, rfl⟩ := hv
    exact ⟨fuel0, by simpa [Value.cells] using h⟩
  obtain ⟨xs, elems, fuel, hs, hl, he, hd⟩ := open_sl ht hv hT
  rw [hsz] at hs hl he
  have main : ∀ n, n ≤ elems.length → ∃ l : List α, l.length = n ∧ xs.take (n * sz) = l.flatMap ec ∧ ∀ a ∈ l, ∃ y ∈ elems, Q a y.1 := by
    intro n
    induction n with
    | zero => intro _; exact ⟨[], rfl, by simp, by simp⟩
    | succ n ih =>
      intro hn
      obtain ⟨l, hl0, hl1, hl2⟩ := ih (by omega)
      obtain ⟨a, ha, hq⟩ := hel _ _ _ (he n elems[n] (List.getElem?_eq_getElem (by omega)))
      refine ⟨l ++ [a], by simp [hl0], ?_, fun b hb => ?_⟩
      · rw [Nat.add_mul, Nat.one_mul, List.take_add, hl1, ha, List.flatMap_append]
        simp
      · rcases List.mem_append.1 hb with hb | hb
        · exact hl2 b hb
        · obtain rfl : b = a := by simpa using hb
          exact ⟨_, List.getElem_mem (by omega), hq⟩
  obtain ⟨l, hl0, hl1, hl2⟩ := main elems.length (Nat.le_refl _)
  rw [← hl, List.take_length] at hl1
  refine ⟨l, hl1 ▸ hs, ?_⟩
  rcases hd with ⟨_, rfl⟩ | ⟨rest, hd⟩
  · exact .inl (List.eq_nil_of_length_eq_zero (by simpa using hl0))
  · refine .inr ⟨_, rest, hd, by simp [hl0], fun a ha => ?_⟩
    obtain ⟨y, hy, hq⟩ := hl2 a ha
    exact ⟨y.1, List.mem_map.2 ⟨y, hy, rfl⟩, hq⟩

theorem weightsAll_in {P : Program} {e : TypeId} : ∀ {l : List (DataW H)} {d : DataW H}, d ∈ l → ∀ n ∈ d.weights P e, n ∈ DataW.weightsAll P e l
  | a :: l, d, hd, n, hn => by
    simp only [DataW.weightsAll, List.mem_append]
    rcases List.mem_cons.1 hd with rfl | hd
    · exact .inl hn
    · exact .inr (weightsAll_in hd n hn)

variable {W : World} {base : Nat} {v : Value} {d : DataW H} {ps : List MemPlace}

theorem str_weight {s : ByteArray} {t : TypeId} (ht : Tryz.prog.underlying t = some .string) (h : DataW.Trod enc Tryz.prog W 0 (fun _ => true) true t (.string s) d ps) (hw : ∀ n ∈ d.weights Tryz.prog t, n ≤ reachBytes) : s.size ≤ 1000000000000000 := by
  obtain ⟨fuel, hy⟩ := h
  obtain ⟨s', e, hd, _⟩ := DataW.trod_string ht hy
  simp [Value.cells] at e
  subst e
  have hd1 : d = .lit (.string s.data.toList) := (Prod.mk.inj hd).1
  subst hd1
  have := hw s.data.toList.length (by simp [DataW.weights])
  rw [Array.length_toList] at this
  have := reachBytes_lt
  show s.data.size ≤ _
  omega

def EntQ (a : Value × List Ent) (W : World) (d : DataW H) : Prop := RowE W a.1 a.2 ∧ (∀ e ∈ a.2, U64 e.2.1) ∧ (a.2 = [] ∨ ∃ elems rest, d = .slice elems rest ∧ a.2.length = elems.length)

set_option maxRecDepth 100000 in
theorem open_rowE_cells {fuel : Nat} {cs : List Value} {y : DataW H × List MemPlace} (hy : DataW.trod enc Tryz.prog W 0 (fun _ => true) true fuel 29 cs = some y) : ∃ a : Value × List Ent, cs = [a.1] ∧ EntQ a W y.1 := by
  have hv : ∃ u, cs = [u] := by
    rcases DataW.trod_slice Tryz.underlying29 hy with ⟨hcs, _⟩ | ⟨a, len, cap, _, _, _, _, hcs, _⟩
    · exact ⟨_, hcs⟩
    · exact ⟨_, hcs⟩
  obtain ⟨u, rfl⟩ := hv
  obtain ⟨l, hs, hq⟩ := open_rowsW eC (fun x _ => U64 x.2.1) Tryz.underlying29 (by kernel_rfl) hy (fun fuel cs y hy => open_entry_cells hy)
  refine ⟨(u, l), rfl, hs, fun e he => ?_, ?_⟩
  · rcases hq with rfl | ⟨elems, rest, _, _, h⟩
    · cases he
    · obtain ⟨_, _, h⟩ := h e he; exact h
  · rcases hq with rfl | ⟨elems, rest, h1, h2, _⟩
    · exact .inl rfl
    · exact .inr ⟨elems, rest, h1, h2⟩

theorem each_of {α : Type} {R : World → Value → α → Prop} {S : Nat → Prop} {w : World} {v : Value} {l : List (Value × α)} (h : Sl S w 1 v (l.flatMap fun a => [a.1])) (hR : ∀ a ∈ l, R w a.1 a.2) : Each R S w v (l.map (·.2)) := by
  refine ⟨l.map (·.1), ?_, by simp, fun i hi hi' => ?_⟩
  · have : (l.flatMap fun a => [a.1]) = l.map (·.1) := by
      clear h hR
      induction l with
      | nil => rfl
      | cons a l ih => rw [List.flatMap_cons, ih]; rfl
    rwa [this] at h
  · simp only [List.getElem_map]
    exact hR _ (List.getElem_mem _)

set_option maxRecDepth 100000 in
theorem open_strzV (hok : Value.okWide Tryz.prog W .any base 9 v) (h : DataW.Trod enc Tryz.prog W 0 (fun _ => true) true 9 v d ps) (hw : ∀ n ∈ d.weights Tryz.prog 9, n ≤ reachBytes) : ∃ s : ByteArray, v = .string s ∧ s.size ≤ 1000000000000000 := by
  obtain ⟨s, rfl, _⟩ := open_strV hok h
  exact ⟨s, rfl, str_weight Tryz.underlying9 h hw⟩

set_option maxRecDepth 100000 in
theorem open_intV (hok : Value.okWide Tryz.prog W .any base 3 v) (h : DataW.Trod enc Tryz.prog W 0 (fun _ => true) true 3 v d ps) : ∃ n : Int, v = .int .i64 n := by
  obtain ⟨x, rfl, _⟩ := open_int Tryz.underlying3 hok h
  exact ⟨x, rfl⟩
end

end Go.Proofs.YtmmeofiocbfamaaGreatDoor
