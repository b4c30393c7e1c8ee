/- Lemmas for the claim, no condition. -/
import Derived.ProofKit
import Derived.OpenShut
import Derived.Test.YtipddhcfcehcaaaRows
import Derived.SizedLaws
import GoSem.PinnedTables
import Derived.Deep.DeepHandedRow
import Derived.Lib.SmallJoins
import Derived.Test.YtipddhcfcehcaaaYB17
import Derived.Test.YtipddhcfcehcaaaYB16
import Derived.Test.YtipddhcfcehcaaaYB0
import Derived.Test.YtipddhcfcehcaaaYB2
import Derived.Test.YtipddhcfcehcaaaYB7
import Derived.Test.YtipddhcfcehcaaaYB14
import Derived.Test.YtipddhcfcehcaaaYB15
import Derived.Test.YtipddhcfcehcaaaYB4
namespace Go.Proofs.Ytipddhcfcehcaaa
open Go Go.RowKit Go.Maps

/-- A row in order, of the members of X. -/
structure UpOf (o X : List R2) : Prop where
  up : UpR o
  mem : ∀ x, x ∈ o ↔ x ∈ X
theorem UpOf.nil : UpOf [] [] := ⟨List.Pairwise.nil, fun _ => Iff.rfl⟩
theorem UpOf.put {o X o' : List R2} {r : R2} (h : UpOf o X) (hi : Ins o r o') : UpOf o' (X ++ [r]) := ⟨hi.up, fun x => by rw [hi.mem, h.mem, List.mem_append, List.mem_singleton, or_comm]⟩
theorem UpOf.len {o X : List R2} (h : UpOf o X) : o.length ≤ X.length := nodup_le h.up.nodup fun x hx => (h.mem x).1 hx
theorem UpOf.congr {o X Y : List R2} (h : UpOf o X) (hm : ∀ x, x ∈ X ↔ x ∈ Y) : UpOf o Y := ⟨h.up, fun x => (h.mem x).trans (hm x)⟩
end Go.Proofs.Ytipddhcfcehcaaa
namespace Go.Proofs.Ytipddhcfcehcaaa
open Go Go.RowKit Go.Maps

/-- Where the document's Closure stands within a round that began with o. -/
structure CD (ts : List TyS) (r : R2) (o pr o2 : List R2) : Prop where
  up : UpR o2
  sub : ∀ x ∈ o, x ∈ o2
  re : ∀ x ∈ o2, ReachP ts r x
  done : ∀ x ∈ pr, ∀ y ∈ needsP ts x, y ∈ o2
theorem CD.start {ts : List TyS} {r : R2} {o : List R2} (hu : UpR o) (hr : ∀ x ∈ o, ReachP ts r x) : CD ts r o [] o := ⟨hu, fun _ h => h, hr, fun x hx => (by cases hx)⟩
theorem CD.put {ts : List TyS} {r y : R2} {o pr o2 o3 : List R2} (h : CD ts r o pr o2) (hi : Ins o2 y o3) (hy : ReachP ts r y) : CD ts r o pr o3 :=
  ⟨hi.up, fun x hx => (hi.mem x).2 (.inr (h.sub x hx)), fun x hx => by
    rcases (hi.mem x).1 hx with rfl | hx
    · exact hy
    · exact h.re x hx, fun x hx z hz => (hi.mem z).2 (.inr (h.done x hx z hz))⟩
theorem CD.next {ts : List TyS} {r : R2} {o o2 : List R2} {i : Nat} (h : CD ts r o (o.take i) o2) (hi : i < o.length) (hn : ∀ y ∈ needsP ts o[i], y ∈ o2) : CD ts r o (o.take (i + 1)) o2 :=
  ⟨h.up, h.sub, h.re, fun x hx y hy => by
    rw [List.take_succ_eq_append_getElem hi, List.mem_append, List.mem_singleton] at hx
    rcases hx with hx | rfl
    · exact h.done x hx y hy
    · exact hn y hy⟩
theorem CD.len {ts : List TyS} {r : R2} {o pr o2 : List R2} (h : CD ts r o pr o2) : o2.length ≤ (univP ts r).length := nodup_le h.up.nodup fun x hx => reach_univ (h.re x hx)
theorem CD.more {ts : List TyS} {r : R2} {o pr o2 : List R2} (h : CD ts r o pr o2) (hu : UpR o) : o.length ≤ o2.length := nodup_le hu.nodup h.sub
theorem CD.fin {ts : List TyS} {r : R2} {o o2 : List R2} (h : CD ts r o o o2) (hu : UpR o) (hr : r ∈ o) (hl : o2.length = o.length) (x : R2) : x ∈ o2 ↔ ReachP ts r x := by
  have hb : ∀ y ∈ o2, y ∈ o := fun y hy => by
    by_cases hyo : y ∈ o
    · exact hyo
    · have := nodup_le (l := y :: o) (u := o2) (List.nodup_cons.2 ⟨hyo, hu.nodup⟩) fun z hz => by
        rcases List.mem_cons.1 hz with rfl | hz
        · exact hy
        · exact h.sub z hz
      simp at this
      omega
  refine ⟨h.re x, fun hx => ?_⟩
  induction hx with
  | self => exact h.sub r hr
  | step _ h2 ih => exact h.done _ (hb _ ih) _ h2

end Go.Proofs.Ytipddhcfcehcaaa
namespace Go.Proofs.Ytipddhcfcehcaaa
open Go Go.RowKit Go.ChangeShapes Go.WideShapes Go.ChangeAt

section
variable {H : Type} {enc : TypeId × Value → H} {P : Program} {w : World}

theorem mapM_some {α β : Type} {f : α → Option β} : ∀ {l : List α} {r : List β}, l.mapM f = some r → r.length = l.length ∧ ∀ (i : Nat) (x : α), l[i]? = some x → f x = r[i]? := by
  intro l
  induction l with
  | nil => intro r h; simp at h; subst h; exact ⟨rfl, by simp⟩
  | cons a l ih =>
    intro r h
    simp only [List.mapM_cons, Option.bind_eq_bind, Option.bind_eq_some_iff, Option.pure_def, Option.some.injEq] at h
    obtain ⟨b, hb, bs, hbs, rfl⟩ := h
    obtain ⟨h1, h2⟩ := ih hbs
    refine ⟨by simp [h1], fun i x hx => ?_⟩
    cases i with
    | zero => simp at hx; subst hx; simpa using hb
    | succ i => simp at hx ⊢; exact h2 i x hx

theorem addr_add_add (a : Addr) (x y : Nat) : (a.add x).add y = a.add (x + y) := by
  by_cases hx : x = 0
  · subst hx; simp [Addr.add]
  · by_cases hy : y = 0
    · subst hy; simp [Addr.add]
    · simp [Addr.add, hx, hy, Nat.add_assoc]

/-- The cells of a row: as World.cells? reads them. -/
theorem cells_get {base : Nat} {a : Addr} {n : Nat} {cs : List Value} (h : w.cells? base a n = some cs) : cs.length = n ∧ ∀ j, j < n → w.cell? (a.add j) = cs[j]? := by
  unfold World.cells? at h
  split at h
  · obtain ⟨h1, h2⟩ := mapM_some h
    refine ⟨by simpa using h1, fun j hj => h2 j j (by simp [hj])⟩
  · cases h

/-- A slice's reading gives its cells, element by element. -/
theorem open_sl {t e : TypeId} {v : Value} {d : DataW H} {ps : List MemPlace} (ht : P.underlying t = some (.slice e)) (hv : ∃ a len cap, v = .slice a len cap) (h : DataW.Trod enc P w 0 (fun _ => true) true t v d ps) :
    ∃ (xs : List Value) (elems : List (DataW H × List MemPlace)) (fuel : Nat), Sl (· < w.heap.size) w (P.cellsOf e) v xs ∧ xs.length = elems.length * P.cellsOf e ∧
      (∀ i y, elems[i]? = some y → DataW.trod enc P w 0 (fun _ => true) true fuel e ((xs.drop (i * P.cellsOf e)).take (P.cellsOf e)) = some y) ∧
      (d = .nil ∧ elems = [] ∨ ∃ rest, d = .slice (elems.map (·.1)) rest) := by
  obtain ⟨a0, len0, cap0, rfl⟩ := hv
  obtain ⟨fuel, hf⟩ := h
  rcases DataW.trod_slice ht hf with ⟨hcs, hx⟩ | ⟨a, len, cap, elems, rest, n, hfu, hcs, hx, _, hlc, hcm, hlen, hel, _⟩
  · have hv : Value.slice a0 len0 cap0 = .slice none 0 0 := by simpa [Value.cells] using hcs
    rw [hv]
    simp only [Prod.mk.injEq] at hx
    exact ⟨[], [], 0, Sl.nil _ w _, by simp, by simp, .inl ⟨hx.1, rfl⟩⟩
  · have hv : Value.slice a0 len0 cap0 = .slice (some a) len cap := by simpa [Value.cells] using hcs
    rw [hv]
    generalize hk : P.cellsOf e = k at *
    have hget : ∀ i, i < len → ∃ cs y, w.cells? 0 (a.add (i * k)) k = some cs ∧ elems[i]? = some y ∧ DataW.trod enc P w 0 (fun _ => true) true n e cs = some y := by
      intro i hi
      have h1 := hel i hi
      obtain ⟨y, hy⟩ : ∃ y, elems[i]? = some y := ⟨_, List.getElem?_eq_getElem (by omega)⟩
      rw [hy] at h1
      obtain ⟨cs, hc1, hc2⟩ := Option.bind_eq_some_iff.1 h1
      exact ⟨cs, y, hc1, hy, hc2⟩
    -- the cells, one by one
    obtain ⟨xs, hxl, hxs⟩ : ∃ xs : List Value, xs.length = len * k ∧ ∀ i j, i < len → j < k → w.cell? (a.add (i * k + j)) = xs[i * k + j]? := by
      refine ⟨(List.range (len * k)).map fun m => (w.cell? (a.add m)).getD undef, by simp, fun i j hi hj => ?_⟩
      have hm : i * k + j < len * k := by
        have := Nat.mul_le_mul_right k (show i + 1 ≤ len from hi)
        rw [Nat.add_mul] at this
        omega
      obtain ⟨cs, y, hc1, _, _⟩ := hget i hi
      obtain ⟨hcl, hcc⟩ := cells_get hc1
      have h2 := hcc j hj
      rw [addr_add_add] at h2
      rw [h2, List.getElem?_eq_getElem (by omega)]
      simp [hm, h2, List.getElem?_eq_getElem (show j < cs.length by omega)]
    have hxm : ∀ m u, xs[m]? = some u → w.cell? (a.add m) = some u := by
      intro m u hu
      have hml : m < len * k := by rw [← hxl]; exact (List.getElem?_eq_some_iff.1 hu).1
      have hk0 : 0 < k := by
        apply Nat.pos_of_ne_zero
        intro h0
        rw [h0] at hml
        omega
      have hdm := Nat.div_add_mod m k
      have hi : m / k < len := (Nat.div_lt_iff_lt_mul hk0).2 hml
      have := hxs (m / k) (m % k) hi (Nat.mod_lt _ hk0)
      rw [Nat.mul_comm, hdm] at this
      rw [this, hu]
    refine ⟨xs, elems, n, ⟨some a, len, cap, rfl, hxl, hlc, hcm, fun h => (by cases h), fun hne => ?_⟩, by rw [hxl, hlen], fun i y hy => ?_, .inr ⟨rest.map (·.1), ?_⟩⟩
    · obtain ⟨u, hu⟩ : ∃ u, xs[0]? = some u := by
        cases xs with
        | nil => exact absurd rfl hne
        | cons x _ => exact ⟨x, rfl⟩
      have h0 := hxm 0 u hu
      obtain ⟨b, off, s⟩ := a
      have hs : s = none := by
        cases s with
        | none => rfl
        | some s =>
          exfalso
          simp only [Addr.add, World.cell?] at h0
          split at h0 <;> simp at h0
      subst hs
      have hb := World.block_lt_of_cell? w _ h0
      rw [Addr.add_lit] at hb
      exact ⟨b, off, rfl, hb, fun j u hu => by have := hxm j u hu; rwa [Addr.add_lit] at this⟩
    · have hi : i < len := by rw [← hlen]; exact (List.getElem?_eq_some_iff.1 hy).1
      obtain ⟨cs, y', hc1, hy', hc2⟩ := hget i hi
      obtain rfl : y = y' := by rw [hy] at hy'; exact Option.some.inj hy'
      obtain ⟨hcl, hcc⟩ := cells_get hc1
      have : (xs.drop (i * k)).take k = cs := by
        apply List.ext_getElem?
        intro j
        rw [List.getElem?_take]
        split
        · rename_i hj
          rw [List.getElem?_drop, ← hxs i j hi hj, ← hcc j hj, addr_add_add]
        · rename_i hj
          rw [List.getElem?_eq_none (by omega)]
      rw [this]
      exact hc2
    · simp only [Prod.mk.injEq] at hx
      exact hx.1

/-- What all of a law's arguments read as, they read as behind a call that has only made new blocks. -/
theorem trodAll_stays {ts : List TypeId} (hl : laidOutB P = true) {W W' : World} (hb : Below W.heap.size W W') :
    ∀ {vs : List Value} {ds : List (DataW H)} {ps : List MemPlace}, (∀ t ∈ ts, P.readableRec t = true ∧ t < P.types.size) → (∀ x ∈ ps, x.block < W.heap.size) →
      DataW.TrodAll enc P W 0 (fun _ => true) true ts vs ds ps → DataW.TrodAll enc P W' 0 (fun b => decide (b < W.heap.size)) true ts vs ds ps := by
  induction ts with
  | nil =>
    intro vs ds ps _ _ h
    cases vs <;> cases ds <;> simp_all [DataW.TrodAll]
  | cons t ts ih =>
    intro vs ds ps hr hlt h
    obtain ⟨v, vs', d, ds', p, q, rfl, rfl, rfl, h1, h2⟩ := trodAll_cons h
    exact trodAll_cons_mk (Below.trod hl (hr t (by simp)).1 (hr t (by simp)).2 h1 hb (fun x hx => hlt x (by simp [hx]))) (ih (fun t ht => hr t (by simp [ht])) (fun x hx => hlt x (by simp [hx])) h2)

/-- A law's post: it says true; the arguments read as they did. -/
theorem law_post {f : Func} {s : ChangeSpec} {W W' : World} {args : Array Value} {ds gs : List (DataW H)} {before : List MemPlace} {tb : TypeId}
    (hW : DataW.Whole enc P f.params.toList s.vars false W args.toList ds gs before) (hvars : s.vars = []) (hres : f.resultTypes = #[tb]) (htb : P.underlying tb = some .bool)
    (hfn : (s.fn H (ds ++ gs)).results = [.lit (.bool true)]) (hfa : (s.fn H (ds ++ gs)).args = ds) (hfv : (s.fn H (ds ++ gs)).vars = [])
    (hl : laidOutB P = true) (hr : (f.params.toList.all fun t => P.readableRec t && decide (t < P.types.size)) = true) (hb : Below W.heap.size W W') :
    s.post enc P f false true false false W args (.bool true) W' := by
  have hlt := hW.lt
  have hW0 := hW
  obtain ⟨p, q, hA, hV, rfl, _, _⟩ := hW
  rw [hvars] at hV
  refine ⟨ds, gs, p ++ q, [], p, [], hW0, ?_, ?_, ?_, hb.frame _, fun h => by cases h⟩
  · rw [hfn, hres]
    exact trodAll_mk1 (shut_bool htb true)
  · rw [hfa]
    refine trodAll_stays hl hb (fun t ht => ?_) (fun x hx => hlt x (by simp [hx])) hA
    have := List.all_eq_true.1 hr t ht
    simpa using this
  · rw [hfv, hvars]
    rfl
end

end Go.Proofs.Ytipddhcfcehcaaa
namespace Go.Proofs.Ytipddhcfcehcaaa
open Go Go.RowKit Go.ChangeShapes Go.WideShapes Go.ChangeAt

section
variable {H : Type} {enc : TypeId × Value → H} {P : Program} {w : World}
end

mutual
/-- A rule's bulk, as data. -/
def RT.bk : RT → Nat | .mk _ a b ps => 5 + a.size + b.size + bkL ps
def bkL : List RT → Nat | [] => 0 | r :: rs => r.bk + bkL rs
end
def relBk (x : ByteArray × RT) : Nat := 2 + x.1.size + x.2.bk
def sumN {α : Type} (f : α → Nat) : List α → Nat | [] => 0 | x :: l => f x + sumN f l
theorem relBk_eq (x : ByteArray × RT) : relBk x = 2 + x.1.size + x.2.bk := rfl
def tyBk (t : TyS) : Nat := 2 + t.name.size + sumN relBk t.rels
theorem tyBk_eq (t : TyS) : tyBk t = 2 + t.name.size + sumN relBk t.rels := rfl
theorem bkL_sum (l : List RT) : bkL l = sumN RT.bk l := by
  induction l with
  | nil => rfl
  | cons x l ih => rw [bkL, sumN, ih]
theorem sumN_mem {α : Type} (f : α → Nat) {a : α} : ∀ {l : List α}, a ∈ l → f a ≤ sumN f l
  | x :: l, h => by
    rw [sumN]
    rcases List.mem_cons.1 h with rfl | h
    · omega
    · have := sumN_mem f h; omega

section
variable {H : Type} {enc : TypeId × Value → H} {W : World} {base : Nat} {v : Value} {d : DataW H} {ps : List MemPlace}

def schBk (ts : List TyS) : Nat := sumN tyBk ts
end

theorem sz_bk (r : RT) : 5 * r.sz ≤ r.bk ∧ 5 + r.a.size + r.b.size ≤ r.bk := by
  induction r using RT.ind with
  | h r ih =>
    obtain ⟨k, a, b, ps⟩ := r
    have : 5 * szL ps ≤ bkL ps := by
      have hh : ∀ p ∈ ps, 5 * p.sz ≤ p.bk := fun p hp => (ih p hp).1
      clear ih
      induction ps with
      | nil => simp [szL, bkL]
      | cons x ps ih =>
        rw [szL, bkL]
        have h1 := hh x List.mem_cons_self
        have h2 := ih fun p hp => hh p (List.mem_cons_of_mem _ hp)
        omega
    rw [RT.sz, RT.bk]
    refine ⟨by omega, ?_⟩
    show 5 + a.size + b.size ≤ _
    omega
theorem rels_bk (l : List (ByteArray × RT)) : l.length ≤ sumN relBk l := by
  induction l with
  | nil => simp
  | cons x l ih => rw [sumN, List.length_cons]; have := relBk_eq x; omega
theorem names_bk (ts : List TyS) : (namesOf ts).length ≤ schBk ts ∧ (refsOf ts).length ≤ schBk ts := by
  induction ts with
  | nil => exact ⟨Nat.zero_le _, Nat.zero_le _⟩
  | cons t ts ih =>
    have h1 := rels_bk t.rels
    unfold schBk namesOf refsOf at ih ⊢
    rw [List.flatMap_cons, List.flatMap_cons, List.length_append, List.length_append, sumN]
    have h2 : (relsOf t.name t.rels).length = t.rels.length := by unfold relsOf; rw [List.length_map]
    have h3 : (namesT t).length ≤ t.rels.length + 1 := by unfold namesT; simp
    have := tyBk_eq t
    omega
theorem sz_sch {ts : List TyS} (h : schBk ts ≤ 1048576) : ∀ t ∈ ts, ∀ r ∈ t.rels, r.2.sz ≤ 1000000 := fun t ht r hr => by
  have h1 := sumN_mem tyBk ht
  have h2 := sumN_mem relBk hr
  have h3 := (sz_bk r.2).1
  unfold schBk at h
  have h4 := tyBk_eq t
  have h5 := relBk_eq r
  omega
theorem wt_bk (r : RT) : r.wt + 8 ≤ 4 * r.bk := by
  induction r using RT.ind with
  | h r ih =>
    obtain ⟨k, a, b, ps⟩ := r
    have : wtL ps ≤ 4 * bkL ps := by
      have hh : ∀ p ∈ ps, p.wt + 8 ≤ 4 * p.bk := fun p hp => ih p hp
      clear ih
      induction ps with
      | nil => simp [wtL, bkL]
      | cons x ps ih =>
        rw [wtL, bkL]
        have h1 := hh x List.mem_cons_self
        have h2 := ih fun p hp => hh p (List.mem_cons_of_mem _ hp)
        omega
    rw [RT.wt, RT.bk]
    omega
theorem relB_bk (l : List (ByteArray × RT)) : relB l ≤ 5 * sumN relBk l := by
  induction l with
  | nil => simp [relB]
  | cons x l ih =>
    rw [relB, sumN]
    have := wt_bk x.2
    have := relBk_eq x
    omega
theorem schB_bk (ts : List TyS) : schB ts ≤ 5 * schBk ts := by
  induction ts with
  | nil => simp [schB]
  | cons t ts ih =>
    rw [schB]
    have := relB_bk t.rels
    unfold schBk at ih ⊢
    rw [sumN]
    have := tyBk_eq t
    omega

end Go.Proofs.Ytipddhcfcehcaaa
namespace Go.Proofs.Ytipddhcfcehcaaa
open Go Go.RowKit Go.ChangeShapes Go.WideShapes Go.ChangeAt

/-- Bytes as cells. -/
def bc (l : List UInt8) : List Value := l.map fun c => .int .u8 c.toNat
theorem bc_length (a : List UInt8) : (bc a).length = a.length := by simp [bc]
theorem bytes_at {S : Nat → Prop} {w : World} {ao : Option Addr} {l : List UInt8} {c : Nat} (h : Sl S w 1 (.slice ao l.length c) (bc l)) : ∀ i (hi : i < l.length), ∃ b off, ao = some ⟨b, off, none⟩ ∧ S b ∧ w.cell? ⟨b, off + i, none⟩ = some (.int .u8 l[i].toNat) := by
  obtain ⟨ao', n', c', hv, h1, h2, h3, h4, h5⟩ := h
  cases hv
  intro i hi
  obtain ⟨b, off, rfl, hb, hc⟩ := h5 (fun e => by have := congrArg List.length e; rw [bc_length] at this; simp only [List.length_nil] at this; omega)
  exact ⟨b, off, rfl, hb, hc i _ (by simp [bc, hi])⟩

section
variable {H : Type} {enc : TypeId × Value → H} {W : World} {base : Nat} {v : Value} {d : DataW H} {ps : List MemPlace}
set_option maxRecDepth 100000 in
theorem open_bytesV (hok : Value.okWide Try.prog W .any base 42 v) (h : DataW.Trod enc Try.prog W 0 (fun _ => true) true 42 v d ps) : ∃ l : List UInt8, Sl (· < W.heap.size) W 1 v (bc l) := by
  obtain ⟨xs, elems, fuel, hs, hl, he, _⟩ := open_sl Try.underlying42 (okWide_slice Try.underlying42 hok) h
  rw [show Try.prog.cellsOf 5 = 1 from by kernel_rfl] at hs hl he
  have hall : ∀ i (hi : i < xs.length), ∃ c : UInt8, xs[i] = .int .u8 c.toNat := by
    intro i hi
    have hie : i < elems.length := by omega
    have := he i elems[i] (by simp [hie])
    rw [Nat.mul_one, show (xs.drop i).take 1 = [xs[i]] from by rw [List.drop_eq_getElem_cons hi]; rfl] at this
    obtain ⟨n, e1, _, hw⟩ := DataW.trod_int Try.underlying5 this
    have hb := bounds_u8 hw
    refine ⟨UInt8.ofNat n.toNat, ?_⟩
    have e2 : xs[i] = .int .u8 n := by simpa using e1
    rw [e2]
    congr 1
    have : (UInt8.ofNat n.toNat).toNat = n.toNat := by simp; omega
    rw [this]
    omega
  refine ⟨xs.map fun x => match x with | .int _ n => UInt8.ofNat n.toNat | _ => 0, ?_⟩
  have : bc (xs.map fun x => match x with | .int _ n => UInt8.ofNat n.toNat | _ => 0) = xs := by
    apply List.ext_getElem
    · simp [bc]
    · intro i h1 h2
      obtain ⟨c, hc⟩ := hall i h2
      simp [bc, hc]
  rw [this]
  exact hs
end

end Go.Proofs.Ytipddhcfcehcaaa
namespace Go.Proofs.Ytipddhcfcehcaaa
open Go Go.RowKit Go.Maps

/-- A tape: its bytes lie below it. -/
def Tp (w : World) (tp : Nat) : Prop := ∃ (bv : Value) (l : List UInt8) (n : Nat), n ≤ l.length ∧ Sl (· < tp) w 1 bv (bc l) ∧ Blk w tp #[bv, .int .i64 n] 46
/-- Nothing that lay there has turned but the tape. -/
abbrev KT (tp : Nat) (w w' : World) : Prop := Kept (fun b => b < w.heap.size ∧ b ≠ tp) w w'
theorem KT.trans {tp : Nat} {w w' w'' : World} (h : KT tp w w') (k : KT tp w' w'') : KT tp w w'' := Kept.trans h (Kept.mono k fun b hb => ⟨Nat.lt_of_lt_of_le hb.1 h.size, hb.2⟩)
theorem KT.of {tp : Nat} {w w' : World} (h : Ext w w') : KT tp w w' := Below.kept h fun b hb => hb.1
theorem Tp.ext {w w' : World} {tp : Nat} (h : Tp w tp) (hb : Ext w w') : Tp w' tp := by
  obtain ⟨bv, l, n, hn, hs, hB⟩ := h
  exact ⟨bv, l, n, hn, hs.same ((Same.below hb).mono fun b h => Nat.lt_trans h hB.lt), hB.below hb⟩
theorem Tp.lt {w : World} {tp : Nat} (h : Tp w tp) : tp < w.heap.size := by
  obtain ⟨bv, l, n, hn, hs, hB⟩ := h
  exact hB.lt
theorem KT.same {tp : Nat} {w w' : World} {S : Nat → Prop} (h : KT tp w w') (hS : ∀ b, S b → b < w.heap.size ∧ b ≠ tp) : Same S w w' := fun b hb => h.block b (hS b hb)
theorem KT.blk {tp : Nat} {w w' : World} (h : KT tp w w') {B : Nat} {cs : Array Value} {e : TypeId} (hB : Blk w B cs e) (hn : B ≠ tp) : Blk w' B cs e := Kept.blk h hB ⟨hB.lt, hn⟩

set_option maxRecDepth 100000 in
set_option maxHeartbeats 600000 in
theorem next_any (tp : Nat) (n : Int) (w : World) (h : Tp w tp) (hn : 1 ≤ n) (hm : n ≤ 1000000) : Calls Try.prog 33 #[.pointer (some ⟨tp, 0, none⟩), .int .i64 n] w fun e w' => ∃ k : Nat, e = .returned (.int .i64 k) ∧ (k : Int) < n ∧ Tp w' tp ∧ KT tp w w' := by
  obtain ⟨bv, l, m, hml, hs, hB⟩ := h
  obtain ⟨ao, ln, c, rfl, hln, hlc, hcm⟩ := hs.len
  rw [bc_length, Nat.mul_one] at hln
  subst hln
  have HS := Lib.hid hs
  have HB := Lib.hid hB
  have HM := Lib.hid hm
  have HML := Lib.hid hml
  clear hs hB hm
  by_cases h2 : n < 2
  · have HN := Lib.hid hn
    have hn2 : decide (n < 2) = true := decide_eq_true h2
    go_enter Try.func33, Try.ntmps33
    go_wp2_with fail
    refine region_walkN (Ext w) (Ext.drew w) (by kernel_rfl) (by kernel_rfl) (fun _ _ d _ _ h => by cases d <;> exact h) ?_
    ((refine WalkN.take 0 _ ?_ (by simp only [List.getElem?_toArray, List.getElem?_cons_zero]; rfl) (by kernel_rfl) (by kernel_rfl) (by rfl) (fun W hW => ?_) ?_; rotate_left; · (go_simp; try with_reducible rfl)); simp only [Act.put, List.setIfInBounds_toArray, List.set_cons_zero, List.set_cons_succ]); ((refine WalkN.take 1 _ ?_ (by simp only [List.getElem?_toArray, List.getElem?_cons_succ, List.getElem?_cons_zero]; rfl) (by kernel_rfl) (by kernel_rfl) (by rfl) (fun W hW => ?_) ?_; rotate_left; · (go_simp; try with_reducible rfl)); simp only [Act.put, List.setIfInBounds_toArray, List.set_cons_zero, List.set_cons_succ]); ((refine WalkN.take 2 _ ?_ (by simp only [List.getElem?_toArray, List.getElem?_cons_succ, List.getElem?_cons_zero]; rfl) (by kernel_rfl) (by kernel_rfl) (by rfl) (fun W hW => ?_) ?_; rotate_left; · (go_simp; try with_reducible rfl)); simp only [Act.put, List.setIfInBounds_toArray, List.set_cons_zero, List.set_cons_succ])
    (refine WalkN.skip 3 _ (by simp only [List.getElem?_toArray, List.getElem?_cons_succ, List.getElem?_cons_zero]; rfl) (by kernel_rfl) (by kernel_rfl) (by rfl) ?_; simp only [Act.put, List.setIfInBounds_toArray, List.set_cons_zero, List.set_cons_succ]); (refine WalkN.skip 4 _ (by simp only [List.getElem?_toArray, List.getElem?_cons_succ, List.getElem?_cons_zero]; rfl) (by kernel_rfl) (by kernel_rfl) (by rfl) ?_; simp only [Act.put, List.setIfInBounds_toArray, List.set_cons_zero, List.set_cons_succ]); (refine WalkN.skip 5 _ (by simp only [List.getElem?_toArray, List.getElem?_cons_succ, List.getElem?_cons_zero]; rfl) (by kernel_rfl) (by kernel_rfl) (by rfl) ?_; simp only [Act.put, List.setIfInBounds_toArray, List.set_cons_zero, List.set_cons_succ]); (refine WalkN.skip 6 _ (by simp only [List.getElem?_toArray, List.getElem?_cons_succ, List.getElem?_cons_zero]; rfl) (by kernel_rfl) (by kernel_rfl) (by rfl) ?_; simp only [Act.put, List.setIfInBounds_toArray, List.set_cons_zero, List.set_cons_succ]); (refine WalkN.skip 7 _ (by simp only [List.getElem?_toArray, List.getElem?_cons_succ, List.getElem?_cons_zero]; rfl) (by kernel_rfl) (by kernel_rfl) (by rfl) ?_; simp only [Act.put, List.setIfInBounds_toArray, List.set_cons_zero, List.set_cons_succ]); (refine WalkN.skip 8 _ (by simp only [List.getElem?_toArray, List.getElem?_cons_succ, List.getElem?_cons_zero]; rfl) (by kernel_rfl) (by kernel_rfl) (by rfl) ?_; simp only [Act.put, List.setIfInBounds_toArray, List.set_cons_zero, List.set_cons_succ]); (refine WalkN.skip 9 _ (by simp only [List.getElem?_toArray, List.getElem?_cons_succ, List.getElem?_cons_zero]; rfl) (by kernel_rfl) (by kernel_rfl) (by rfl) ?_; simp only [Act.put, List.setIfInBounds_toArray, List.set_cons_zero, List.set_cons_succ]); (refine WalkN.skip 10 _ (by simp only [List.getElem?_toArray, List.getElem?_cons_succ, List.getElem?_cons_zero]; rfl) (by kernel_rfl) (by kernel_rfl) (by rfl) ?_; simp only [Act.put, List.setIfInBounds_toArray, List.set_cons_zero, List.set_cons_succ]); (refine WalkN.skip 11 _ (by simp only [List.getElem?_toArray, List.getElem?_cons_succ, List.getElem?_cons_zero]; rfl) (by kernel_rfl) (by kernel_rfl) (by rfl) ?_; simp only [Act.put, List.setIfInBounds_toArray, List.set_cons_zero, List.set_cons_succ]); (refine WalkN.skip 12 _ (by simp only [List.getElem?_toArray, List.getElem?_cons_succ, List.getElem?_cons_zero]; rfl) (by kernel_rfl) (by kernel_rfl) (by rfl) ?_; simp only [Act.put, List.setIfInBounds_toArray, List.set_cons_zero, List.set_cons_succ])
    ((refine WalkN.take 13 _ ?_ (by simp only [List.getElem?_toArray, List.getElem?_cons_succ, List.getElem?_cons_zero]; rfl) (by kernel_rfl) (by kernel_rfl) (by rfl) (fun W hW => ?_) ?_; rotate_left; · (go_simp; try with_reducible rfl)); simp only [Act.put, List.setIfInBounds_toArray, List.set_cons_zero, List.set_cons_succ])
    refine WalkN.done (by kernel_rfl) ?_
    go_wp2_with fail
    go_ret
    exact ⟨0, rfl, by have := HN.out; omega, ⟨_, l, m, HML.out, HS.out.same ((Same.below (Ext.drew w)).mono fun b h => Nat.lt_trans h HB.out.lt), HB.out.below (Ext.drew w)⟩, KT.of (Ext.drew w)⟩
  · have hn2 : decide (n < 2) = false := decide_eq_false h2
    have HN2 := Lib.hid h2
    have a0 : ∀ W, Ext w W → W.cell? ⟨tp, 0, none⟩ = some (.slice ao l.length c) := fun W h => by rw [(HB.out.below h).cells]; rfl
    have a1 : ∀ W, Ext w W → W.cell? ⟨tp, 1, none⟩ = some (.int .i64 m) := fun W h => by rw [(HB.out.below h).cells]; rfl
    clear h2
    by_cases hlt : m < l.length
    · have hge : decide ((l.length : Int) ≤ (m : Int)) = false := decide_eq_false (by omega)
      have hge2 : ¬ (l.length : Int) ≤ (m : Int) := by omega
      go_enter Try.func33, Try.ntmps33
      go_wp2_with fail
      refine region_walkN (Ext w) (Ext.drew w) (by kernel_rfl) (by kernel_rfl) (fun _ _ d _ _ h => by cases d <;> exact h) ?_
      ((refine WalkN.take 0 _ ?_ (by simp only [List.getElem?_toArray, List.getElem?_cons_zero]; rfl) (by kernel_rfl) (by kernel_rfl) (by rfl) (fun W hW => ?_) ?_; rotate_left; · (go_simp; try with_reducible rfl)); simp only [Act.put, List.setIfInBounds_toArray, List.set_cons_zero, List.set_cons_succ]); ((refine WalkN.take 1 _ ?_ (by simp only [List.getElem?_toArray, List.getElem?_cons_succ, List.getElem?_cons_zero]; rfl) (by kernel_rfl) (by kernel_rfl) (by rfl) (fun W hW => ?_) ?_; rotate_left; · (go_simp; try with_reducible rfl)); simp only [Act.put, List.setIfInBounds_toArray, List.set_cons_zero, List.set_cons_succ]); ((refine WalkN.take 2 _ ?_ (by simp only [List.getElem?_toArray, List.getElem?_cons_succ, List.getElem?_cons_zero]; rfl) (by kernel_rfl) (by kernel_rfl) (by rfl) (fun W hW => ?_) ?_; rotate_left; · (go_simp; try with_reducible rfl)); simp only [Act.put, List.setIfInBounds_toArray, List.set_cons_zero, List.set_cons_succ]); ((refine WalkN.take 3 _ ?_ (by simp only [List.getElem?_toArray, List.getElem?_cons_succ, List.getElem?_cons_zero]; rfl) (by kernel_rfl) (by kernel_rfl) (by rfl) (fun W hW => ?_) ?_; rotate_left; · (go_simp; try with_reducible rfl)); simp only [Act.put, List.setIfInBounds_toArray, List.set_cons_zero, List.set_cons_succ]); ((refine WalkN.take 4 _ ?_ (by simp only [List.getElem?_toArray, List.getElem?_cons_succ, List.getElem?_cons_zero]; rfl) (by kernel_rfl) (by kernel_rfl) (by rfl) (fun W hW => ?_) ?_; rotate_left; · (go_simp; try with_reducible rfl)); simp only [Act.put, List.setIfInBounds_toArray, List.set_cons_zero, List.set_cons_succ]); ((refine WalkN.take 5 _ ?_ (by simp only [List.getElem?_toArray, List.getElem?_cons_succ, List.getElem?_cons_zero]; rfl) (by kernel_rfl) (by kernel_rfl) (by rfl) (fun W hW => ?_) ?_; rotate_left; · (go_simp; try with_reducible rfl)); simp only [Act.put, List.setIfInBounds_toArray, List.set_cons_zero, List.set_cons_succ]); ((refine WalkN.take 6 _ ?_ (by simp only [List.getElem?_toArray, List.getElem?_cons_succ, List.getElem?_cons_zero]; rfl) (by kernel_rfl) (by kernel_rfl) (by rfl) (fun W hW => ?_) ?_; rotate_left; · (go_simp; try with_reducible rfl)); simp only [Act.put, List.setIfInBounds_toArray, List.set_cons_zero, List.set_cons_succ]); ((refine WalkN.take 7 _ ?_ (by simp only [List.getElem?_toArray, List.getElem?_cons_succ, List.getElem?_cons_zero]; rfl) (by kernel_rfl) (by kernel_rfl) (by rfl) (fun W hW => ?_) ?_; rotate_left; · (go_simp; try with_reducible rfl)); simp only [Act.put, List.setIfInBounds_toArray, List.set_cons_zero, List.set_cons_succ]); ((refine WalkN.take 8 _ ?_ (by simp only [List.getElem?_toArray, List.getElem?_cons_succ, List.getElem?_cons_zero]; rfl) (by kernel_rfl) (by kernel_rfl) (by rfl) (fun W hW => ?_) ?_; rotate_left; · (go_simp; try with_reducible rfl)); simp only [Act.put, List.setIfInBounds_toArray, List.set_cons_zero, List.set_cons_succ]); ((refine WalkN.take 9 _ ?_ (by simp only [List.getElem?_toArray, List.getElem?_cons_succ, List.getElem?_cons_zero]; rfl) (by kernel_rfl) (by kernel_rfl) (by rfl) (fun W hW => ?_) ?_; rotate_left; · (go_simp; try with_reducible rfl)); simp only [Act.put, List.setIfInBounds_toArray, List.set_cons_zero, List.set_cons_succ]); ((refine WalkN.take 10 _ ?_ (by simp only [List.getElem?_toArray, List.getElem?_cons_succ, List.getElem?_cons_zero]; rfl) (by kernel_rfl) (by kernel_rfl) (by rfl) (fun W hW => ?_) ?_; rotate_left; · (go_simp; try with_reducible rfl)); simp only [Act.put, List.setIfInBounds_toArray, List.set_cons_zero, List.set_cons_succ]); ((refine WalkN.take 11 _ ?_ (by simp only [List.getElem?_toArray, List.getElem?_cons_succ, List.getElem?_cons_zero]; rfl) (by kernel_rfl) (by kernel_rfl) (by rfl) (fun W hW => ?_) ?_; rotate_left; · (go_simp; try with_reducible rfl)); simp only [Act.put, List.setIfInBounds_toArray, List.set_cons_zero, List.set_cons_succ]); ((refine WalkN.take 12 _ ?_ (by simp only [List.getElem?_toArray, List.getElem?_cons_succ, List.getElem?_cons_zero]; rfl) (by kernel_rfl) (by kernel_rfl) (by rfl) (fun W hW => ?_) ?_; rotate_left; · (go_simp; try with_reducible rfl)); simp only [Act.put, List.setIfInBounds_toArray, List.set_cons_zero, List.set_cons_succ]); ((refine WalkN.take 13 _ ?_ (by simp only [List.getElem?_toArray, List.getElem?_cons_succ, List.getElem?_cons_zero]; rfl) (by kernel_rfl) (by kernel_rfl) (by rfl) (fun W hW => ?_) ?_; rotate_left; · (go_simp; try with_reducible rfl)); simp only [Act.put, List.setIfInBounds_toArray, List.set_cons_zero, List.set_cons_succ])
      refine WalkN.done (by kernel_rfl) ?_
      have c1 := a1 _ (Ext.drew w)
      have hf1 := (HB.out.below (Ext.drew w)).free
      have hw1 : wrap64 ((m : Int) + 1) = ((m + 1 : Nat) : Int) := by rw [wrap_in _ (by omega) (by omega)]; omega
      obtain ⟨bb, off, rfl, hb, hcl⟩ := bytes_at HS.out m hlt
      generalize hq : l[m] = q at *
      clear a0 a1
      have HD := Lib.hid (HB.out.below (Ext.drew w))
      have HSD := Lib.hid (HS.out.same ((Same.below (Ext.drew w)).mono fun b h => Nat.lt_trans h HB.out.lt))
      go_wp2_with fail
      obtain ⟨w2, hw2⟩ : ∃ x, x = (w.setCell ⟨tp, 1, none⟩ (.int .i64 ((m : Int) + 1))).drew := ⟨_, rfl⟩
      rw [← hw2]
      have H2 := Lib.hid (show Blk w2 tp #[.slice (some ⟨bb, off, none⟩) l.length c, .int .i64 ((m + 1 : Nat) : Int)] 46 from by rw [hw2]; exact (HB.out.set_to 1 _ (by simp)).drew)
      have HK2 := Lib.hid (show KT tp w w2 from by rw [hw2]; exact ((Kept.refl _ _).set (fun h => h.2 rfl) _).drew)
      have hcl2 := (World.cell?_of_block (a := ⟨bb, off + m, none⟩) (HK2.out.block bb ⟨Nat.lt_trans hb HB.out.lt, by omega⟩)).trans hcl
      have HS2 := Lib.hid (HS.out.same (HK2.out.same (S := (· < tp)) fun b (h : b < tp) => ⟨Nat.lt_trans h HB.out.lt, by omega⟩))
      have HTW := Lib.hid (show Tp w2 tp from ⟨_, l, m + 1, hlt, HS2.out, H2.out⟩)
      have b0 : ∀ W, Ext w2 W → W.cell? ⟨tp, 0, none⟩ = some (.slice (some ⟨bb, off, none⟩) l.length c) := fun W h => by rw [(H2.out.below h).cells]; rfl
      have b1 : ∀ W, Ext w2 W → W.cell? ⟨tp, 1, none⟩ = some (.int .i64 ((m + 1 : Nat) : Int)) := fun W h => by rw [(H2.out.below h).cells]; rfl
      have b2 : ∀ W, Ext w2 W → W.cell? ⟨bb, off + m, none⟩ = some (.int .u8 q.toNat) := fun W h => Ext.cell h (a := ⟨bb, off + m, none⟩) hcl2
      have hs1 : IntKind.i64.wrap (m : Int) = (m : Int) := IntWalk.i64_in _ (by omega)
      have hs2 : (0 : Int) ≤ (m : Int) := by omega
      have hs3 : (m : Int) < (l.length : Int) := by omega
      obtain ⟨n', rfl⟩ : ∃ n' : Nat, n = n' := ⟨n.toNat, by omega⟩
      have hmod : (q.toNat : Int).tmod (n' : Int) = ((q.toNat % n' : Nat) : Int) := by
        rw [Int.tmod_eq_emod_of_nonneg (by omega)]; simp
      have hkl := Nat.mod_lt q.toNat (show 0 < n' from by omega)
      have hn0 : ¬ n' = 0 := by omega
      have hq0 := q.toNat_lt
      generalize q.toNat = qn at *
      have hqw : IntKind.i64.wrap (qn : Int) = (qn : Int) := IntWalk.i64_in _ (by omega)
      generalize hk : qn % n' = k at *
      have HKL := Lib.hid hkl
      clear hw2 c1 hf1 hw1 hcl hcl2 hb hq hk hkl
      refine region_walkN (Ext w2) (Ext.drew w2) (by kernel_rfl) (by kernel_rfl) (fun _ _ d _ _ h => by cases d <;> exact h) ?_
      ((refine WalkN.take 0 _ ?_ (by simp only [List.getElem?_toArray, List.getElem?_cons_zero]; rfl) (by kernel_rfl) (by kernel_rfl) (by rfl) (fun W hW => ?_) ?_; rotate_left; · (go_simp; try with_reducible rfl)); simp only [Act.put, List.setIfInBounds_toArray, List.set_cons_zero, List.set_cons_succ]); ((refine WalkN.take 1 _ ?_ (by simp only [List.getElem?_toArray, List.getElem?_cons_succ, List.getElem?_cons_zero]; rfl) (by kernel_rfl) (by kernel_rfl) (by rfl) (fun W hW => ?_) ?_; rotate_left; · (go_simp; try with_reducible rfl)); simp only [Act.put, List.setIfInBounds_toArray, List.set_cons_zero, List.set_cons_succ]); ((refine WalkN.take 2 _ ?_ (by simp only [List.getElem?_toArray, List.getElem?_cons_succ, List.getElem?_cons_zero]; rfl) (by kernel_rfl) (by kernel_rfl) (by rfl) (fun W hW => ?_) ?_; rotate_left; · (go_simp; try with_reducible rfl)); simp only [Act.put, List.setIfInBounds_toArray, List.set_cons_zero, List.set_cons_succ]); ((refine WalkN.take 3 _ ?_ (by simp only [List.getElem?_toArray, List.getElem?_cons_succ, List.getElem?_cons_zero]; rfl) (by kernel_rfl) (by kernel_rfl) (by rfl) (fun W hW => ?_) ?_; rotate_left; · (go_simp; try with_reducible rfl)); simp only [Act.put, List.setIfInBounds_toArray, List.set_cons_zero, List.set_cons_succ]); ((refine WalkN.take 4 _ ?_ (by simp only [List.getElem?_toArray, List.getElem?_cons_succ, List.getElem?_cons_zero]; rfl) (by kernel_rfl) (by kernel_rfl) (by rfl) (fun W hW => ?_) ?_; rotate_left; · (go_simp; try with_reducible rfl)); simp only [Act.put, List.setIfInBounds_toArray, List.set_cons_zero, List.set_cons_succ]); ((refine WalkN.take 5 _ ?_ (by simp only [List.getElem?_toArray, List.getElem?_cons_succ, List.getElem?_cons_zero]; rfl) (by kernel_rfl) (by kernel_rfl) (by rfl) (fun W hW => ?_) ?_; rotate_left; · (go_simp; try with_reducible rfl)); simp only [Act.put, List.setIfInBounds_toArray, List.set_cons_zero, List.set_cons_succ]); ((refine WalkN.take 6 _ ?_ (by simp only [List.getElem?_toArray, List.getElem?_cons_succ, List.getElem?_cons_zero]; rfl) (by kernel_rfl) (by kernel_rfl) (by rfl) (fun W hW => ?_) ?_; rotate_left; · (go_simp; try with_reducible rfl)); simp only [Act.put, List.setIfInBounds_toArray, List.set_cons_zero, List.set_cons_succ]); ((refine WalkN.take 7 _ ?_ (by simp only [List.getElem?_toArray, List.getElem?_cons_succ, List.getElem?_cons_zero]; rfl) (by kernel_rfl) (by kernel_rfl) (by rfl) (fun W hW => ?_) ?_; rotate_left; · (go_simp; try with_reducible rfl)); simp only [Act.put, List.setIfInBounds_toArray, List.set_cons_zero, List.set_cons_succ]); ((refine WalkN.take 8 _ ?_ (by simp only [List.getElem?_toArray, List.getElem?_cons_succ, List.getElem?_cons_zero]; rfl) (by kernel_rfl) (by kernel_rfl) (by rfl) (fun W hW => ?_) ?_; rotate_left; · (go_simp; try with_reducible rfl)); simp only [Act.put, List.setIfInBounds_toArray, List.set_cons_zero, List.set_cons_succ]); ((refine WalkN.take 9 _ ?_ (by simp only [List.getElem?_toArray, List.getElem?_cons_succ, List.getElem?_cons_zero]; rfl) (by kernel_rfl) (by kernel_rfl) (by rfl) (fun W hW => ?_) ?_; rotate_left; · (go_simp; try with_reducible rfl)); simp only [Act.put, List.setIfInBounds_toArray, List.set_cons_zero, List.set_cons_succ]); ((refine WalkN.take 10 _ ?_ (by simp only [List.getElem?_toArray, List.getElem?_cons_succ, List.getElem?_cons_zero]; rfl) (by kernel_rfl) (by kernel_rfl) (by rfl) (fun W hW => ?_) ?_; rotate_left; · (go_simp; try with_reducible rfl)); simp only [Act.put, List.setIfInBounds_toArray, List.set_cons_zero, List.set_cons_succ]); ((refine WalkN.take 11 _ ?_ (by simp only [List.getElem?_toArray, List.getElem?_cons_succ, List.getElem?_cons_zero]; rfl) (by kernel_rfl) (by kernel_rfl) (by rfl) (fun W hW => ?_) ?_; rotate_left; · (go_simp; try with_reducible rfl)); simp only [Act.put, List.setIfInBounds_toArray, List.set_cons_zero, List.set_cons_succ]); ((refine WalkN.take 12 _ ?_ (by simp only [List.getElem?_toArray, List.getElem?_cons_succ, List.getElem?_cons_zero]; rfl) (by kernel_rfl) (by kernel_rfl) (by rfl) (fun W hW => ?_) ?_; rotate_left; · (go_simp; try with_reducible rfl)); simp only [Act.put, List.setIfInBounds_toArray, List.set_cons_zero, List.set_cons_succ]); ((refine WalkN.take 13 _ ?_ (by simp only [List.getElem?_toArray, List.getElem?_cons_succ, List.getElem?_cons_zero]; rfl) (by kernel_rfl) (by kernel_rfl) (by rfl) (fun W hW => ?_) ?_; rotate_left; · (go_simp; try with_reducible rfl)); simp only [Act.put, List.setIfInBounds_toArray, List.set_cons_zero, List.set_cons_succ]); ((refine WalkN.take 14 _ ?_ (by simp only [List.getElem?_toArray, List.getElem?_cons_succ, List.getElem?_cons_zero]; rfl) (by kernel_rfl) (by kernel_rfl) (by rfl) (fun W hW => ?_) ?_; rotate_left; · (go_simp; try with_reducible rfl)); simp only [Act.put, List.setIfInBounds_toArray, List.set_cons_zero, List.set_cons_succ])
      refine WalkN.done (by kernel_rfl) ?_
      clear b0 b1 b2
      go_wp2_with fail
      go_ret
      exact ⟨k, rfl, by have := HKL.out; omega, HTW.out.ext (Ext.drew w2), KT.trans HK2.out (KT.of (Ext.drew w2))⟩
    · have hge : decide ((l.length : Int) ≤ (m : Int)) = true := decide_eq_true (by omega)
      have hge2 : (l.length : Int) ≤ (m : Int) := by omega
      go_enter Try.func33, Try.ntmps33
      go_wp2_with fail
      refine region_walkN (Ext w) (Ext.drew w) (by kernel_rfl) (by kernel_rfl) (fun _ _ d _ _ h => by cases d <;> exact h) ?_
      ((refine WalkN.take 0 _ ?_ (by simp only [List.getElem?_toArray, List.getElem?_cons_zero]; rfl) (by kernel_rfl) (by kernel_rfl) (by rfl) (fun W hW => ?_) ?_; rotate_left; · (go_simp; try with_reducible rfl)); simp only [Act.put, List.setIfInBounds_toArray, List.set_cons_zero, List.set_cons_succ]); ((refine WalkN.take 1 _ ?_ (by simp only [List.getElem?_toArray, List.getElem?_cons_succ, List.getElem?_cons_zero]; rfl) (by kernel_rfl) (by kernel_rfl) (by rfl) (fun W hW => ?_) ?_; rotate_left; · (go_simp; try with_reducible rfl)); simp only [Act.put, List.setIfInBounds_toArray, List.set_cons_zero, List.set_cons_succ]); ((refine WalkN.take 2 _ ?_ (by simp only [List.getElem?_toArray, List.getElem?_cons_succ, List.getElem?_cons_zero]; rfl) (by kernel_rfl) (by kernel_rfl) (by rfl) (fun W hW => ?_) ?_; rotate_left; · (go_simp; try with_reducible rfl)); simp only [Act.put, List.setIfInBounds_toArray, List.set_cons_zero, List.set_cons_succ]); ((refine WalkN.take 3 _ ?_ (by simp only [List.getElem?_toArray, List.getElem?_cons_succ, List.getElem?_cons_zero]; rfl) (by kernel_rfl) (by kernel_rfl) (by rfl) (fun W hW => ?_) ?_; rotate_left; · (go_simp; try with_reducible rfl)); simp only [Act.put, List.setIfInBounds_toArray, List.set_cons_zero, List.set_cons_succ]); ((refine WalkN.take 4 _ ?_ (by simp only [List.getElem?_toArray, List.getElem?_cons_succ, List.getElem?_cons_zero]; rfl) (by kernel_rfl) (by kernel_rfl) (by rfl) (fun W hW => ?_) ?_; rotate_left; · (go_simp; try with_reducible rfl)); simp only [Act.put, List.setIfInBounds_toArray, List.set_cons_zero, List.set_cons_succ]); ((refine WalkN.take 5 _ ?_ (by simp only [List.getElem?_toArray, List.getElem?_cons_succ, List.getElem?_cons_zero]; rfl) (by kernel_rfl) (by kernel_rfl) (by rfl) (fun W hW => ?_) ?_; rotate_left; · (go_simp; try with_reducible rfl)); simp only [Act.put, List.setIfInBounds_toArray, List.set_cons_zero, List.set_cons_succ]); ((refine WalkN.take 6 _ ?_ (by simp only [List.getElem?_toArray, List.getElem?_cons_succ, List.getElem?_cons_zero]; rfl) (by kernel_rfl) (by kernel_rfl) (by rfl) (fun W hW => ?_) ?_; rotate_left; · (go_simp; try with_reducible rfl)); simp only [Act.put, List.setIfInBounds_toArray, List.set_cons_zero, List.set_cons_succ]); ((refine WalkN.take 7 _ ?_ (by simp only [List.getElem?_toArray, List.getElem?_cons_succ, List.getElem?_cons_zero]; rfl) (by kernel_rfl) (by kernel_rfl) (by rfl) (fun W hW => ?_) ?_; rotate_left; · (go_simp; try with_reducible rfl)); simp only [Act.put, List.setIfInBounds_toArray, List.set_cons_zero, List.set_cons_succ]); ((refine WalkN.take 8 _ ?_ (by simp only [List.getElem?_toArray, List.getElem?_cons_succ, List.getElem?_cons_zero]; rfl) (by kernel_rfl) (by kernel_rfl) (by rfl) (fun W hW => ?_) ?_; rotate_left; · (go_simp; try with_reducible rfl)); simp only [Act.put, List.setIfInBounds_toArray, List.set_cons_zero, List.set_cons_succ]); ((refine WalkN.take 9 _ ?_ (by simp only [List.getElem?_toArray, List.getElem?_cons_succ, List.getElem?_cons_zero]; rfl) (by kernel_rfl) (by kernel_rfl) (by rfl) (fun W hW => ?_) ?_; rotate_left; · (go_simp; try with_reducible rfl)); simp only [Act.put, List.setIfInBounds_toArray, List.set_cons_zero, List.set_cons_succ]); ((refine WalkN.take 10 _ ?_ (by simp only [List.getElem?_toArray, List.getElem?_cons_succ, List.getElem?_cons_zero]; rfl) (by kernel_rfl) (by kernel_rfl) (by rfl) (fun W hW => ?_) ?_; rotate_left; · (go_simp; try with_reducible rfl)); simp only [Act.put, List.setIfInBounds_toArray, List.set_cons_zero, List.set_cons_succ]); ((refine WalkN.take 11 _ ?_ (by simp only [List.getElem?_toArray, List.getElem?_cons_succ, List.getElem?_cons_zero]; rfl) (by kernel_rfl) (by kernel_rfl) (by rfl) (fun W hW => ?_) ?_; rotate_left; · (go_simp; try with_reducible rfl)); simp only [Act.put, List.setIfInBounds_toArray, List.set_cons_zero, List.set_cons_succ]); ((refine WalkN.take 12 _ ?_ (by simp only [List.getElem?_toArray, List.getElem?_cons_succ, List.getElem?_cons_zero]; rfl) (by kernel_rfl) (by kernel_rfl) (by rfl) (fun W hW => ?_) ?_; rotate_left; · (go_simp; try with_reducible rfl)); simp only [Act.put, List.setIfInBounds_toArray, List.set_cons_zero, List.set_cons_succ]); ((refine WalkN.take 13 _ ?_ (by simp only [List.getElem?_toArray, List.getElem?_cons_succ, List.getElem?_cons_zero]; rfl) (by kernel_rfl) (by kernel_rfl) (by rfl) (fun W hW => ?_) ?_; rotate_left; · (go_simp; try with_reducible rfl)); simp only [Act.put, List.setIfInBounds_toArray, List.set_cons_zero, List.set_cons_succ])
      refine WalkN.done (by kernel_rfl) ?_
      clear a0 a1
      go_wp2_with fail
      go_ret
      exact ⟨0, rfl, by have := HN2.out; omega, ⟨_, l, m, HML.out, HS.out.same ((Same.below (Ext.drew w)).mono fun b h => Nat.lt_trans h HB.out.lt), HB.out.below (Ext.drew w)⟩, KT.of (Ext.drew w)⟩

end Go.Proofs.Ytipddhcfcehcaaa
