/- The document's Barren: its plain side. The walk of the document's Barren. The document's needs. The document's Needs and Closure. The walk of fixed. How an argument's reading as data gives what a slice holds in memory; and what a law's row asks behind the call. A schema among the arguments, opened. No condition: lemmas. -/
import Derived.ProofKit
import Derived.OpenShut
import Derived.Test.YtipddhcfcehcaaaRows
import Derived.SizedLaws
import Derived.Test.YtipddhcfcehcaaaZ26
import Derived.Test.YtipddhcfcehcaaaZ24
import Derived.Test.YtipddhcfcehcaaaZ22
import Derived.Test.YtipddhcfcehcaaaZ23
import Derived.Test.YtipddhcfcehcaaaZ0
import Derived.Test.YtipddhcfcehcaaaZ3
import Derived.Test.YtipddhcfcehcaaaZ12
namespace Go.Proofs.Ytipddhcfcehcaaa
open Go Go.RowKit Go.Maps

theorem nodup_get {α : Type} {l : List α} (h : l.Nodup) {i j : Nat} (hi : i < l.length) (hj : j < l.length) (he : l[i] = l[j]) : i = j := by
  rcases Nat.lt_trichotomy i j with hl | hl | hl
  · exact absurd he (List.pairwise_iff_getElem.1 h i j hi hj hl)
  · exact hl
  · exact absurd he.symm (List.pairwise_iff_getElem.1 h j i hj hi hl)
theorem uniq_names {ts : List TyS} (hu : uniqOk ts = true) : (ts.map (·.name)).Nodup ∧ ∀ t ∈ ts, (t.rels.map (·.1)).Nodup := by
  unfold uniqOk at hu
  rw [Bool.and_eq_true, decide_eq_true_eq, List.all_eq_true] at hu
  exact ⟨hu.1, fun t ht => by simpa using hu.2 t ht⟩
/-- A relation is found where it stands. -/
theorem look_here {ts : List TyS} (hu : uniqOk ts = true) {i k : Nat} (hi : i < ts.length) (hk : k < ts[i].rels.length) : lookA (refsOf ts) ⟨ts[i].name, ts[i].rels[k].1⟩ = some ts[i].rels[k].2 := by
  obtain ⟨h1, h2⟩ := uniq_names hu
  refine refs_hit hi rfl (fun j hj hji e => ?_) hk rfl (fun j hj hjk e => ?_)
  · have := nodup_get h1 (i := j) (j := i) (by simpa using hj) (by simpa using hi) (by simpa using e)
    omega
  · have := nodup_get (h2 ts[i] (List.getElem_mem hi)) (i := j) (j := k) (by simpa using hj) (by simpa using hk) (by simpa using e)
    omega
theorem look_refs {ts : List TyS} {x : R2} (h : x ∈ (refsOf ts).map (·.1)) : ∃ r, lookA (refsOf ts) x = some r := by
  cases hl : lookA (refsOf ts) x with
  | some r => exact ⟨r, rfl⟩
  | none =>
    obtain ⟨p, hp, rfl⟩ := List.mem_map.1 h
    exact absurd rfl (look_none_iff.1 hl p hp)
theorem UpR.nodup {l : List R2} (h : UpR l) : l.Nodup := List.Pairwise.imp (fun h e => by subst e; rw [ltR_irr] at h; cases h) h
theorem LeastP.congr {ts : List TyS} {S T : List R2} (h : LeastP ts S) (hm : ∀ x, x ∈ T ↔ x ∈ S) : LeastP ts T := ⟨fun x hx => h.sub x ((hm x).1 hx), fun U hU x hx => h.least U hU x ((hm x).1 hx)⟩

/-- Where the document's Barren stands within a round. -/
structure BI (ts : List TyS) (N0 : Nat) (L A : List R2) (ch : Bool) (pr : List (R2 × RT)) : Prop where
  upL : UpR L
  upA : UpR A
  least : LeastP ts L
  subA : ∀ x ∈ A, x ∈ (refsOf ts).map (·.1)
  len0 : N0 ≤ L.length
  more : ch = true → N0 < L.length
  done : ∀ p ∈ pr, p.1 ∈ A ∧ (ch = false → p.2.pcan (refsOf ts) L p.1.t = true → p.1 ∈ L)
theorem BI.lenL {ts : List TyS} {N0 : Nat} {L A : List R2} {ch : Bool} {pr : List (R2 × RT)} (h : BI ts N0 L A ch pr) : L.length ≤ (refsOf ts).length := h.least.len h.upL.nodup
theorem BI.lenA {ts : List TyS} {N0 : Nat} {L A : List R2} {ch : Bool} {pr : List (R2 × RT)} (h : BI ts N0 L A ch pr) : A.length ≤ (refsOf ts).length := by
  have := nodup_le h.upA.nodup h.subA
  rwa [List.length_map] at this
theorem BI.start {ts : List TyS} {L A : List R2} (hL : UpR L) (hA : UpR A) (hl : LeastP ts L) (hs : ∀ x ∈ A, x ∈ (refsOf ts).map (·.1)) : BI ts L.length L A false [] :=
  ⟨hL, hA, hl, hs, Nat.le_refl _, fun h => (by cases h), fun p hp => (by cases hp)⟩
theorem BI.skip {ts : List TyS} {N0 : Nat} {L A A' : List R2} {ch : Bool} {pr : List (R2 × RT)} (h : BI ts N0 L A ch pr) {x : R2} {r : RT} (hx : (x, r) ∈ refsOf ts) (hA : Ins A x A') (hc : x ∈ L ∨ r.pcan (refsOf ts) L x.t = false) : BI ts N0 L A' ch (pr ++ [(x, r)]) :=
  ⟨h.upL, hA.up, h.least, fun y hy => by
    rcases (hA.mem y).1 hy with rfl | hy
    · exact List.mem_map.2 ⟨_, hx, rfl⟩
    · exact h.subA y hy, h.len0, h.more, fun p hp => by
    rcases List.mem_append.1 hp with hp | hp
    · exact ⟨(hA.mem _).2 (.inr (h.done p hp).1), (h.done p hp).2⟩
    · obtain rfl := List.mem_singleton.1 hp
      refine ⟨(hA.mem _).2 (.inl rfl), fun _ hcn => ?_⟩
      rcases hc with hc | hc
      · exact hc
      · dsimp only at hcn; rw [hc] at hcn; cases hcn⟩
theorem BI.add {ts : List TyS} {N0 : Nat} {L L' A A' : List R2} {ch : Bool} {pr : List (R2 × RT)} (h : BI ts N0 L A ch pr) {x : R2} {r : RT} (hx : (x, r) ∈ refsOf ts) (hA : Ins A x A') (hL : Ins L x L') (hn : ¬ x ∈ L) (hp : r.pcan (refsOf ts) L x.t = true) : BI ts N0 L' A' true (pr ++ [(x, r)]) := by
  have hlen : L.length + 1 ≤ L'.length := by
    have := nodup_le (l := x :: L) (u := L') (List.nodup_cons.2 ⟨hn, h.upL.nodup⟩) fun y hy => (hL.mem y).2 (List.mem_cons.1 hy)
    simpa using this
  exact ⟨hL.up, hA.up, (h.least.add hx hp).congr fun y => by rw [hL.mem, addR_mem]; exact or_comm, fun y hy => by
    rcases (hA.mem y).1 hy with rfl | hy
    · exact List.mem_map.2 ⟨_, hx, rfl⟩
    · exact h.subA y hy, by have := h.len0; omega, fun _ => by have := h.len0; omega, fun p hp => by
    rcases List.mem_append.1 hp with hp | hp
    · exact ⟨(hA.mem _).2 (.inr (h.done p hp).1), fun e => (by cases e)⟩
    · obtain rfl := List.mem_singleton.1 hp
      exact ⟨(hA.mem _).2 (.inl rfl), fun e => (by cases e)⟩⟩
theorem BI.closed {ts : List TyS} {N0 : Nat} {L A : List R2} (h : BI ts N0 L A false (refsOf ts)) : ClosedP ts L := fun x r hx hc => (h.done (x, r) hx).2 rfl hc
theorem BI.all {ts : List TyS} {N0 : Nat} {L A : List R2} {ch : Bool} (h : BI ts N0 L A ch (refsOf ts)) : ∀ x ∈ (refsOf ts).map (·.1), x ∈ A := fun x hx => by
  obtain ⟨p, hp, rfl⟩ := List.mem_map.1 hx
  exact (h.done p hp).1
theorem refs_take {ts : List TyS} {i : Nat} (hi : i < ts.length) : refsOf (ts.take (i + 1)) = refsOf (ts.take i) ++ relsOf ts[i].name ts[i].rels := by
  rw [List.take_succ_eq_append_getElem hi, refsOf_append]
  unfold refsOf
  simp
theorem rels_take {n : ByteArray} {l : List (ByteArray × RT)} {j : Nat} (hj : j < l.length) : relsOf n (l.take (j + 1)) = relsOf n (l.take j) ++ [(⟨n, l[j].1⟩, l[j].2)] := by
  unfold relsOf
  rw [List.take_succ_eq_append_getElem hj, List.map_append]
  rfl
theorem refs_at {ts : List TyS} {i j : Nat} (hi : i < ts.length) (hj : j < ts[i].rels.length) : ((⟨ts[i].name, ts[i].rels[j].1⟩ : R2), ts[i].rels[j].2) ∈ refsOf ts :=
  refs_mem.2 ⟨ts[i], List.getElem_mem hi, ts[i].rels[j], List.getElem_mem hj, rfl⟩
def boolN : Value → Nat | .bool true => 1 | _ => 0

end Go.Proofs.Ytipddhcfcehcaaa
namespace Go.Proofs.Ytipddhcfcehcaaa
open Go Go.RowKit Go.Maps

end Go.Proofs.Ytipddhcfcehcaaa
namespace Go.Proofs.Ytipddhcfcehcaaa
open Go Go.RowKit Go.Maps

/-- A row in order, of the members of X. -/
structure UpOf (o X : List R2) : Prop where
  up : UpR o
  mem : ∀ x, x ∈ o ↔ x ∈ X
theorem UpOf.nil : UpOf [] [] := ⟨List.Pairwise.nil, fun _ => Iff.rfl⟩
theorem UpOf.put {o X o' : List R2} {r : R2} (h : UpOf o X) (hi : Ins o r o') : UpOf o' (X ++ [r]) := ⟨hi.up, fun x => by rw [hi.mem, h.mem, List.mem_append, List.mem_singleton, or_comm]⟩
theorem UpOf.len {o X : List R2} (h : UpOf o X) : o.length ≤ X.length := nodup_le h.up.nodup fun x hx => (h.mem x).1 hx
theorem UpOf.congr {o X Y : List R2} (h : UpOf o X) (hm : ∀ x, x ∈ X ↔ x ∈ Y) : UpOf o Y := ⟨h.up, fun x => (h.mem x).trans (hm x)⟩
/-- The relations of that name, type by type. -/
def viaR (ts : List TyS) (b : ByteArray) : List R2 := (ts.filter fun t => hasT t b).map fun t => ⟨t.name, b⟩
theorem viaR_len (ts : List TyS) (b : ByteArray) : (viaR ts b).length ≤ ts.length := by
  unfold viaR
  rw [List.length_map]
  exact List.length_filter_le _ _
theorem viaR_take {ts : List TyS} {b : ByteArray} {i : Nat} (hi : i < ts.length) : viaR (ts.take (i + 1)) b = viaR (ts.take i) b ++ if hasT ts[i] b = true then [⟨ts[i].name, b⟩] else [] := by
  unfold viaR
  rw [List.take_succ_eq_append_getElem hi, List.filter_append, List.map_append]
  by_cases h : hasT ts[i] b = true <;> simp [h]
theorem viaR_mem (ts : List TyS) (b : ByteArray) (x : R2) : x ∈ viaR ts b ↔ x ∈ (whereP (refsOf ts) b).map fun n => (⟨n, b⟩ : R2) := by
  unfold viaR whereP
  simp only [List.mem_map, List.mem_filter]
  constructor
  · rintro ⟨t, ⟨ht, hh⟩, rfl⟩
    obtain ⟨r, hr, hb⟩ := List.any_eq_true.1 (show t.rels.any (fun r => decide (r.1 = b)) = true from hh)
    exact ⟨t.name, ⟨(⟨t.name, r.1⟩, r.2), ⟨refs_mem.2 ⟨t, ht, r, hr, rfl⟩, hb⟩, rfl⟩, rfl⟩
  · rintro ⟨n, ⟨y, ⟨hy, hb⟩, rfl⟩, rfl⟩
    obtain ⟨t, ht, r, hr, rfl⟩ := refs_mem.1 hy
    exact ⟨t, ⟨ht, List.any_eq_true.2 ⟨r, hr, hb⟩⟩, rfl⟩
/-- What a rule names itself. -/
def headN (ts : List TyS) (typ : ByteArray) (k : Int) (a b : ByteArray) : List R2 := if k = 2 then [⟨typ, a⟩] else if k = 3 then ⟨typ, a⟩ :: viaR ts b else []
theorem pneeds_head (ts : List TyS) (typ a b : ByteArray) (k : Int) (ps : List RT) (x : R2) : x ∈ headN ts typ k a b ++ pneedsL (refsOf ts) typ ps ↔ x ∈ (RT.mk k a b ps).pneeds (refsOf ts) typ := by
  rw [RT.pneeds, List.mem_append, List.mem_append]
  refine or_congr ?_ Iff.rfl
  unfold headN
  by_cases h2 : k = 2
  · rw [if_pos h2, if_pos h2]
  · rw [if_neg h2, if_neg h2]
    by_cases h3 : k = 3
    · rw [if_pos h3, if_pos h3, List.mem_cons, List.mem_cons, viaR_mem]
    · rw [if_neg h3, if_neg h3]
theorem pneedsL_le (P : List (R2 × RT)) (typ : ByteArray) {l : List RT} {i : Nat} (hi : i < l.length) : (pneedsL P typ (l.take i)).length + (l[i].pneeds P typ).length ≤ (pneedsL P typ l).length := by
  have h1 := pneedsL_take P typ hi
  have h2 : pneedsL P typ l = pneedsL P typ (l.take (i + 1)) ++ pneedsL P typ (l.drop (i + 1)) := by
    rw [pneedsL_eq, pneedsL_eq, pneedsL_eq, ← List.flatMap_append, List.take_append_drop]
  rw [h2, h1, List.length_append, List.length_append]
  omega
theorem szL_len : ∀ l : List RT, l.length ≤ szL l
  | [] => Nat.zero_le _
  | x :: l => by rw [szL, List.length_cons]; have := x.sz_eq; have := szL_len l; omega

end Go.Proofs.Ytipddhcfcehcaaa
namespace Go.Proofs.Ytipddhcfcehcaaa
open Go Go.RowKit Go.Maps

/-- Where the document's Closure stands within a round that began with o. -/
structure CD (ts : List TyS) (r : R2) (o pr o2 : List R2) : Prop where
  up : UpR o2
  sub : ∀ x ∈ o, x ∈ o2
  re : ∀ x ∈ o2, ReachP ts r x
  done : ∀ x ∈ pr, ∀ y ∈ needsP ts x, y ∈ o2
theorem CD.start {ts : List TyS} {r : R2} {o : List R2} (hu : UpR o) (hr : ∀ x ∈ o, ReachP ts r x) : CD ts r o [] o := ⟨hu, fun _ h => h, hr, fun x hx => (by cases hx)⟩
theorem CD.put {ts : List TyS} {r y : R2} {o pr o2 o3 : List R2} (h : CD ts r o pr o2) (hi : Ins o2 y o3) (hy : ReachP ts r y) : CD ts r o pr o3 :=
  ⟨hi.up, fun x hx => (hi.mem x).2 (.inr (h.sub x hx)), fun x hx => by
    rcases (hi.mem x).1 hx with rfl | hx
    · exact hy
    · exact h.re x hx, fun x hx z hz => (hi.mem z).2 (.inr (h.done x hx z hz))⟩
theorem CD.next {ts : List TyS} {r : R2} {o o2 : List R2} {i : Nat} (h : CD ts r o (o.take i) o2) (hi : i < o.length) (hn : ∀ y ∈ needsP ts o[i], y ∈ o2) : CD ts r o (o.take (i + 1)) o2 :=
  ⟨h.up, h.sub, h.re, fun x hx y hy => by
    rw [List.take_succ_eq_append_getElem hi, List.mem_append, List.mem_singleton] at hx
    rcases hx with hx | rfl
    · exact h.done x hx y hy
    · exact hn y hy⟩
theorem CD.len {ts : List TyS} {r : R2} {o pr o2 : List R2} (h : CD ts r o pr o2) : o2.length ≤ (univP ts r).length := nodup_le h.up.nodup fun x hx => reach_univ (h.re x hx)
theorem CD.more {ts : List TyS} {r : R2} {o pr o2 : List R2} (h : CD ts r o pr o2) (hu : UpR o) : o.length ≤ o2.length := nodup_le hu.nodup h.sub
theorem CD.fin {ts : List TyS} {r : R2} {o o2 : List R2} (h : CD ts r o o o2) (hu : UpR o) (hr : r ∈ o) (hl : o2.length = o.length) (x : R2) : x ∈ o2 ↔ ReachP ts r x := by
  have hb : ∀ y ∈ o2, y ∈ o := fun y hy => by
    by_cases hyo : y ∈ o
    · exact hyo
    · have := nodup_le (l := y :: o) (u := o2) (List.nodup_cons.2 ⟨hyo, hu.nodup⟩) fun z hz => by
        rcases List.mem_cons.1 hz with rfl | hz
        · exact hy
        · exact h.sub z hz
      simp at this
      omega
  refine ⟨h.re x, fun hx => ?_⟩
  induction hx with
  | self => exact h.sub r hr
  | step _ h2 ih => exact h.done _ (hb _ ih) _ h2

end Go.Proofs.Ytipddhcfcehcaaa
namespace Go.Proofs.Ytipddhcfcehcaaa
open Go Go.RowKit Go.Maps

end Go.Proofs.Ytipddhcfcehcaaa
namespace Go.Proofs.Ytipddhcfcehcaaa
open Go Go.RowKit Go.ChangeShapes Go.WideShapes Go.ChangeAt

section
variable {H : Type} {enc : TypeId × Value → H} {P : Program} {w : World}

theorem mapM_some {α β : Type} {f : α → Option β} : ∀ {l : List α} {r : List β}, l.mapM f = some r → r.length = l.length ∧ ∀ (i : Nat) (x : α), l[i]? = some x → f x = r[i]? := by
  intro l
  induction l with
  | nil => intro r h; simp at h; subst h; exact ⟨rfl, by simp⟩
  | cons a l ih =>
    intro r h
    simp only [List.mapM_cons, Option.bind_eq_bind, Option.bind_eq_some_iff, Option.pure_def, Option.some.injEq] at h
    obtain ⟨b, hb, bs, hbs, rfl⟩ := h
    obtain ⟨h1, h2⟩ := ih hbs
    refine ⟨by simp [h1], fun i x hx => ?_⟩
    cases i with
    | zero => simp at hx; subst hx; simpa using hb
    | succ i => simp at hx ⊢; exact h2 i x hx

theorem addr_add_add (a : Addr) (x y : Nat) : (a.add x).add y = a.add (x + y) := by
  by_cases hx : x = 0
  · subst hx; simp [Addr.add]
  · by_cases hy : y = 0
    · subst hy; simp [Addr.add]
    · simp [Addr.add, hx, hy, Nat.add_assoc]

/-- The cells of a row: as World.cells? reads them. -/
theorem cells_get {base : Nat} {a : Addr} {n : Nat} {cs : List Value} (h : w.cells? base a n = some cs) : cs.length = n ∧ ∀ j, j < n → w.cell? (a.add j) = cs[j]? := by
  unfold World.cells? at h
  split at h
  · obtain ⟨h1, h2⟩ := mapM_some h
    refine ⟨by simpa using h1, fun j hj => h2 j j (by simp [hj])⟩
  · cases h

/-- A slice's reading gives its cells, element by element. -/
theorem open_sl {t e : TypeId} {v : Value} {d : DataW H} {ps : List MemPlace} (ht : P.underlying t = some (.slice e)) (hv : ∃ a len cap, v = .slice a len cap) (h : DataW.Trod enc P w 0 (fun _ => true) true t v d ps) :
    ∃ (xs : List Value) (elems : List (DataW H × List MemPlace)) (fuel : Nat), Sl (· < w.heap.size) w (P.cellsOf e) v xs ∧ xs.length = elems.length * P.cellsOf e ∧
      (∀ i y, elems[i]? = some y → DataW.trod enc P w 0 (fun _ => true) true fuel e ((xs.drop (i * P.cellsOf e)).take (P.cellsOf e)) = some y) ∧
      (d = .nil ∧ elems = [] ∨ ∃ rest, d = .slice (elems.map (·.1)) rest) := by
  obtain ⟨a0, len0, cap0, rfl⟩ := hv
  obtain ⟨fuel, hf⟩ := h
  rcases DataW.trod_slice ht hf with ⟨hcs, hx⟩ | ⟨a, len, cap, elems, rest, n, hfu, hcs, hx, _, hlc, hcm, hlen, hel, _⟩
  · have hv : Value.slice a0 len0 cap0 = .slice none 0 0 := by simpa [Value.cells] using hcs
    rw [hv]
    simp only [Prod.mk.injEq] at hx
    exact ⟨[], [], 0, Sl.nil _ w _, by simp, by simp, .inl ⟨hx.1, rfl⟩⟩
  · have hv : Value.slice a0 len0 cap0 = .slice (some a) len cap := by simpa [Value.cells] using hcs
    rw [hv]
    generalize hk : P.cellsOf e = k at *
    have hget : ∀ i, i < len → ∃ cs y, w.cells? 0 (a.add (i * k)) k = some cs ∧ elems[i]? = some y ∧ DataW.trod enc P w 0 (fun _ => true) true n e cs = some y := by
      intro i hi
      have h1 := hel i hi
      obtain ⟨y, hy⟩ : ∃ y, elems[i]? = some y := ⟨_, List.getElem?_eq_getElem (by omega)⟩
      rw [hy] at h1
      obtain ⟨cs, hc1, hc2⟩ := Option.bind_eq_some_iff.1 h1
      exact ⟨cs, y, hc1, hy, hc2⟩
    -- the cells, one by one
    obtain ⟨xs, hxl, hxs⟩ : ∃ xs : List Value, xs.length = len * k ∧ ∀ i j, i < len → j < k → w.cell? (a.add (i * k + j)) = xs[i * k + j]? := by
      refine ⟨(List.range (len * k)).map fun m => (w.cell? (a.add m)).getD undef, by simp, fun i j hi hj => ?_⟩
      have hm : i * k + j < len * k := by
        have := Nat.mul_le_mul_right k (show i + 1 ≤ len from hi)
        rw [Nat.add_mul] at this
        omega
      obtain ⟨cs, y, hc1, _, _⟩ := hget i hi
      obtain ⟨hcl, hcc⟩ := cells_get hc1
      have h2 := hcc j hj
      rw [addr_add_add] at h2
      rw [h2, List.getElem?_eq_getElem (by omega)]
      simp [hm, h2, List.getElem?_eq_getElem (show j < cs.length by omega)]
    have hxm : ∀ m u, xs[m]? = some u → w.cell? (a.add m) = some u := by
      intro m u hu
      have hml : m < len * k := by rw [← hxl]; exact (List.getElem?_eq_some_iff.1 hu).1
      have hk0 : 0 < k := by
        apply Nat.pos_of_ne_zero
        intro h0
        rw [h0] at hml
        omega
      have hdm := Nat.div_add_mod m k
      have hi : m / k < len := (Nat.div_lt_iff_lt_mul hk0).2 hml
      have := hxs (m / k) (m % k) hi (Nat.mod_lt _ hk0)
      rw [Nat.mul_comm, hdm] at this
      rw [this, hu]
    refine ⟨xs, elems, n, ⟨some a, len, cap, rfl, hxl, hlc, hcm, fun h => (by cases h), fun hne => ?_⟩, by rw [hxl, hlen], fun i y hy => ?_, .inr ⟨rest.map (·.1), ?_⟩⟩
    · obtain ⟨u, hu⟩ : ∃ u, xs[0]? = some u := by
        cases xs with
        | nil => exact absurd rfl hne
        | cons x _ => exact ⟨x, rfl⟩
      have h0 := hxm 0 u hu
      obtain ⟨b, off, s⟩ := a
      have hs : s = none := by
        cases s with
        | none => rfl
        | some s =>
          exfalso
          simp only [Addr.add, World.cell?] at h0
          split at h0 <;> simp at h0
      subst hs
      have hb := World.block_lt_of_cell? w _ h0
      rw [Addr.add_lit] at hb
      exact ⟨b, off, rfl, hb, fun j u hu => by have := hxm j u hu; rwa [Addr.add_lit] at this⟩
    · have hi : i < len := by rw [← hlen]; exact (List.getElem?_eq_some_iff.1 hy).1
      obtain ⟨cs, y', hc1, hy', hc2⟩ := hget i hi
      obtain rfl : y = y' := by rw [hy] at hy'; exact Option.some.inj hy'
      obtain ⟨hcl, hcc⟩ := cells_get hc1
      have : (xs.drop (i * k)).take k = cs := by
        apply List.ext_getElem?
        intro j
        rw [List.getElem?_take]
        split
        · rename_i hj
          rw [List.getElem?_drop, ← hxs i j hi hj, ← hcc j hj, addr_add_add]
        · rename_i hj
          rw [List.getElem?_eq_none (by omega)]
      rw [this]
      exact hc2
    · simp only [Prod.mk.injEq] at hx
      exact hx.1

/-- What all of a law's arguments read as, they read as behind a call that has only made new blocks. -/
theorem trodAll_stays {ts : List TypeId} (hl : laidOutB P = true) {W W' : World} (hb : Below W.heap.size W W') :
    ∀ {vs : List Value} {ds : List (DataW H)} {ps : List MemPlace}, (∀ t ∈ ts, P.readableRec t = true ∧ t < P.types.size) → (∀ x ∈ ps, x.block < W.heap.size) →
      DataW.TrodAll enc P W 0 (fun _ => true) true ts vs ds ps → DataW.TrodAll enc P W' 0 (fun b => decide (b < W.heap.size)) true ts vs ds ps := by
  induction ts with
  | nil =>
    intro vs ds ps _ _ h
    cases vs <;> cases ds <;> simp_all [DataW.TrodAll]
  | cons t ts ih =>
    intro vs ds ps hr hlt h
    obtain ⟨v, vs', d, ds', p, q, rfl, rfl, rfl, h1, h2⟩ := trodAll_cons h
    exact trodAll_cons_mk (Below.trod hl (hr t (by simp)).1 (hr t (by simp)).2 h1 hb (fun x hx => hlt x (by simp [hx]))) (ih (fun t ht => hr t (by simp [ht])) (fun x hx => hlt x (by simp [hx])) h2)

/-- A law's post: it says true; the arguments read as they did. -/
theorem law_post {f : Func} {s : ChangeSpec} {W W' : World} {args : Array Value} {ds gs : List (DataW H)} {before : List MemPlace} {tb : TypeId}
    (hW : DataW.Whole enc P f.params.toList s.vars false W args.toList ds gs before) (hvars : s.vars = []) (hres : f.resultTypes = #[tb]) (htb : P.underlying tb = some .bool)
    (hfn : (s.fn H (ds ++ gs)).results = [.lit (.bool true)]) (hfa : (s.fn H (ds ++ gs)).args = ds) (hfv : (s.fn H (ds ++ gs)).vars = [])
    (hl : laidOutB P = true) (hr : (f.params.toList.all fun t => P.readableRec t && decide (t < P.types.size)) = true) (hb : Below W.heap.size W W') :
    s.post enc P f false true false false W args (.bool true) W' := by
  have hlt := hW.lt
  have hW0 := hW
  obtain ⟨p, q, hA, hV, rfl, _, _⟩ := hW
  rw [hvars] at hV
  refine ⟨ds, gs, p ++ q, [], p, [], hW0, ?_, ?_, ?_, hb.frame _, fun h => by cases h⟩
  · rw [hfn, hres]
    exact trodAll_mk1 (shut_bool htb true)
  · rw [hfa]
    refine trodAll_stays hl hb (fun t ht => ?_) (fun x hx => hlt x (by simp [hx])) hA
    have := List.all_eq_true.1 hr t ht
    simpa using this
  · rw [hfv, hvars]
    rfl
end

end Go.Proofs.Ytipddhcfcehcaaa
namespace Go.Proofs.Ytipddhcfcehcaaa
open Go Go.RowKit Go.ChangeShapes Go.WideShapes Go.ChangeAt

section
variable {H : Type} {enc : TypeId × Value → H} {P : Program} {w : World}
/-- A slice's reading gives its cells, element by element. -/
theorem open_slF {fuel0 : Nat} {t e : TypeId} {v : Value} {d : DataW H} {ps : List MemPlace} (ht : P.underlying t = some (.slice e)) (hf : DataW.trod enc P w 0 (fun _ => true) true fuel0 t [v] = some (d, ps)) :
    ∃ (xs : List Value) (elems : List (DataW H × List MemPlace)) (fuel : Nat), (elems = [] ∨ fuel < fuel0) ∧ Sl (· < w.heap.size) w (P.cellsOf e) v xs ∧ xs.length = elems.length * P.cellsOf e ∧
      (∀ i y, elems[i]? = some y → DataW.trod enc P w 0 (fun _ => true) true fuel e ((xs.drop (i * P.cellsOf e)).take (P.cellsOf e)) = some y) ∧
      (d = .nil ∧ elems = [] ∨ ∃ rest, d = .slice (elems.map (·.1)) rest) := by
  rcases DataW.trod_slice ht hf with ⟨hcs, hx⟩ | ⟨a, len, cap, elems, rest, n, hfu, hcs, hx, _, hlc, hcm, hlen, hel, _⟩
  · obtain rfl : v = .slice none 0 0 := by simpa using hcs
    simp only [Prod.mk.injEq] at hx
    exact ⟨[], [], 0, .inl rfl, Sl.nil _ w _, by simp, by simp, .inl ⟨hx.1, rfl⟩⟩
  · obtain rfl : v = .slice (some a) len cap := by simpa using hcs
    generalize hk : P.cellsOf e = k at *
    have hget : ∀ i, i < len → ∃ cs y, w.cells? 0 (a.add (i * k)) k = some cs ∧ elems[i]? = some y ∧ DataW.trod enc P w 0 (fun _ => true) true n e cs = some y := by
      intro i hi
      have h1 := hel i hi
      obtain ⟨y, hy⟩ : ∃ y, elems[i]? = some y := ⟨_, List.getElem?_eq_getElem (by omega)⟩
      rw [hy] at h1
      obtain ⟨cs, hc1, hc2⟩ := Option.bind_eq_some_iff.1 h1
      exact ⟨cs, y, hc1, hy, hc2⟩
    -- the cells, one by one
    obtain ⟨xs, hxl, hxs⟩ : ∃ xs : List Value, xs.length = len * k ∧ ∀ i j, i < len → j < k → w.cell? (a.add (i * k + j)) = xs[i * k + j]? := by
      refine ⟨(List.range (len * k)).map fun m => (w.cell? (a.add m)).getD undef, by simp, fun i j hi hj => ?_⟩
      have hm : i * k + j < len * k := by
        have := Nat.mul_le_mul_right k (show i + 1 ≤ len from hi)
        rw [Nat.add_mul] at this
        omega
      obtain ⟨cs, y, hc1, _, _⟩ := hget i hi
      obtain ⟨hcl, hcc⟩ := cells_get hc1
      have h2 := hcc j hj
      rw [addr_add_add] at h2
      rw [h2, List.getElem?_eq_getElem (by omega)]
      simp [hm, h2, List.getElem?_eq_getElem (show j < cs.length by omega)]
    have hxm : ∀ m u, xs[m]? = some u → w.cell? (a.add m) = some u := by
      intro m u hu
      have hml : m < len * k := by rw [← hxl]; exact (List.getElem?_eq_some_iff.1 hu).1
      have hk0 : 0 < k := by
        apply Nat.pos_of_ne_zero
        intro h0
        rw [h0] at hml
        omega
      have hdm := Nat.div_add_mod m k
      have hi : m / k < len := (Nat.div_lt_iff_lt_mul hk0).2 hml
      have := hxs (m / k) (m % k) hi (Nat.mod_lt _ hk0)
      rw [Nat.mul_comm, hdm] at this
      rw [this, hu]
    refine ⟨xs, elems, n, .inr (by omega), ⟨some a, len, cap, rfl, hxl, hlc, hcm, fun h => (by cases h), fun hne => ?_⟩, by rw [hxl, hlen], fun i y hy => ?_, .inr ⟨rest.map (·.1), ?_⟩⟩
    · obtain ⟨u, hu⟩ : ∃ u, xs[0]? = some u := by
        cases xs with
        | nil => exact absurd rfl hne
        | cons x _ => exact ⟨x, rfl⟩
      have h0 := hxm 0 u hu
      obtain ⟨b, off, s⟩ := a
      have hs : s = none := by
        cases s with
        | none => rfl
        | some s =>
          exfalso
          simp only [Addr.add, World.cell?] at h0
          split at h0 <;> simp at h0
      subst hs
      have hb := World.block_lt_of_cell? w _ h0
      rw [Addr.add_lit] at hb
      exact ⟨b, off, rfl, hb, fun j u hu => by have := hxm j u hu; rwa [Addr.add_lit] at this⟩
    · have hi : i < len := by rw [← hlen]; exact (List.getElem?_eq_some_iff.1 hy).1
      obtain ⟨cs, y', hc1, hy', hc2⟩ := hget i hi
      obtain rfl : y = y' := by rw [hy] at hy'; exact Option.some.inj hy'
      obtain ⟨hcl, hcc⟩ := cells_get hc1
      have : (xs.drop (i * k)).take k = cs := by
        apply List.ext_getElem?
        intro j
        rw [List.getElem?_take]
        split
        · rename_i hj
          rw [List.getElem?_drop, ← hxs i j hi hj, ← hcc j hj, addr_add_add]
        · rename_i hj
          rw [List.getElem?_eq_none (by omega)]
      rw [this]
      exact hc2
    · simp only [Prod.mk.injEq] at hx
      exact hx.1


/-- A row of elements, each of which reads as something, and the data it reads as, one by one. -/
theorem open_rowsB {α : Type} (ec : α → List Value) (Q : α → DataW H → Prop) {t e : TypeId} {v : Value} {fuel0 : Nat} {y0 : DataW H × List MemPlace} {sz : Nat}
    (ht : P.underlying t = some (.slice e)) (hsz : P.cellsOf e = sz) (h : DataW.trod enc P w 0 (fun _ => true) true fuel0 t [v] = some y0)
    (hel : ∀ fuel, fuel < fuel0 → ∀ cs y, DataW.trod enc P w 0 (fun _ => true) true fuel e cs = some y → ∃ a, cs = ec a ∧ Q a y.1) :
    ∃ l : List (α × DataW H), Sl (· < w.heap.size) w sz v ((l.map (·.1)).flatMap ec) ∧ (∀ p ∈ l, Q p.1 p.2) ∧ (l = [] ∨ ∃ rest, y0.1 = .slice (l.map (·.2)) rest) := by
  obtain ⟨xs, elems, fuel, hfu, hs, hl, he, hd⟩ := open_slF ht (d := y0.1) (ps := y0.2) h
  rw [hsz] at hs hl he
  have main : ∀ n, n ≤ elems.length → ∃ l : List (α × DataW H), l.length = n ∧ xs.take (n * sz) = (l.map (·.1)).flatMap ec ∧ l.map (·.2) = (elems.take n).map (·.1) ∧ ∀ p ∈ l, Q p.1 p.2 := by
    intro n
    induction n with
    | zero => intro _; exact ⟨[], rfl, by simp, by simp, by simp⟩
    | succ n ih =>
      intro hn
      obtain ⟨l, hl0, hl1, hl3, hl2⟩ := ih (by omega)
      have hf : fuel < fuel0 := by
        rcases hfu with h | h
        · rw [h] at hn; simp at hn
        · exact h
      obtain ⟨a, ha, hq⟩ := hel _ hf _ _ (he n elems[n] (List.getElem?_eq_getElem (by omega)))
      refine ⟨l ++ [(a, elems[n].1)], by simp [hl0], ?_, ?_, fun b hb => ?_⟩
      · rw [Nat.add_mul, Nat.one_mul, List.take_add, hl1, ha, List.map_append, List.flatMap_append]
        simp
      · rw [List.map_append, hl3, List.take_succ_eq_append_getElem (by omega), List.map_append]
        rfl
      · rcases List.mem_append.1 hb with hb | hb
        · exact hl2 b hb
        · obtain rfl : b = (a, elems[n].1) := by simpa using hb
          exact hq
  obtain ⟨l, hl0, hl1, hl3, hl2⟩ := main elems.length (Nat.le_refl _)
  rw [← hl, List.take_length] at hl1
  rw [List.take_length] at hl3
  refine ⟨l, hl1 ▸ hs, hl2, ?_⟩
  rcases hd with ⟨_, rfl⟩ | ⟨rest, hd⟩
  · exact .inl (List.eq_nil_of_length_eq_zero (by simpa using hl0))
  · exact .inr ⟨rest, by rw [hl3]; exact hd⟩
end

mutual
/-- A rule's bulk, as data. -/
def RT.bk : RT → Nat | .mk _ a b ps => 5 + a.size + b.size + bkL ps
def bkL : List RT → Nat | [] => 0 | r :: rs => r.bk + bkL rs
end
def relBk (x : ByteArray × RT) : Nat := 2 + x.1.size + x.2.bk
def sumN {α : Type} (f : α → Nat) : List α → Nat | [] => 0 | x :: l => f x + sumN f l
theorem relBk_eq (x : ByteArray × RT) : relBk x = 2 + x.1.size + x.2.bk := rfl
def tyBk (t : TyS) : Nat := 2 + t.name.size + sumN relBk t.rels
theorem tyBk_eq (t : TyS) : tyBk t = 2 + t.name.size + sumN relBk t.rels := rfl
theorem bkL_sum (l : List RT) : bkL l = sumN RT.bk l := by
  induction l with
  | nil => rfl
  | cons x l ih => rw [bkL, sumN, ih]
theorem bulk_sum {H α : Type} {f : α → Nat} : ∀ {l : List (α × DataW H)}, (∀ p ∈ l, f p.1 ≤ Rows.uptoBulk p.2) → sumN f (l.map (·.1)) ≤ Rows.uptoBulkAll (l.map (·.2))
  | [], _ => Nat.zero_le _
  | p :: l, h => by
    rw [List.map_cons, List.map_cons, sumN, Rows.uptoBulkAll]
    have h1 := h p List.mem_cons_self
    have h2 := bulk_sum (l := l) fun q hq => h q (List.mem_cons_of_mem _ hq)
    omega

theorem bulk_pos {H : Type} (d : DataW H) : 1 ≤ Rows.uptoBulk d := by
  cases d with
  | lit l => cases l <;> simp [Rows.uptoBulk]
  | nil => simp [Rows.uptoBulk]
  | ptr d => simp [Rows.uptoBulk]
  | slice elems spare => simp [Rows.uptoBulk]
  | agg parts => simp [Rows.uptoBulk]
  | iface t d => simp [Rows.uptoBulk]
  | map entries => simp [Rows.uptoBulk]
  | held h => simp [Rows.uptoBulk]
theorem bulk_row {H α : Type} {f : α → Nat} {l : List (α × DataW H)} {d : DataW H} (hd : l = [] ∨ ∃ rest, d = .slice (l.map (·.2)) rest) (h : ∀ p ∈ l, f p.1 ≤ Rows.uptoBulk p.2) : sumN f (l.map (·.1)) + 1 ≤ Rows.uptoBulk d := by
  rcases hd with rfl | ⟨rest, rfl⟩
  · have := bulk_pos d
    simpa [sumN] using this
  · rw [Rows.uptoBulk]
    have := bulk_sum (f := f) h
    omega
theorem sumN_map {α β : Type} (g : β → Nat) (f : α → β) (l : List α) : sumN (fun x => g (f x)) l = sumN g (l.map f) := by
  induction l with
  | nil => rfl
  | cons x l ih => rw [List.map_cons, sumN, sumN, ih]
theorem sumN_mem {α : Type} (f : α → Nat) {a : α} : ∀ {l : List α}, a ∈ l → f a ≤ sumN f l
  | x :: l, h => by
    rw [sumN]
    rcases List.mem_cons.1 h with rfl | h
    · omega
    · have := sumN_mem f h; omega

section
variable {H : Type} {enc : TypeId × Value → H} {W : World} {base : Nat} {v : Value} {d : DataW H} {ps : List MemPlace}

def RuleQ (W : World) (x : RT × Value) (d : DataW H) : Prop := RTAt (· < W.heap.size) W x.1 x.2 ∧ (x.1.bk ≤ 1048576 → x.1.Ok) ∧ x.1.bk ≤ Rows.uptoBulk d

set_option maxRecDepth 100000 in
theorem open_rule_cells (fuel : Nat) : ∀ {cs : List Value} {y : DataW H × List MemPlace}, DataW.trod enc Try.prog W 0 (fun _ => true) true fuel 72 cs = some y → ∃ x : RT × Value, cs = rC x ∧ RuleQ W x y.1 := by
  induction fuel using Nat.strongRecOn with
  | ind fuel ih =>
  intro cs y hy
  obtain ⟨xs, n, hfn, hyx, hl, hlen, hf⟩ := DataW.trod_struct Try.underlying72 hy
  rw [show Try.prog.cellsOf 72 = 4 from by kernel_rfl] at hl
  obtain ⟨c0, c1, c2, c3, rfl⟩ : ∃ c0 c1 c2 c3, cs = [c0, c1, c2, c3] := by
    match cs, hl with
    | [c0, c1, c2, c3], _ => exact ⟨c0, c1, c2, c3, rfl⟩
  have h0 := hf 0 _ rfl
  have h1 := hf 1 _ rfl
  have h2 := hf 2 _ rfl
  have h3 := hf 3 _ rfl
  obtain ⟨y0, y1, y2, y3, rfl⟩ : ∃ y0 y1 y2 y3, xs = [y0, y1, y2, y3] := by
    match xs, hlen with
    | [y0, y1, y2, y3], _ => exact ⟨y0, y1, y2, y3, rfl⟩
  have k0 : Try.prog.cellsOf 3 = 1 := by kernel_rfl
  have k1 : Try.prog.cellsOf 9 = 1 := by kernel_rfl
  have k2 : Try.prog.cellsOf 70 = 1 := by kernel_rfl
  obtain ⟨k, e0, d0, w0⟩ := DataW.trod_int Try.underlying3 h0
  obtain ⟨a, e1, d1, wa⟩ := DataW.trod_string Try.underlying9 h1
  obtain ⟨b, e2, d2, wb⟩ := DataW.trod_string Try.underlying9 h2
  simp [k0] at e0
  simp [k1] at e1 e2
  subst e0 e1 e2
  have h3' : DataW.trod enc Try.prog W 0 (fun _ => true) true n 70 [c3] = some y3 := by simpa [k2] using h3
  obtain ⟨l, hs, hq, hd⟩ := open_rowsB rC (RuleQ W) Try.underlying70 (show _ = 4 by kernel_rfl) h3' (fun fuel' hlt cs y hy => ih fuel' (by omega) hy)
  have hbk : (RT.mk k a b (l.map (·.1.1))).bk ≤ Rows.uptoBulk y.1 := by
    have h4 := bulk_row (f := fun x : RT × Value => x.1.bk) hd fun p hp => (hq p hp).2.2
    rw [sumN_map RT.bk (fun x : RT × Value => x.1), List.map_map] at h4
    rw [hyx, d0, d1, d2, RT.bk, bkL_sum]
    simp only [List.map_cons, List.map_nil, Rows.uptoBulkAll, Rows.uptoBulk, Array.length_toList]
    have e : (l.map (·.1.1)) = l.map ((fun x : RT × Value => x.1) ∘ fun x => x.1) := rfl
    rw [e]
    show 5 + a.data.size + b.data.size + _ ≤ _
    omega
  refine ⟨(.mk k a b (l.map (·.1.1)), c3), rfl, (RTAt.iff _ _).2 ⟨l.map (·.1), by simp [RT.ps, List.map_map], fun x hx => ?_, hs⟩, fun hle => ?_, hbk⟩
  · obtain ⟨p, hp, rfl⟩ := List.mem_map.1 hx
    exact (hq p hp).1
  · rw [RT.bk] at hle
    refine (RT.ok_iff _).2 ⟨?_, ?_, ?_, fun r hr => ?_⟩
    · have := w0
      simp [Lit.wf] at this
      exact this
    · show a.size ≤ _; omega
    · show b.size ≤ _; omega
    · obtain ⟨p, hp, rfl⟩ := List.mem_map.1 hr
      exact (hq p hp).2.1 (by
        have : p.1.1.bk ≤ bkL (l.map (·.1.1)) := by
          rw [bkL_sum]
          exact sumN_mem _ (List.mem_map.2 ⟨p, hp, rfl⟩)
        omega)

def RelQ (W : World) (x : (ByteArray × RT) × Value) (d : DataW H) : Prop := RTAt (· < W.heap.size) W x.1.2 x.2 ∧ (relBk x.1 ≤ 1048576 → x.1.2.Ok) ∧ relBk x.1 ≤ Rows.uptoBulk d
set_option maxRecDepth 100000 in
theorem open_rel_cells {fuel : Nat} {cs : List Value} {y : DataW H × List MemPlace} (hy : DataW.trod enc Try.prog W 0 (fun _ => true) true fuel 82 cs = some y) : ∃ x : (ByteArray × RT) × Value, cs = relC x ∧ RelQ W x y.1 := by
  obtain ⟨xs, n, hfn, hyx, hl, hlen, hf⟩ := DataW.trod_struct Try.underlying82 hy
  rw [show Try.prog.cellsOf 82 = 5 from by kernel_rfl] at hl
  obtain ⟨c0, c1, c2, c3, c4, rfl⟩ : ∃ c0 c1 c2 c3 c4, cs = [c0, c1, c2, c3, c4] := by
    match cs, hl with
    | [c0, c1, c2, c3, c4], _ => exact ⟨c0, c1, c2, c3, c4, rfl⟩
  have h0 := hf 0 _ rfl
  have h1 := hf 1 _ rfl
  obtain ⟨y0, y1, rfl⟩ : ∃ y0 y1, xs = [y0, y1] := by
    match xs, hlen with
    | [y0, y1], _ => exact ⟨y0, y1, rfl⟩
  have k0 : Try.prog.cellsOf 9 = 1 := by kernel_rfl
  have k1 : Try.prog.cellsOf 72 = 4 := by kernel_rfl
  obtain ⟨a, e0, d0, wa⟩ := DataW.trod_string Try.underlying9 h0
  simp [k0] at e0
  subst e0
  have h1' : DataW.trod enc Try.prog W 0 (fun _ => true) true n 72 [c1, c2, c3, c4] = some y1 := by simpa [k1] using h1
  obtain ⟨⟨r, pv⟩, hc, hat, hok, hbk⟩ := open_rule_cells n h1'
  simp only [rC, List.cons.injEq, and_true] at hc
  obtain ⟨rfl, rfl, rfl, rfl⟩ := hc
  refine ⟨((a, r), _), rfl, hat, fun hle => hok ?_, ?_⟩
  · unfold relBk at hle
    dsimp only at hle ⊢
    omega
  · rw [hyx, d0]
    simp only [List.map_cons, List.map_nil, Rows.uptoBulkAll, Rows.uptoBulk, Array.length_toList]
    show 2 + a.data.size + r.bk ≤ _
    dsimp only at hbk
    omega

def TyQ (W : World) (x : TyS × Value) (d : DataW H) : Prop := RelsAt (· < W.heap.size) W x.1.rels x.2 ∧ (tyBk x.1 ≤ 1048576 → x.1.Ok) ∧ tyBk x.1 ≤ Rows.uptoBulk d
set_option maxRecDepth 100000 in
theorem open_type_cells {fuel : Nat} {cs : List Value} {y : DataW H × List MemPlace} (hy : DataW.trod enc Try.prog W 0 (fun _ => true) true fuel 49 cs = some y) : ∃ x : TyS × Value, cs = tyC x ∧ TyQ W x y.1 := by
  obtain ⟨xs, n, hfn, hyx, hl, hlen, hf⟩ := DataW.trod_struct Try.underlying49 hy
  rw [show Try.prog.cellsOf 49 = 2 from by kernel_rfl] at hl
  obtain ⟨c0, c1, rfl⟩ : ∃ c0 c1, cs = [c0, c1] := by
    match cs, hl with
    | [c0, c1], _ => exact ⟨c0, c1, rfl⟩
  have h0 := hf 0 _ rfl
  have h1 := hf 1 _ rfl
  obtain ⟨y0, y1, rfl⟩ : ∃ y0 y1, xs = [y0, y1] := by
    match xs, hlen with
    | [y0, y1], _ => exact ⟨y0, y1, rfl⟩
  have k0 : Try.prog.cellsOf 9 = 1 := by kernel_rfl
  have k1 : Try.prog.cellsOf 47 = 1 := by kernel_rfl
  obtain ⟨a, e0, d0, wa⟩ := DataW.trod_string Try.underlying9 h0
  simp [k0] at e0
  subst e0
  have h1' : DataW.trod enc Try.prog W 0 (fun _ => true) true n 47 [c1] = some y1 := by simpa [k1] using h1
  obtain ⟨l, hs, hq, hd⟩ := open_rowsB relC (RelQ W) Try.underlying47 (show _ = 5 by kernel_rfl) h1' (fun fuel' _ cs y hy => open_rel_cells hy)
  have h4 := bulk_row (f := fun x : (ByteArray × RT) × Value => relBk x.1) hd fun p hp => (hq p hp).2.2
  rw [sumN_map relBk (fun x : (ByteArray × RT) × Value => x.1), List.map_map] at h4
  refine ⟨(⟨a, l.map ((fun x : (ByteArray × RT) × Value => x.1) ∘ fun x => x.1)⟩, c1), rfl, ⟨l.map (·.1), by simp [List.map_map], fun x hx => ?_, hs⟩, fun hle => ?_, ?_⟩
  · obtain ⟨p, hp, rfl⟩ := List.mem_map.1 hx
    exact (hq p hp).1
  · unfold tyBk at hle
    dsimp only at hle
    refine ⟨by show a.size ≤ _; omega, fun r hr => ?_⟩
    have h5 := sumN_mem relBk hr
    obtain ⟨p, hp, rfl⟩ := List.mem_map.1 hr
    dsimp only [Function.comp_apply] at h5
    refine ⟨?_, (hq p hp).2.1 (by omega)⟩
    have h6 := relBk_eq p.1.1
    show p.1.1.1.size ≤ _
    omega
  · rw [hyx, d0, tyBk_eq]
    simp only [List.map_cons, List.map_nil, Rows.uptoBulkAll, Rows.uptoBulk, Array.length_toList]
    show 2 + a.data.size + sumN relBk (l.map ((fun x : (ByteArray × RT) × Value => x.1) ∘ fun x => x.1)) + 0 ≤ _
    omega

def schBk (ts : List TyS) : Nat := sumN tyBk ts
set_option maxRecDepth 100000 in
theorem open_schemaV (hok : Value.okWide Try.prog W .any base 24 v) (h : DataW.Trod enc Try.prog W 0 (fun _ => true) true 24 v d ps) : ∃ (ts : List TyS) (tv : Value), v = .agg #[tv] ∧ TysAt (· < W.heap.size) W ts tv ∧ schBk ts + 2 ≤ Rows.uptoBulk d ∧ (schBk ts ≤ 1048576 → ∀ t ∈ ts, t.Ok) := by
  obtain ⟨ca, rfl, _⟩ := okWide_struct Try.underlying24 hok
  obtain ⟨fuel, hy⟩ := h
  obtain ⟨xs, n, hfn, hyx, hl, hlen, hf⟩ := DataW.trod_struct Try.underlying24 hy
  rw [show Try.prog.cellsOf 24 = 1 from by kernel_rfl] at hl
  obtain ⟨c0, hc⟩ : ∃ c0, (Value.agg ca).cells.toList = [c0] := by
    match (Value.agg ca).cells.toList, hl with
    | [c0], _ => exact ⟨c0, rfl⟩
  have h0 := hf 0 _ rfl
  obtain ⟨y0, rfl⟩ : ∃ y0, xs = [y0] := by
    match xs, hlen with
    | [y0], _ => exact ⟨y0, rfl⟩
  have k0 : Try.prog.cellsOf 22 = 1 := by kernel_rfl
  rw [hc] at h0
  have h0' : DataW.trod enc Try.prog W 0 (fun _ => true) true n 22 [c0] = some y0 := by simpa [k0] using h0
  obtain ⟨l, hs, hq, hd⟩ := open_rowsB tyC (TyQ W) Try.underlying22 (show _ = 2 by kernel_rfl) h0' (fun fuel' _ cs y hy => open_type_cells hy)
  have h4 := bulk_row (f := fun x : TyS × Value => tyBk x.1) hd fun p hp => (hq p hp).2.2
  rw [sumN_map tyBk (fun x : TyS × Value => x.1), List.map_map] at h4
  refine ⟨l.map ((fun x : TyS × Value => x.1) ∘ fun x => x.1), c0, congrArg Value.agg (Array.toList_inj.1 hc), ⟨l.map (·.1), by simp [List.map_map], fun x hx => ?_, hs⟩, ?_, fun hle t ht => ?_⟩
  · obtain ⟨p, hp, rfl⟩ := List.mem_map.1 hx
    exact (hq p hp).1
  · have hdd := congrArg Prod.fst hyx
    dsimp only at hdd
    rw [hdd]
    simp only [List.map_cons, List.map_nil, Rows.uptoBulkAll, Rows.uptoBulk]
    unfold schBk
    omega
  · have h5 := sumN_mem tyBk ht
    obtain ⟨p, hp, rfl⟩ := List.mem_map.1 ht
    unfold schBk at hle
    exact (hq p hp).2.1 (by dsimp only [Function.comp_apply] at h5; omega)
end

theorem sz_bk (r : RT) : 5 * r.sz ≤ r.bk ∧ 5 + r.a.size + r.b.size ≤ r.bk := by
  induction r using RT.ind with
  | h r ih =>
    obtain ⟨k, a, b, ps⟩ := r
    have : 5 * szL ps ≤ bkL ps := by
      have hh : ∀ p ∈ ps, 5 * p.sz ≤ p.bk := fun p hp => (ih p hp).1
      clear ih
      induction ps with
      | nil => simp [szL, bkL]
      | cons x ps ih =>
        rw [szL, bkL]
        have h1 := hh x List.mem_cons_self
        have h2 := ih fun p hp => hh p (List.mem_cons_of_mem _ hp)
        omega
    rw [RT.sz, RT.bk]
    refine ⟨by omega, ?_⟩
    show 5 + a.size + b.size ≤ _
    omega
theorem relW_bk (l : List (ByteArray × RT)) : relW l ≤ 20 * sumN relBk l := by
  induction l with
  | nil => simp [relW]
  | cons x l ih =>
    rw [relW, sumN]
    have := (sz_bk x.2).1
    have := relBk_eq x
    omega
theorem schW_bk (ts : List TyS) : schW ts ≤ 20 * schBk ts := by
  induction ts with
  | nil => simp [schW]
  | cons t ts ih =>
    rw [schW]
    have := relW_bk t.rels
    unfold schBk at ih ⊢
    rw [sumN]
    have := tyBk_eq t
    omega
theorem rels_bk (l : List (ByteArray × RT)) : l.length ≤ sumN relBk l := by
  induction l with
  | nil => simp
  | cons x l ih => rw [sumN, List.length_cons]; have := relBk_eq x; omega
theorem names_bk (ts : List TyS) : (namesOf ts).length ≤ schBk ts ∧ (refsOf ts).length ≤ schBk ts := by
  induction ts with
  | nil => exact ⟨Nat.zero_le _, Nat.zero_le _⟩
  | cons t ts ih =>
    have h1 := rels_bk t.rels
    unfold schBk namesOf refsOf at ih ⊢
    rw [List.flatMap_cons, List.flatMap_cons, List.length_append, List.length_append, sumN]
    have h2 : (relsOf t.name t.rels).length = t.rels.length := by unfold relsOf; rw [List.length_map]
    have h3 : (namesT t).length ≤ t.rels.length + 1 := by unfold namesT; simp
    have := tyBk_eq t
    omega
theorem sz_sch {ts : List TyS} (h : schBk ts ≤ 1048576) : ∀ t ∈ ts, ∀ r ∈ t.rels, r.2.sz ≤ 1000000 := fun t ht r hr => by
  have h1 := sumN_mem tyBk ht
  have h2 := sumN_mem relBk hr
  have h3 := (sz_bk r.2).1
  unfold schBk at h
  have h4 := tyBk_eq t
  have h5 := relBk_eq r
  omega
theorem wt_bk (r : RT) : r.wt + 8 ≤ 4 * r.bk := by
  induction r using RT.ind with
  | h r ih =>
    obtain ⟨k, a, b, ps⟩ := r
    have : wtL ps ≤ 4 * bkL ps := by
      have hh : ∀ p ∈ ps, p.wt + 8 ≤ 4 * p.bk := fun p hp => ih p hp
      clear ih
      induction ps with
      | nil => simp [wtL, bkL]
      | cons x ps ih =>
        rw [wtL, bkL]
        have h1 := hh x List.mem_cons_self
        have h2 := ih fun p hp => hh p (List.mem_cons_of_mem _ hp)
        omega
    rw [RT.wt, RT.bk]
    omega
theorem relB_bk (l : List (ByteArray × RT)) : relB l ≤ 5 * sumN relBk l := by
  induction l with
  | nil => simp [relB]
  | cons x l ih =>
    rw [relB, sumN]
    have := wt_bk x.2
    have := relBk_eq x
    omega
theorem schB_bk (ts : List TyS) : schB ts ≤ 5 * schBk ts := by
  induction ts with
  | nil => simp [schB]
  | cons t ts ih =>
    rw [schB]
    have := relB_bk t.rels
    unfold schBk at ih ⊢
    rw [sumN]
    have := tyBk_eq t
    omega

end Go.Proofs.Ytipddhcfcehcaaa
