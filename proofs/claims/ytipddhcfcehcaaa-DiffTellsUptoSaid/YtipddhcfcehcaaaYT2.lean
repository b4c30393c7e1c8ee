/- Lemmas for the claim, no condition. -/
import Derived.Lib.Hide
import Derived.Shelf.SlSortCmp.WholeK
import Derived.Shelf.SlSortCmp.NoneTotal
import Derived.Ground.SlsfProg
import Derived.Test.YtipddhcfcehcaaaProg
import Derived.Test.YtipddhcfcehcaaaYT1
import Derived.Test.YtipddhcfcehcaaaYT0
namespace Go.Proofs.Ytipddhcfcehcaaa
open Go Go.RowKit

section
variable {w w' : World} {B B' p : Nat} {e e' : TypeId} {sz sz' : Nat} {v v' : Value} {xs xs' : List Value} {cs : Array Value}
theorem Own.typed (h : Own w B e sz v xs) {g : Nat} (hg : v.ownBlock = some g) : ∃ cur, w.heap[g]? = some (.cells cur e (0, 0)) := by
  obtain ⟨n, _, h2⟩ := h
  rcases h2 with ⟨rfl, _⟩ | ⟨g', cap, cur, rfl, _, hh, _⟩
  · cases hg
  · obtain rfl : g' = g := Option.some.inj hg
    exact ⟨cur, hh⟩
theorem Own.keepOwn (h : Own w B e sz v xs) (hs : ∀ g, v.ownBlock = some g → w'.heap[g]? = w.heap[g]?) : Own w' B e sz v xs := by
  obtain ⟨n, h1, h2⟩ := h
  refine ⟨n, h1, ?_⟩
  rcases h2 with h2 | ⟨g, cap, cur, rfl, hb, hh, r⟩
  · exact .inl h2
  · exact .inr ⟨g, cap, cur, rfl, hb, (hs g rfl).trans hh, r⟩
end

section
variable {P : Program} {ops : Array Oper} {Q : Exit → Act → World → Prop} {S : World → Prop}
end

end Go.Proofs.Ytipddhcfcehcaaa
namespace Go.Proofs.Ytipddhcfcehcaaa
open Go Go.RowKit

/-- A rule. -/
inductive RT where
  | mk (k : Int) (a b : ByteArray) (ps : List RT)
def RT.k : RT → Int | .mk k _ _ _ => k
def RT.a : RT → ByteArray | .mk _ a _ _ => a
def RT.b : RT → ByteArray | .mk _ _ b _ => b
def RT.ps : RT → List RT | .mk _ _ _ ps => ps
instance : Inhabited RT := ⟨.mk 0 ByteArray.empty ByteArray.empty []⟩
mutual
/-- How many parts it has in all. -/
def RT.sz : RT → Nat | .mk _ _ _ ps => 1 + szL ps
def szL : List RT → Nat | [] => 0 | r :: rs => r.sz + szL rs
end
theorem szL_mem {p : RT} : ∀ {ps : List RT}, p ∈ ps → p.sz ≤ szL ps
  | r :: rs, h => by
    rw [szL]
    rcases List.mem_cons.1 h with rfl | h
    · omega
    · have := szL_mem h
      omega
theorem RT.sz_lt {r p : RT} (h : p ∈ r.ps) : p.sz < r.sz := by
  obtain ⟨k, a, b, ps⟩ := r
  have := szL_mem (show p ∈ ps from h)
  rw [RT.sz]
  omega
theorem RT.sz_eq (r : RT) : r.sz = 1 + szL r.ps := by
  obtain ⟨k, a, b, ps⟩ := r
  rw [RT.sz]
  rfl
/-- What holds of a rule if it holds of its parts, holds of all. -/
theorem RT.ind {Q : RT → Prop} (h : ∀ r, (∀ p ∈ r.ps, Q p) → Q r) (r : RT) : Q r := by
  generalize hn : r.sz = n
  induction n using Nat.strongRecOn generalizing r with
  | ind n ih => exact h r fun p hp => ih p.sz (by have := RT.sz_lt hp; omega) p rfl
theorem szL_append (a b : List RT) : szL (a ++ b) = szL a + szL b := by
  induction a with
  | nil => simp [szL]
  | cons x a ih => rw [List.cons_append, szL, szL, ih]; omega
theorem szL_take {l : List RT} {i : Nat} (hi : i < l.length) : szL (l.take (i + 1)) = szL (l.take i) + l[i].sz := by
  rw [List.take_succ_eq_append_getElem hi, szL_append]
  simp [szL]

mutual
/-- Its texts and its kind may lie in memory. -/
def RT.Ok : RT → Prop | .mk k a b ps => (-9223372036854775808 ≤ k ∧ k ≤ 9223372036854775807) ∧ a.size ≤ 140737488351232 ∧ b.size ≤ 140737488351232 ∧ okL ps
def okL : List RT → Prop | [] => True | r :: rs => r.Ok ∧ okL rs
end
theorem okL_mem : ∀ {ps : List RT}, okL ps ↔ ∀ p ∈ ps, p.Ok
  | [] => by simp [okL]
  | r :: rs => by rw [okL, okL_mem]; simp
theorem RT.ok_iff (r : RT) : r.Ok ↔ (-9223372036854775808 ≤ r.k ∧ r.k ≤ 9223372036854775807) ∧ r.a.size ≤ 140737488351232 ∧ r.b.size ≤ 140737488351232 ∧ ∀ p ∈ r.ps, p.Ok := by
  obtain ⟨k, a, b, ps⟩ := r
  rw [RT.Ok, okL_mem]
  rfl

/-- An element's cells: a rule, and the slice of its parts. -/
def rC (x : RT × Value) : List Value := [.int .i64 x.1.k, .string x.1.a, .string x.1.b, x.2]
theorem rC_length (x : RT × Value) : (rC x).length = 4 := rfl
mutual
/-- The slice of a rule's parts, as it lies. -/
def RTAt (S : Nat → Prop) (w : World) : RT → Value → Prop
  | .mk _ _ _ ps, v => ∃ l : List Value, RTsAt S w ps l ∧ Sl S w 4 v ((ps.zip l).flatMap rC)
def RTsAt (S : Nat → Prop) (w : World) : List RT → List Value → Prop
  | [], l => l = []
  | r :: rs, l => ∃ pv l', l = pv :: l' ∧ RTAt S w r pv ∧ RTsAt S w rs l'
end
theorem rtsAt_zip {S : Nat → Prop} {w : World} : ∀ {ps : List RT} {l : List Value}, RTsAt S w ps l → (ps.zip l).map (·.1) = ps ∧ ∀ x ∈ ps.zip l, RTAt S w x.1 x.2
  | [], l, h => by rw [RTsAt] at h; subst h; simp
  | r :: rs, l, h => by
    rw [RTsAt] at h
    obtain ⟨pv, l', rfl, h1, h2⟩ := h
    obtain ⟨h3, h4⟩ := rtsAt_zip h2
    refine ⟨by rw [List.zip_cons_cons, List.map_cons, h3], fun x hx => ?_⟩
    rw [List.zip_cons_cons] at hx
    rcases List.mem_cons.1 hx with rfl | hx
    · exact h1
    · exact h4 x hx
theorem rtsAt_of {S : Nat → Prop} {w : World} : ∀ {q : List (RT × Value)}, (∀ x ∈ q, RTAt S w x.1 x.2) → RTsAt S w (q.map (·.1)) (q.map (·.2))
  | [], _ => by rw [List.map_nil, List.map_nil, RTsAt]
  | x :: q, h => by
    rw [List.map_cons, List.map_cons, RTsAt]
    exact ⟨x.2, _, rfl, h x List.mem_cons_self, rtsAt_of fun y hy => h y (List.mem_cons_of_mem _ hy)⟩
theorem zip_maps {α β : Type} : ∀ (q : List (α × β)), (q.map (·.1)).zip (q.map (·.2)) = q
  | [] => rfl
  | x :: q => by rw [List.map_cons, List.map_cons, List.zip_cons_cons, zip_maps q]
theorem RTAt.iff {S : Nat → Prop} {w : World} (r : RT) (v : Value) : RTAt S w r v ↔ ∃ q : List (RT × Value), q.map (·.1) = r.ps ∧ (∀ x ∈ q, RTAt S w x.1 x.2) ∧ Sl S w 4 v (q.flatMap rC) := by
  obtain ⟨k, a, b, ps⟩ := r
  rw [RTAt]
  constructor
  · rintro ⟨l, h1, h2⟩
    exact ⟨_, (rtsAt_zip h1).1, (rtsAt_zip h1).2, h2⟩
  · rintro ⟨q, h1, h2, h3⟩
    refine ⟨q.map (·.2), ?_, ?_⟩
    · have := rtsAt_of h2
      rwa [h1] at this
    · rw [show ps = q.map (·.1) from h1.symm, zip_maps]
      exact h3
theorem RTAt.same {S : Nat → Prop} {w w' : World} {r : RT} {v : Value} (h : RTAt S w r v) (hs : Same S w w') : RTAt S w' r v := by
  induction r using RT.ind generalizing v with
  | h r ih =>
    obtain ⟨q, h1, h2, h3⟩ := (RTAt.iff r v).1 h
    exact (RTAt.iff r v).2 ⟨q, h1, fun x hx => ih x.1 (by rw [← h1]; exact List.mem_map_of_mem hx) (h2 x hx), h3.same hs⟩
theorem RTAt.mono {S S' : Nat → Prop} {w : World} {r : RT} {v : Value} (h : RTAt S w r v) (hs : ∀ b, S b → S' b) : RTAt S' w r v := by
  induction r using RT.ind generalizing v with
  | h r ih =>
    obtain ⟨q, h1, h2, h3⟩ := (RTAt.iff r v).1 h
    exact (RTAt.iff r v).2 ⟨q, h1, fun x hx => ih x.1 (by rw [← h1]; exact List.mem_map_of_mem hx) (h2 x hx), h3.mono hs⟩
theorem RTAt.up {w w' : World} {r : RT} {v : Value} (h : RTAt (· < w.heap.size) w r v) (hb : Below w.heap.size w w') : RTAt (· < w'.heap.size) w' r v :=
  (h.same (Same.below hb)).mono fun _ h => Nat.lt_of_lt_of_le h hb.size
/-- A part after another. -/
theorem RTAt.rows {S : Nat → Prop} {w : World} {r : RT} {v : Value} (h : RTAt S w r v) :
    ∃ ao c, v = .slice ao r.ps.length c ∧ r.ps.length ≤ c ∧ c ≤ 9223372036854775807 ∧ ∀ i (hi : i < r.ps.length), ∃ b off pv, ao = some ⟨b, off, none⟩ ∧ S b ∧
      w.cell? ⟨b, off + i * 4, none⟩ = some (.int .i64 r.ps[i].k) ∧ w.cell? ⟨b, off + i * 4 + 1, none⟩ = some (.string r.ps[i].a) ∧ w.cell? ⟨b, off + i * 4 + 2, none⟩ = some (.string r.ps[i].b) ∧ w.cell? ⟨b, off + i * 4 + 3, none⟩ = some pv ∧ RTAt S w r.ps[i] pv := by
  obtain ⟨q, h1, h2, h3⟩ := (RTAt.iff r v).1 h
  have hlen : q.length = r.ps.length := by rw [← h1, List.length_map]
  obtain ⟨ao, c, rfl, h4, h5, hc⟩ := Sl.rows rC_length (by decide) h3
  refine ⟨ao, c, by rw [hlen], by omega, h5, fun i hi => ?_⟩
  have hiq : i < q.length := by omega
  obtain ⟨b, off, rfl, hb, hc⟩ := hc (by omega)
  have hget : r.ps[i] = q[i].1 := by simp only [← h1, List.getElem_map]
  rw [hget]
  exact ⟨b, off, q[i].2, rfl, hb, hc i hiq 0 _ rfl, hc i hiq 1 _ rfl, hc i hiq 2 _ rfl, hc i hiq 3 _ rfl, h2 _ (List.getElem_mem hiq)⟩
/-- A rule as a value. -/
def rV (r : RT) (pv : Value) : Value := .agg #[.int .i64 r.k, .string r.a, .string r.b, pv]

/-- A type of a schema. -/
structure TyS where
  name : ByteArray
  rels : List (ByteArray × RT)
instance : Inhabited TyS := ⟨⟨ByteArray.empty, []⟩⟩
def TyS.Ok (t : TyS) : Prop := t.name.size ≤ 140737488351232 ∧ ∀ r ∈ t.rels, r.1.size ≤ 140737488351232 ∧ r.2.Ok
def relC (x : (ByteArray × RT) × Value) : List Value := [.string x.1.1, .int .i64 x.1.2.k, .string x.1.2.a, .string x.1.2.b, x.2]
theorem relC_length (x : (ByteArray × RT) × Value) : (relC x).length = 5 := rfl
def RelsAt (S : Nat → Prop) (w : World) (l : List (ByteArray × RT)) (v : Value) : Prop := ∃ q : List ((ByteArray × RT) × Value), q.map (·.1) = l ∧ (∀ x ∈ q, RTAt S w x.1.2 x.2) ∧ Sl S w 5 v (q.flatMap relC)
def tyC (x : TyS × Value) : List Value := [.string x.1.name, x.2]
theorem tyC_length (x : TyS × Value) : (tyC x).length = 2 := rfl
def TysAt (S : Nat → Prop) (w : World) (l : List TyS) (v : Value) : Prop := ∃ q : List (TyS × Value), q.map (·.1) = l ∧ (∀ x ∈ q, RelsAt S w x.1.rels x.2) ∧ Sl S w 2 v (q.flatMap tyC)
section
variable {S S' : Nat → Prop} {w w' : World} {l : List (ByteArray × RT)} {ts : List TyS} {v : Value}
theorem RelsAt.same (h : RelsAt S w l v) (hs : Same S w w') : RelsAt S w' l v := by
  obtain ⟨q, h1, h2, h3⟩ := h
  exact ⟨q, h1, fun x hx => (h2 x hx).same hs, h3.same hs⟩
theorem RelsAt.mono (h : RelsAt S w l v) (hs : ∀ b, S b → S' b) : RelsAt S' w l v := by
  obtain ⟨q, h1, h2, h3⟩ := h
  exact ⟨q, h1, fun x hx => (h2 x hx).mono hs, h3.mono hs⟩
theorem RelsAt.up (h : RelsAt (· < w.heap.size) w l v) (hb : Below w.heap.size w w') : RelsAt (· < w'.heap.size) w' l v :=
  (h.same (Same.below hb)).mono fun _ h => Nat.lt_of_lt_of_le h hb.size
theorem TysAt.same (h : TysAt S w ts v) (hs : Same S w w') : TysAt S w' ts v := by
  obtain ⟨q, h1, h2, h3⟩ := h
  exact ⟨q, h1, fun x hx => (h2 x hx).same hs, h3.same hs⟩
theorem TysAt.mono (h : TysAt S w ts v) (hs : ∀ b, S b → S' b) : TysAt S' w ts v := by
  obtain ⟨q, h1, h2, h3⟩ := h
  exact ⟨q, h1, fun x hx => (h2 x hx).mono hs, h3.mono hs⟩
theorem TysAt.up (h : TysAt (· < w.heap.size) w ts v) (hb : Below w.heap.size w w') : TysAt (· < w'.heap.size) w' ts v :=
  (h.same (Same.below hb)).mono fun _ h => Nat.lt_of_lt_of_le h hb.size
theorem RelsAt.rows (h : RelsAt S w l v) :
    ∃ ao c, v = .slice ao l.length c ∧ l.length ≤ c ∧ c ≤ 9223372036854775807 ∧ ∀ i (hi : i < l.length), ∃ b off pv, ao = some ⟨b, off, none⟩ ∧ S b ∧ w.cell? ⟨b, off + i * 5, none⟩ = some (.string l[i].1) ∧
      w.cell? ⟨b, off + i * 5 + 1, none⟩ = some (.int .i64 l[i].2.k) ∧ w.cell? ⟨b, off + i * 5 + 2, none⟩ = some (.string l[i].2.a) ∧ w.cell? ⟨b, off + i * 5 + 3, none⟩ = some (.string l[i].2.b) ∧ w.cell? ⟨b, off + i * 5 + 4, none⟩ = some pv ∧ RTAt S w l[i].2 pv := by
  obtain ⟨q, h1, h2, h3⟩ := h
  have hlen : q.length = l.length := by rw [← h1, List.length_map]
  obtain ⟨ao, c, rfl, h4, h5, hc⟩ := Sl.rows relC_length (by decide) h3
  refine ⟨ao, c, by rw [hlen], by omega, h5, fun i hi => ?_⟩
  have hiq : i < q.length := by omega
  obtain ⟨b, off, rfl, hb, hc⟩ := hc (by omega)
  have hget : l[i] = q[i].1 := by simp only [← h1, List.getElem_map]
  rw [hget]
  exact ⟨b, off, q[i].2, rfl, hb, hc i hiq 0 _ rfl, hc i hiq 1 _ rfl, hc i hiq 2 _ rfl, hc i hiq 3 _ rfl, hc i hiq 4 _ rfl, h2 _ (List.getElem_mem hiq)⟩
theorem TysAt.rows (h : TysAt S w ts v) :
    ∃ ao c, v = .slice ao ts.length c ∧ ts.length ≤ c ∧ c ≤ 9223372036854775807 ∧ ∀ i (hi : i < ts.length), ∃ b off pv, ao = some ⟨b, off, none⟩ ∧ S b ∧ w.cell? ⟨b, off + i * 2, none⟩ = some (.string ts[i].name) ∧ w.cell? ⟨b, off + i * 2 + 1, none⟩ = some pv ∧ RelsAt S w ts[i].rels pv := by
  obtain ⟨q, h1, h2, h3⟩ := h
  have hlen : q.length = ts.length := by rw [← h1, List.length_map]
  obtain ⟨ao, c, rfl, h4, h5, hc⟩ := Sl.rows tyC_length (by decide) h3
  refine ⟨ao, c, by rw [hlen], by omega, h5, fun i hi => ?_⟩
  have hiq : i < q.length := by omega
  obtain ⟨b, off, rfl, hb, hc⟩ := hc (by omega)
  have hget : ts[i] = q[i].1 := by simp only [← h1, List.getElem_map]
  rw [hget]
  exact ⟨b, off, q[i].2, rfl, hb, hc i hiq 0 _ rfl, hc i hiq 1 _ rfl, h2 _ (List.getElem_mem hiq)⟩
end

end Go.Proofs.Ytipddhcfcehcaaa
namespace Go.Proofs.Ytipddhcfcehcaaa
open Go Go.RowKit

/-- A relation of a type. -/
structure R2 where
  t : ByteArray
  r : ByteArray
deriving DecidableEq
instance : Inhabited R2 := ⟨⟨ByteArray.empty, ByteArray.empty⟩⟩
def r2V (p : R2) : Value := .agg #[.string p.t, .string p.r]
theorem ba_toList (a b : ByteArray) : a.toList = b.toList ↔ a = b := by
  rw [ByteArray.toList_eq, ByteArray.toList_eq]
  exact ⟨fun h => ByteArray.ext (by rw [← Array.toList_inj]; exact h), fun h => by rw [h]⟩
end Go.Proofs.Ytipddhcfcehcaaa
namespace Go.Proofs.Ytipddhcfcehcaaa
open Go Go.RowKit Go.Sort Go.Shelf

theorem flatK_list {α : Type} [Inhabited α] {enc : α → List Value} {k : Nat} (hk : ∀ x, (enc x).length = k) (hpos : 0 < k) (d : Array α) : (flatK enc k d).toList = d.toList.flatMap enc := by
  apply List.ext_getElem?
  intro t
  by_cases ht : t < d.size * k
  · have h1 : t / k < d.size := (Nat.div_lt_iff_lt_mul hpos).2 ht
    have h2 : t % k < k := Nat.mod_lt _ hpos
    have h3 : t = t / k * k + t % k := by rw [Nat.mul_comm]; exact (Nat.div_add_mod t k).symm
    have e1 : (flatK enc k d).toList[t]? = some (flatK enc k d)[t]! := by
      rw [getElem!_pos _ t (by simpa using ht)]
      simp [ht]
    rw [e1, get_flatK enc k d t ht]
    conv => rhs; rw [h3]
    rw [flat_get hk d.toList (t / k) (by simpa using h1) (t % k) h2, getElem!_pos d (t / k) h1, getElem!_pos _ (t % k) (by rw [hk]; exact h2), List.getElem?_eq_getElem (by rw [hk]; exact h2)]
    simp
  · rw [List.getElem?_eq_none (by simp; omega), List.getElem?_eq_none (by rw [flat_length hk]; simp; omega)]

theorem sort_own {P : Program} {ρ : Ren} (L : SlLaysF0.n6 P ρ) {α : Type} [Inhabited α] (enc : α → List Value) (k : Nat) (hk : ∀ x, (enc x).length = k) (hpos : 0 < k) (h1 : ∀ x, ∀ v ∈ enc x, v.oneCell' = true)
    (aE : ∀ w, (isAgg (ρ.t 24)).run P w = .ok true w) (zE : ∀ w, (Go.sizeOf (ρ.t 24)).run P w = .ok k w) (cf : α → α → Int) (hO : SWO (ltOf cf)) (g : Nat) (cb : Array Value)
    (eg : ∀ args w, (callFunc g args).run P w = .ok (.enter g args) w) (hcmp : ∀ (W : World) x y, Calls P g (#[.agg (enc x).toArray, .agg (enc y).toArray] ++ cb) W fun e w' => e = .returned (.int .i64 (cf x y)) ∧ Gr W w')
    {w : World} {B : Nat} {T : TypeId} {v : Value} {l : List α} (h : Own w B T k v (l.flatMap enc)) (hl : l.length < 4611686018427387904) :
    Calls P (ρ.f 6) #[v, .func (.func g) #[] cb] w fun e w' => e = .returned (.tuple #[]) ∧ ∃ l' : List α, l'.Perm l ∧ (l'.Pairwise fun a b => ltOf cf b a = false) ∧ Own w' B T k v (l'.flatMap enc) ∧ Kept (fun b => b < w.heap.size ∧ v.ownBlock ≠ some b) w w' := by
  obtain ⟨n, hlen, hrow⟩ := h
  rw [flat_length hk] at hlen
  obtain rfl : l.length = n := Nat.eq_of_mul_eq_mul_right hpos hlen
  by_cases h0 : l = []
  · subst h0
    have hv : ∃ p c, v = .slice p 0 c := by
      rcases hrow with ⟨rfl, _⟩ | ⟨b, cap, cur, rfl, _⟩
      · exact ⟨_, _, rfl⟩
      · exact ⟨_, _, rfl⟩
    have hown : Own w B T k v (([] : List α).flatMap enc) := ⟨0, by simp, hrow⟩
    obtain ⟨p, c, rfl⟩ := hv
    refine (AnyF.slices_SortFunc_none L p c _ w).mono ?_
    rintro e w' ⟨rfl, rfl⟩
    exact ⟨rfl, [], List.Perm.refl _, List.Pairwise.nil, hown, Kept.refl _ _⟩
  · have hl0 : 0 < l.length := List.length_pos_iff.2 h0
    rcases hrow with ⟨rfl, hx⟩ | ⟨b, cap, cur, rfl, hB, hb, hnc, hcm, hcs, htake⟩
    · exfalso
      omega
    · have hblt : b < w.heap.size := (Array.getElem?_eq_some_iff.1 hb).1
      have hnk : l.length * k ≤ cur.size := by rw [hcs]; exact Nat.mul_le_mul_right k hnc
      have hcur : ∀ j, j < l.length * k → cur[j]? = some (flatK enc k l.toArray)[j]! := fun j hj => by
        have e1 : (cur.toList.take (l.length * k))[j]? = cur[j]? := by rw [List.getElem?_take, if_pos hj]; simp
        rw [← e1, htake]
        have e2 := flatK_list hk hpos l.toArray
        simp only at e2
        rw [← e2, getElem!_pos _ j (by simpa using hj)]
        simp [hj]
      have hH : HoldsK enc k w b 0 l.toArray := fun j hj => by
        rw [size_flatK] at hj
        have hj' : j < l.length * k := by simpa using hj
        refine ⟨?_, frozen_of_row w b (0 + j) cur T hb⟩
        rw [cell_of_row w b (0 + j) cur T (0, 0) hb, Nat.zero_add]
        exact hcur j hj'
      have hcl : CmpLays P g cb enc k cf b 0 l.toArray.size w := fun m os dk _ x y => (hcmp _ x y).mono fun _ _ ⟨he, hg⟩ => ⟨he, hg⟩
      have hc := AnyQ.slices_SortFunc L k aE zE enc hk h1 cf hO g cb b 0 cap l.toArray w eg hcl hH hblt (by simpa using hl)
      simp only [List.size_toArray] at hc
      refine hc.mono ?_
      rintro e w' ⟨rfl, d', m, os, hp, hs, rfl⟩
      obtain ⟨hp1, _, hp2⟩ := hp
      have hp1' : d'.size = l.length := by simpa using hp1
      have hperm : d'.toList.Perm l := by
        have e1 : (d'.extract 0 l.length).toList = d'.toList := by rw [← hp1']; simp
        have e2 : (l.toArray.extract 0 l.length).toList = l := by simp
        rw [e1, e2] at hp2
        exact hp2
      refine ⟨rfl, d'.toList, hperm, ?_, ⟨d'.toList.length, ?_, .inr ⟨b, cap, putCells id 0 (flatK enc k d') cur, ?_, hB, ?_, ?_, hcm, ?_, ?_⟩⟩, ?_⟩
      · refine List.pairwise_iff_getElem.2 fun i j hi hj hij => ?_
        have hi' : i < d'.size := by simpa using hi
        have hj' : j < d'.size := by simpa using hj
        have := hs i j (Nat.zero_le _) hij (by omega)
        rwa [getElem!_pos d' j hj', getElem!_pos d' i hi'] at this
      · rw [flat_length hk]
      · simp [hp1']
      · simp only [sortWorldK, putRowK, putRow, mapBlock, grow, heap_ahead]
        rw [Array.getElem?_append_left (by simpa using hblt), Array.getElem?_modify, if_pos rfl, hb]
        rfl
      · simp [hp1', hnc]
      · simp [putCells, hcs]
      · rw [show d'.toList.length * k = (flatK enc k d').size from by simp]
        rw [← flatK_list hk hpos d']
        apply List.ext_getElem?
        intro t
        rw [List.getElem?_take]
        split
        · rename_i ht
          have ht' : t < d'.size * k := by simpa using ht
          have htc : t < cur.size := by rw [hp1'] at ht'; omega
          simp only [putCells, Array.getElem?_toList, Array.getElem?_mapIdx]
          rw [Array.getElem?_eq_getElem htc]
          simp only [Option.map_some, Nat.zero_le, true_and, Nat.zero_add, Nat.sub_zero, id]
          rw [if_pos ht, getElem!_pos _ t ht, Array.getElem?_eq_getElem ht]
        · rename_i ht
          rw [List.getElem?_eq_none (by simpa using ht)]
      · refine ⟨rfl, rfl, rfl, by simp [sortWorldK, putRowK, grow], fun c hc => ?_⟩
        have hne : c ≠ b := fun e => hc.2 (by subst e; rfl)
        simp only [sortWorldK, putRowK, putRow, mapBlock, grow, heap_ahead]
        rw [Array.getElem?_append_left (by simpa using hc.1), Array.getElem?_modify, if_neg (Ne.symm hne)]

end Go.Proofs.Ytipddhcfcehcaaa
namespace Go.Proofs.Ytipddhcfcehcaaa
open Go Go.RowKit

theorem ltS_ne {a b : ByteArray} (h : ltS a b = true) : a ≠ b := by
  rintro rfl
  rw [ltS_irr] at h
  cases h

end Go.Proofs.Ytipddhcfcehcaaa
namespace Go.Proofs.Ytipddhcfcehcaaa
open Go Go.RowKit

/-- The order of references: type, relation. -/
def ordR (a b : R2) : Int := orL [cmpS a.t b.t, cmpS a.r b.r]

/-- Is a reference less? -/
def ltR (a b : R2) : Bool := if a.t = b.t then ltS a.r b.r else ltS a.t b.t
theorem lt_ordR (a b : R2) : Go.Proofs.ltOf ordR a b = ltR a b := by
  unfold Go.Proofs.ltOf ordR ltR
  rw [Bool.eq_iff_iff, decide_eq_true_eq]
  simp only [orL, cmpS_zero]
  by_cases h1 : a.t = b.t
  · simp only [h1, if_true]
    by_cases h3 : a.r = b.r
    · simp [h3, ltS_irr]
    · simp only [h3, if_false]; exact cmpS_neg _ _
  · simp only [h1, if_false]; exact cmpS_neg _ _
theorem ltR_irr (a : R2) : ltR a a = false := by simp [ltR, ltS_irr]
theorem ltR_total {a b : R2} (h : ltR a b = false) (hne : a ≠ b) : ltR b a = true := by
  unfold ltR at *
  by_cases h1 : a.t = b.t
  · rw [if_pos h1] at h
    rw [if_pos h1.symm]
    refine ltS_total h fun h3 => hne ?_
    cases a; cases b; simp_all
  · rw [if_neg h1] at h
    rw [if_neg (Ne.symm h1)]
    exact ltS_total h h1
theorem ltR_trans {a b c : R2} (h : ltR a b = true) (k : ltR b c = true) : ltR a c = true := by
  unfold ltR at *
  by_cases h1 : a.t = b.t <;> by_cases k1 : b.t = c.t
  · rw [if_pos h1] at h
    rw [if_pos k1] at k
    rw [if_pos (h1.trans k1)]
    exact ltS_trans h k
  · rw [if_neg k1] at k
    rw [if_neg (h1 ▸ k1), h1]
    exact k
  · rw [if_neg h1] at h
    rw [if_neg (k1 ▸ h1), ← k1]
    exact h
  · rw [if_neg h1] at h
    rw [if_neg k1] at k
    have := ltS_trans h k
    rw [if_neg (ltS_ne this)]
    exact this

end Go.Proofs.Ytipddhcfcehcaaa
namespace Go.Proofs
open Go.Shelf
def Try.sortC_ren : Go.Shelf.Ren := ⟨fun | 6 => 38 | 15 => 65 | 14 => 64 | 28 => 93 | 29 => 94 | 20 => 85 | 21 => 86 | 22 => 87 | 23 => 88 | 24 => 89 | 25 => 90 | 26 => 91 | 27 => 92 | 46 => 103 | 47 => 104 | 48 => 105 | 49 => 106 | 50 => 107 | 57 => 110 | n => n, fun | 22 => 50 | 24 => 63 | 25 => 92 | 3 => 3 | 39 => 124 | 0 => 0 | 53 => 152 | 55 => 154 | 4 => 4 | 46 => 145 | 45 => 144 | 50 => 149 | 5 => 5 | 9 => 9 | 66 => 169 | 70 => 173 | 76 => 177 | 77 => 178 | n => n, fun | n => n⟩
theorem Try.sortC : Go.Proofs.SlLaysF0.n6 Try.prog Try.sortC_ren := {
  mixed := by kernel_rfl
  f6 := ⟨Try.f38.name, by decide, Try.func38.trans (congrArg some (by kernel_rfl))⟩
  f14 := ⟨Try.f64.name, by decide, Try.func64.trans (congrArg some (by kernel_rfl))⟩
  f15 := Try.func65.trans (congrArg some (by kernel_rfl))
  f20 := ⟨Try.f85.name, by decide, Try.func85.trans (congrArg some (by kernel_rfl))⟩
  f21 := ⟨Try.f86.name, by decide, Try.func86.trans (congrArg some (by kernel_rfl))⟩
  f22 := ⟨Try.f87.name, by decide, Try.func87.trans (congrArg some (by kernel_rfl))⟩
  f23 := ⟨Try.f88.name, by decide, Try.func88.trans (congrArg some (by kernel_rfl))⟩
  f24 := ⟨Try.f89.name, by decide, Try.func89.trans (congrArg some (by kernel_rfl))⟩
  f25 := ⟨Try.f90.name, by decide, Try.func90.trans (congrArg some (by kernel_rfl))⟩
  f26 := ⟨Try.f91.name, by decide, Try.func91.trans (congrArg some (by kernel_rfl))⟩
  f27 := ⟨Try.f92.name, by decide, Try.func92.trans (congrArg some (by kernel_rfl))⟩
  f28 := Try.func93.trans (congrArg some (by kernel_rfl))
  f29 := Try.func94.trans (congrArg some (by kernel_rfl))
  f46 := ⟨Try.f103.name, by decide, Try.func103.trans (congrArg some (by kernel_rfl))⟩
  f47 := Try.func104.trans (congrArg some (by kernel_rfl))
  f48 := Try.func105.trans (congrArg some (by kernel_rfl))
  f49 := ⟨Try.f106.name, by decide, Try.func106.trans (congrArg some (by kernel_rfl))⟩
  f50 := ⟨Try.f107.name, by decide, Try.func107.trans (congrArg some (by kernel_rfl))⟩
  f57 := ⟨Try.f110.name, by decide, Try.func110.trans (congrArg some (by kernel_rfl))⟩
  t0 := Try.underlying0
  a0 := Try.isAgg0
  z0 := Try.sizeOf0
  v0 := Try.zeroValue0
  t3 := Try.underlying3
  a3 := Try.isAgg3
  z3 := Try.sizeOf3
  v3 := Try.zeroValue3
  t4 := Try.underlying4
  a4 := Try.isAgg4
  z4 := Try.sizeOf4
  v4 := Try.zeroValue4
  t5 := Try.underlying5
  a5 := Try.isAgg5
  z5 := Try.sizeOf5
  v5 := Try.zeroValue5
  t9 := Try.underlying9
  a9 := Try.isAgg9
  z9 := Try.sizeOf9
  v9 := Try.zeroValue9
  t22 := Try.underlying50
  a22 := Try.isAgg50
  z22 := Try.sizeOf50
  v22 := Try.zeroValue50
  t25 := Try.underlying92
  a25 := Try.isAgg92
  z25 := Try.sizeOf92
  v25 := Try.zeroValue92
  t39 := Try.underlying124
  a39 := Try.isAgg124
  z39 := Try.sizeOf124
  v39 := Try.zeroValue124
  t45 := Try.underlying144
  a45 := Try.isAgg144
  z45 := Try.sizeOf144
  v45 := Try.zeroValue144
  t46 := Try.underlying145
  a46 := Try.isAgg145
  z46 := Try.sizeOf145
  v46 := Try.zeroValue145
  t50 := Try.underlying149
  a50 := Try.isAgg149
  z50 := Try.sizeOf149
  v50 := Try.zeroValue149
  t53 := Try.underlying152
  a53 := Try.isAgg152
  z53 := Try.sizeOf152
  v53 := Try.zeroValue152
  t55 := Try.underlying154
  a55 := Try.isAgg154
  z55 := Try.sizeOf154
  v55 := Try.zeroValue154
  t66 := Try.underlying169
  a66 := Try.isAgg169
  z66 := Try.sizeOf169
  v66 := Try.zeroValue169
  t70 := Try.underlying173
  a70 := Try.isAgg173
  z70 := Try.sizeOf173
  v70 := Try.zeroValue173
  t76 := Try.underlying177
  a76 := Try.isAgg177
  z76 := Try.sizeOf177
  v76 := Try.zeroValue177
  t77 := Try.underlying178
  a77 := Try.isAgg178
  z77 := Try.sizeOf178
  v77 := Try.zeroValue178 }
end Go.Proofs
