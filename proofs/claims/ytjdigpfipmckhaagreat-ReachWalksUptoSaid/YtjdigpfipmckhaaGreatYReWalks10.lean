/- Lemmas for the claim, no condition. -/
import Derived.Shelf.SlSortCmp.WholeK
import Derived.Shelf.SlSortCmp.NoneTotal
import Derived.DeepKeys4
import Derived.Test.YtjdigpfipmckhaaGreatYReWalks0
import Derived.Test.YtjdigpfipmckhaaGreatYReWalks9
import Derived.Test.YtjdigpfipmckhaaGreatYReWalks8
import Derived.Test.YtjdigpfipmckhaaGreatYReWalks3
import Derived.Test.YtjdigpfipmckhaaGreatYReWalks1
namespace Go.Proofs.YtjdigpfipmckhaaGreat
open Go Go.RowKit Go.Sort Go.Shelf
theorem flatK_list {α : Type} [Inhabited α] {enc : α → List Value} {k : Nat} (hk : ∀ x, (enc x).length = k) (hpos : 0 < k) (d : Array α) : (flatK enc k d).toList = d.toList.flatMap enc := by
  apply List.ext_getElem?
  intro t
  by_cases ht : t < d.size * k
  · have h1 : t / k < d.size := (Nat.div_lt_iff_lt_mul hpos).2 ht
    have h2 : t % k < k := Nat.mod_lt _ hpos
    have h3 : t = t / k * k + t % k := by rw [Nat.mul_comm]; exact (Nat.div_add_mod t k).symm
    have e1 : (flatK enc k d).toList[t]? = some (flatK enc k d)[t]! := by
      rw [getElem!_pos _ t (by simpa using ht)]
      simp [ht]
    rw [e1, get_flatK enc k d t ht]
    conv => rhs; rw [h3]
    rw [flat_get hk d.toList (t / k) (by simpa using h1) (t % k) h2, getElem!_pos d (t / k) h1, getElem!_pos _ (t % k) (by rw [hk]; exact h2), List.getElem?_eq_getElem (by rw [hk]; exact h2)]
    simp
  · rw [List.getElem?_eq_none (by simp; omega), List.getElem?_eq_none (by rw [flat_length hk]; simp; omega)]
theorem sort_own {P : Program} {ρ : Ren} (L : SlLaysF0.n6 P ρ) {α : Type} [Inhabited α] (enc : α → List Value) (k : Nat) (hk : ∀ x, (enc x).length = k) (hpos : 0 < k) (h1 : ∀ x, ∀ v ∈ enc x, v.oneCell' = true)
    (aE : ∀ w, (isAgg (ρ.t 24)).run P w = .ok true w) (zE : ∀ w, (Go.sizeOf (ρ.t 24)).run P w = .ok k w) (cf : α → α → Int) (hO : SWO (ltOf cf)) (g : Nat) (cb : Array Value)
    (eg : ∀ args w, (callFunc g args).run P w = .ok (.enter g args) w) (hcmp : ∀ (W : World) x y, Calls P g (#[.agg (enc x).toArray, .agg (enc y).toArray] ++ cb) W fun e w' => e = .returned (.int .i64 (cf x y)) ∧ Gr W w')
    {w : World} {B : Nat} {T : TypeId} {v : Value} {l : List α} (h : Own w B T k v (l.flatMap enc)) (hl : l.length < 4611686018427387904) :
    Calls P (ρ.f 6) #[v, .func (.func g) #[] cb] w fun e w' => e = .returned (.tuple #[]) ∧ ∃ l' : List α, l'.Perm l ∧ (l'.Pairwise fun a b => ltOf cf b a = false) ∧ Own w' B T k v (l'.flatMap enc) ∧ Kept (fun b => b < w.heap.size ∧ v.ownBlock ≠ some b) w w' := by
  obtain ⟨n, hlen, hrow⟩ := h
  rw [flat_length hk] at hlen
  obtain rfl : l.length = n := Nat.eq_of_mul_eq_mul_right hpos hlen
  by_cases h0 : l = []
  · subst h0
    have hv : ∃ p c, v = .slice p 0 c := by
      rcases hrow with ⟨rfl, _⟩ | ⟨b, cap, cur, rfl, _⟩
      · exact ⟨_, _, rfl⟩
      · exact ⟨_, _, rfl⟩
    have hown : Own w B T k v (([] : List α).flatMap enc) := ⟨0, by simp, hrow⟩
    obtain ⟨p, c, rfl⟩ := hv
    refine (AnyF.slices_SortFunc_none L p c _ w).mono ?_
    rintro e w' ⟨rfl, rfl⟩
    exact ⟨rfl, [], List.Perm.refl _, List.Pairwise.nil, hown, Kept.refl _ _⟩
  · have hl0 : 0 < l.length := List.length_pos_iff.2 h0
    rcases hrow with ⟨rfl, hx⟩ | ⟨b, cap, cur, rfl, hB, hb, hnc, hcm, hcs, htake⟩
    · exfalso
      omega
    · have hblt : b < w.heap.size := (Array.getElem?_eq_some_iff.1 hb).1
      have hnk : l.length * k ≤ cur.size := by rw [hcs]; exact Nat.mul_le_mul_right k hnc
      have hcur : ∀ j, j < l.length * k → cur[j]? = some (flatK enc k l.toArray)[j]! := fun j hj => by
        have e1 : (cur.toList.take (l.length * k))[j]? = cur[j]? := by rw [List.getElem?_take, if_pos hj]; simp
        rw [← e1, htake]
        have e2 := flatK_list hk hpos l.toArray
        simp only at e2
        rw [← e2, getElem!_pos _ j (by simpa using hj)]
        simp [hj]
      have hH : HoldsK enc k w b 0 l.toArray := fun j hj => by
        rw [size_flatK] at hj
        have hj' : j < l.length * k := by simpa using hj
        refine ⟨?_, frozen_of_row w b (0 + j) cur T hb⟩
        rw [cell_of_row w b (0 + j) cur T (0, 0) hb, Nat.zero_add]
        exact hcur j hj'
      have hcl : CmpLays P g cb enc k cf b 0 l.toArray.size w := fun m os dk _ x y => (hcmp _ x y).mono fun _ _ ⟨he, hg⟩ => ⟨he, hg⟩
      have hc := AnyQ.slices_SortFunc L k aE zE enc hk h1 cf hO g cb b 0 cap l.toArray w eg hcl hH hblt (by simpa using hl)
      simp only [List.size_toArray] at hc
      refine hc.mono ?_
      rintro e w' ⟨rfl, d', m, os, hp, hs, rfl⟩
      obtain ⟨hp1, _, hp2⟩ := hp
      have hp1' : d'.size = l.length := by simpa using hp1
      have hperm : d'.toList.Perm l := by
        have e1 : (d'.extract 0 l.length).toList = d'.toList := by rw [← hp1']; simp
        have e2 : (l.toArray.extract 0 l.length).toList = l := by simp
        rw [e1, e2] at hp2
        exact hp2
      refine ⟨rfl, d'.toList, hperm, ?_, ⟨d'.toList.length, ?_, .inr ⟨b, cap, putCells id 0 (flatK enc k d') cur, ?_, hB, ?_, ?_, hcm, ?_, ?_⟩⟩, ?_⟩
      · refine List.pairwise_iff_getElem.2 fun i j hi hj hij => ?_
        have hi' : i < d'.size := by simpa using hi
        have hj' : j < d'.size := by simpa using hj
        have := hs i j (Nat.zero_le _) hij (by omega)
        rwa [getElem!_pos d' j hj', getElem!_pos d' i hi'] at this
      · rw [flat_length hk]
      · simp [hp1']
      · simp only [sortWorldK, putRowK, putRow, mapBlock, grow, heap_ahead]
        rw [Array.getElem?_append_left (by simpa using hblt), Array.getElem?_modify, if_pos rfl, hb]
        rfl
      · simp [hp1', hnc]
      · simp [putCells, hcs]
      · rw [show d'.toList.length * k = (flatK enc k d').size from by simp]
        rw [← flatK_list hk hpos d']
        apply List.ext_getElem?
        intro t
        rw [List.getElem?_take]
        split
        · rename_i ht
          have ht' : t < d'.size * k := by simpa using ht
          have htc : t < cur.size := by rw [hp1'] at ht'; omega
          simp only [putCells, Array.getElem?_toList, Array.getElem?_mapIdx]
          rw [Array.getElem?_eq_getElem htc]
          simp only [Option.map_some, Nat.zero_le, true_and, Nat.zero_add, Nat.sub_zero, id]
          rw [if_pos ht, getElem!_pos _ t ht, Array.getElem?_eq_getElem ht]
        · rename_i ht
          rw [List.getElem?_eq_none (by simpa using ht)]
      · refine ⟨rfl, rfl, rfl, by simp [sortWorldK, putRowK, grow], fun c hc => ?_⟩
        have hne : c ≠ b := fun e => hc.2 (by subst e; rfl)
        simp only [sortWorldK, putRowK, putRow, mapBlock, grow, heap_ahead]
        rw [Array.getElem?_append_left (by simpa using hc.1), Array.getElem?_modify, if_neg (Ne.symm hne)]
end Go.Proofs.YtjdigpfipmckhaaGreat
namespace Go.Proofs.YtjdigpfipmckhaaGreat
open Go Go.RowKit
theorem ltS_ne {a b : ByteArray} (h : ltS a b = true) : a ≠ b := by
  rintro rfl
  rw [ltS_irr] at h
  cases h
end Go.Proofs.YtjdigpfipmckhaaGreat
namespace Go.Proofs.YtjdigpfipmckhaaGreat
open Go Go.RowKit
def pC (p : P3) : List Value := [.string p.t, .string p.i, .string p.r]
def pV (p : P3) : Value := .agg #[.string p.t, .string p.i, .string p.r]
theorem pC_length (p : P3) : (pC p).length = 3 := rfl
theorem pC_one (p : P3) : ∀ u ∈ pC p, u.oneCell' = true := by
  intro u hu
  simp only [pC, List.mem_cons, List.not_mem_nil, or_false] at hu
  rcases hu with rfl | rfl | rfl <;> rfl
def pcs (l : List P3) : List Value := l.flatMap pC
def ordP (a b : P3) : Int := orL [cmpS a.t b.t, cmpS a.i b.i, cmpS a.r b.r]
def ltP (a b : P3) : Bool := if a.t = b.t then (if a.i = b.i then ltS a.r b.r else ltS a.i b.i) else ltS a.t b.t
theorem lt_ordP (a b : P3) : Go.Proofs.ltOf ordP a b = ltP a b := by
  unfold Go.Proofs.ltOf ordP ltP
  rw [Bool.eq_iff_iff, decide_eq_true_eq]
  simp only [orL, cmpS_zero]
  by_cases h1 : a.t = b.t
  · simp only [h1, if_true]
    by_cases h2 : a.i = b.i
    · simp only [h2, if_true]
      by_cases h3 : a.r = b.r
      · simp [h3, ltS_irr]
      · simp only [h3, if_false]; exact cmpS_neg _ _
    · simp only [h2, if_false]; exact cmpS_neg _ _
  · simp only [h1, if_false]; exact cmpS_neg _ _
theorem ltP_irr (a : P3) : ltP a a = false := by simp [ltP, ltS_irr]
theorem ltP_total {a b : P3} (h : ltP a b = false) (hne : a ≠ b) : ltP b a = true := by
  unfold ltP at *
  by_cases h1 : a.t = b.t
  · rw [if_pos h1] at h
    rw [if_pos h1.symm]
    by_cases h2 : a.i = b.i
    · rw [if_pos h2] at h
      rw [if_pos h2.symm]
      refine ltS_total h fun h3 => hne ?_
      cases a; cases b; simp_all
    · rw [if_neg h2] at h
      rw [if_neg (Ne.symm h2)]
      exact ltS_total h h2
  · rw [if_neg h1] at h
    rw [if_neg (Ne.symm h1)]
    exact ltS_total h h1
theorem ltP_trans {a b c : P3} (h : ltP a b = true) (k : ltP b c = true) : ltP a c = true := by
  unfold ltP at *
  by_cases h1 : a.t = b.t <;> by_cases k1 : b.t = c.t
  · rw [if_pos h1] at h
    rw [if_pos k1] at k
    rw [if_pos (h1.trans k1)]
    by_cases h2 : a.i = b.i <;> by_cases k2 : b.i = c.i
    · rw [if_pos h2] at h
      rw [if_pos k2] at k
      rw [if_pos (h2.trans k2)]
      exact ltS_trans h k
    · rw [if_neg k2] at k
      rw [if_neg (h2 ▸ k2), h2]
      exact k
    · rw [if_neg h2] at h
      rw [if_neg (k2 ▸ h2), ← k2]
      exact h
    · rw [if_neg h2] at h
      rw [if_neg k2] at k
      have := ltS_trans h k
      rw [if_neg (ltS_ne this)]
      exact this
  · rw [if_neg k1] at k
    rw [if_neg (h1 ▸ k1), h1]
    exact k
  · rw [if_neg h1] at h
    rw [if_neg (k1 ▸ h1), ← k1]
    exact h
  · rw [if_neg h1] at h
    rw [if_neg k1] at k
    have := ltS_trans h k
    rw [if_neg (ltS_ne this)]
    exact this
theorem swoP : Go.Sort.SWO (Go.Proofs.ltOf ordP) where
  irrefl x := by rw [lt_ordP]; exact ltP_irr x
  trans x y z h k := by rw [lt_ordP] at *; exact ltP_trans h k
  ntrans x y z h k := by
    rw [lt_ordP] at *
    cases hxz : ltP x z with
    | false => rfl
    | true =>
      by_cases e1 : x = y
      · subst e1; rw [hxz] at k; cases k
      · have h1 := ltP_total h e1
        have h2 := ltP_trans h1 hxz
        rw [h2] at k
        cases k
def UpP (l : List P3) : Prop := l.Pairwise fun a b => ltP a b = true
theorem up_sorted {l : List P3} (hs : l.Pairwise fun a b => Go.Proofs.ltOf ordP b a = false) (hn : l.Nodup) : UpP l := by
  refine List.pairwise_iff_getElem.2 fun i j hi hj hij => ?_
  have h1 := List.pairwise_iff_getElem.1 hs i j hi hj hij
  have h2 := List.pairwise_iff_getElem.1 hn i j hi hj hij
  rw [lt_ordP] at h1
  exact ltP_total h1 (Ne.symm h2)
end Go.Proofs.YtjdigpfipmckhaaGreat
namespace Go.Proofs.YtjdigpfipmckhaaGreat
open Go Go.RowKit
abbrev FV3 := Value × Value × Value
def fC (x : FT × FV3) : List Value := [.int .i64 x.1.k, x.2.1, x.2.2.1, x.2.2.2]
theorem fC_length (x : FT × FV3) : (fC x).length = 4 := rfl
mutual
def FTAt (S : Nat → Prop) (w : World) : FT → FV3 → Prop
  | .mk _ subs refs ps, v => Sl S w 3 v.1 (pcs subs) ∧ Sl S w 1 v.2.1 (ic refs) ∧ ∃ l : List FV3, FTsAt S w ps l ∧ Sl S w 4 v.2.2 ((ps.zip l).flatMap fC)
def FTsAt (S : Nat → Prop) (w : World) : List FT → List FV3 → Prop
  | [], l => l = []
  | r :: rs, l => ∃ pv l', l = pv :: l' ∧ FTAt S w r pv ∧ FTsAt S w rs l'
end
theorem ftsAt_zip {S : Nat → Prop} {w : World} : ∀ {ps : List FT} {l : List FV3}, FTsAt S w ps l → (ps.zip l).map (·.1) = ps ∧ ∀ x ∈ ps.zip l, FTAt S w x.1 x.2
  | [], l, h => by rw [FTsAt] at h; subst h; simp
  | r :: rs, l, h => by
    rw [FTsAt] at h
    obtain ⟨pv, l', rfl, h1, h2⟩ := h
    obtain ⟨h3, h4⟩ := ftsAt_zip h2
    refine ⟨by rw [List.zip_cons_cons, List.map_cons, h3], fun x hx => ?_⟩
    rw [List.zip_cons_cons] at hx
    rcases List.mem_cons.1 hx with rfl | hx
    · exact h1
    · exact h4 x hx
theorem ftsAt_of {S : Nat → Prop} {w : World} : ∀ {q : List (FT × FV3)}, (∀ x ∈ q, FTAt S w x.1 x.2) → FTsAt S w (q.map (·.1)) (q.map (·.2))
  | [], _ => by rw [List.map_nil, List.map_nil, FTsAt]
  | x :: q, h => by
    rw [List.map_cons, List.map_cons, FTsAt]
    exact ⟨x.2, _, rfl, h x List.mem_cons_self, ftsAt_of fun y hy => h y (List.mem_cons_of_mem _ hy)⟩
theorem FTAt.iff {S : Nat → Prop} {w : World} (r : FT) (v : FV3) : FTAt S w r v ↔ Sl S w 3 v.1 (pcs r.subs) ∧ Sl S w 1 v.2.1 (ic r.refs) ∧ ∃ q : List (FT × FV3), q.map (·.1) = r.ps ∧ (∀ x ∈ q, FTAt S w x.1 x.2) ∧ Sl S w 4 v.2.2 (q.flatMap fC) := by
  obtain ⟨k, subs, refs, ps⟩ := r
  rw [FTAt]
  constructor
  · rintro ⟨h1, h2, l, h3, h4⟩
    exact ⟨h1, h2, _, (ftsAt_zip h3).1, (ftsAt_zip h3).2, h4⟩
  · rintro ⟨h1, h2, q, h3, h4, h5⟩
    refine ⟨h1, h2, q.map (·.2), ?_, ?_⟩
    · have := ftsAt_of h4
      rwa [h3] at this
    · rw [show ps = q.map (·.1) from h3.symm, zip_maps]
      exact h5
theorem FTAt.same {S : Nat → Prop} {w w' : World} {r : FT} {v : FV3} (h : FTAt S w r v) (hs : Same S w w') : FTAt S w' r v := by
  induction r using FT.ind generalizing v with
  | h r ih =>
    obtain ⟨h1, h2, q, h3, h4, h5⟩ := (FTAt.iff r v).1 h
    exact (FTAt.iff r v).2 ⟨h1.same hs, h2.same hs, q, h3, fun x hx => ih x.1 (by rw [← h3]; exact List.mem_map_of_mem hx) (h4 x hx), h5.same hs⟩
theorem FTAt.mono {S S' : Nat → Prop} {w : World} {r : FT} {v : FV3} (h : FTAt S w r v) (hs : ∀ b, S b → S' b) : FTAt S' w r v := by
  induction r using FT.ind generalizing v with
  | h r ih =>
    obtain ⟨h1, h2, q, h3, h4, h5⟩ := (FTAt.iff r v).1 h
    exact (FTAt.iff r v).2 ⟨h1.mono hs, h2.mono hs, q, h3, fun x hx => ih x.1 (by rw [← h3]; exact List.mem_map_of_mem hx) (h4 x hx), h5.mono hs⟩
theorem FTAt.up {w w' : World} {r : FT} {v : FV3} (h : FTAt (· < w.heap.size) w r v) (hb : Below w.heap.size w w') : FTAt (· < w'.heap.size) w' r v :=
  (h.same (Same.below hb)).mono fun _ h => Nat.lt_of_lt_of_le h hb.size
theorem FTAt.rows {S : Nat → Prop} {w : World} {r : FT} {v : FV3} (h : FTAt S w r v) :
    ∃ ao c, v.2.2 = .slice ao r.ps.length c ∧ r.ps.length ≤ c ∧ c ≤ 9223372036854775807 ∧ ∀ i (hi : i < r.ps.length), ∃ b off pv, ao = some ⟨b, off, none⟩ ∧ S b ∧
      w.cell? ⟨b, off + i * 4, none⟩ = some (.int .i64 r.ps[i].k) ∧ w.cell? ⟨b, off + i * 4 + 1, none⟩ = some pv.1 ∧ w.cell? ⟨b, off + i * 4 + 2, none⟩ = some pv.2.1 ∧ w.cell? ⟨b, off + i * 4 + 3, none⟩ = some pv.2.2 ∧ FTAt S w r.ps[i] pv := by
  obtain ⟨-, -, q, h1, h2, h3⟩ := (FTAt.iff r v).1 h
  have hlen : q.length = r.ps.length := by rw [← h1, List.length_map]
  obtain ⟨ao, c, e, h4, h5, hc⟩ := Sl.rows fC_length (by decide) h3
  refine ⟨ao, c, by rw [e, hlen], by omega, h5, fun i hi => ?_⟩
  have hiq : i < q.length := by omega
  obtain ⟨b, off, rfl, hb, hc⟩ := hc (by omega)
  have hget : r.ps[i] = q[i].1 := by simp only [← h1, List.getElem_map]
  rw [hget]
  exact ⟨b, off, q[i].2, rfl, hb, hc i hiq 0 _ rfl, hc i hiq 1 _ rfl, hc i hiq 2 _ rfl, hc i hiq 3 _ rfl, h2 _ (List.getElem_mem hiq)⟩
def fV (r : FT) (v : FV3) : Value := .agg #[.int .i64 r.k, v.1, v.2.1, v.2.2]
end Go.Proofs.YtjdigpfipmckhaaGreat
namespace Go.Proofs.YtjdigpfipmckhaaGreat
open Go Go.RowKit Go.Maps
abbrev RwV (ι : Type) := List ι × Value
def rwV {ι : Type} (x : RwV ι) : Value := x.2
def optR {ι : Type} (l : List ι) : Option (List ι) := if l.isEmpty then none else some l
structure Elm (ι : Type) where
  e : TypeId
  sz : Nat
  enc : ι → List Value
  len : ∀ x, (enc x).length = sz
  pos : 0 < sz
section
variable {κ ι : Type}
structure MRows (E : Elm ι) (w : World) (B : Nat) (lw : List (κ × RwV ι)) : Prop where
  rows : ∀ x ∈ lw, x.2.1 ≠ [] ∧ Own w B E.e E.sz x.2.2 (x.2.1.flatMap E.enc)
  apart : ∀ x ∈ lw, ∀ y ∈ lw, x.1 ≠ y.1 → x.2.2.ownBlock ≠ y.2.2.ownBlock
theorem flat_len (E : Elm ι) : ∀ l : List ι, (l.flatMap E.enc).length = l.length * E.sz
  | [] => by simp
  | x :: l => by rw [List.flatMap_cons, List.length_append, E.len, flat_len E l, List.length_cons, Nat.add_mul]; omega
theorem own_someE {w : World} {B : Nat} {E : Elm ι} {v : Value} {l : List ι} (h : Own w B E.e E.sz v (l.flatMap E.enc)) (hl : l ≠ []) : ∃ g, v.ownBlock = some g := by
  obtain ⟨n, h⟩ := h
  rcases h.2 with ⟨rfl, rfl⟩ | ⟨g', cap, cur, rfl, hbg, hg', r⟩
  · have := h.1
    rw [flat_len, Nat.zero_mul] at this
    rcases Nat.mul_eq_zero.1 this with h0 | h0
    · exact absurd (List.eq_nil_of_length_eq_zero h0) hl
    · have := E.pos; omega
  · exact ⟨g', rfl⟩
theorem MRows.keep {E : Elm ι} {w w' : World} {B : Nat} {lw : List (κ × RwV ι)} (h : MRows E w B lw) (hs : ∀ x, B ≤ x → x < w.heap.size → (∃ cs, w.heap[x]? = some (.cells cs E.e (0, 0))) → w'.heap[x]? = w.heap[x]?) : MRows E w' B lw :=
  ⟨fun x hx => ⟨(h.rows x hx).1, (h.rows x hx).2.keepB fun g hg => by
    have ho := (h.rows x hx).2
    have hb := ho.block g hg
    exact hs g hb.1 hb.2 (by
      obtain ⟨n, ho⟩ := ho
      rcases ho.2 with ⟨h0, _⟩ | ⟨g', cap, cur, h0, hbg, hg', r⟩
      · rw [h0] at hg; cases hg
      · rw [h0] at hg
        injection hg with hg
        subst hg
        exact ⟨_, hg'⟩)⟩, h.apart⟩
variable [DecidableEq κ]
def MR (P : Program) (k : TypeId) (kv : κ → Value) (E : Elm ι) (w : World) (B b : Nat) (f : κ → List ι) : Prop :=
  ∃ lw : List (κ × RwV ι), Mp P k kv rwV w b lw ∧ MRows E w B lw ∧ ∀ n, (lookA lw n).map (·.1) = optR (f n)
variable {P : Program} {k : TypeId} {kv : κ → Value} {E : Elm ι} {w w' : World} {B b : Nat} {f : κ → List ι}
theorem MR.made (w : World) (B : Nat) : MR P k kv E (w.alloc (.map #[] 0)) B w.heap.size (fun _ : κ => ([] : List ι)) :=
  ⟨[], Mp.made w, ⟨(fun x hx => by cases hx), fun x hx => by cases hx⟩, fun n => rfl⟩
theorem MR.lt (h : MR P k kv E w B b f) : b < w.heap.size := by
  obtain ⟨lw, h1, _⟩ := h
  exact h1.lt
theorem MR.notCells (h : MR P k kv E w B b f) : ∀ cs t fr, w.heap[b]? ≠ some (.cells cs t fr) := by
  obtain ⟨lw, h1, _⟩ := h
  exact h1.notCells
theorem MR.keep (h : MR P k kv E w B b f) (hb : w'.heap[b]? = w.heap[b]?) (hs : ∀ x, B ≤ x → x < w.heap.size → (∃ cs, w.heap[x]? = some (.cells cs E.e (0, 0))) → w'.heap[x]? = w.heap[x]?) : MR P k kv E w' B b f := by
  obtain ⟨lw, h1, h2, h3⟩ := h
  exact ⟨lw, h1.same hb, h2.keep hs, h3⟩
theorem MR.up (h : MR P k kv E w B b f) (hb : Below w.heap.size w w') : MR P k kv E w' B b f := h.keep (hb.block _ h.lt) fun x _ hx _ => hb.block x hx
theorem MR.turned (h : MR P k kv E w B b f) {c : Nat} (ht : Turned w w' c) (hb : b ≠ c) (hc : ∀ cs t fr, w.heap[c]? ≠ some (.cells cs t fr)) : MR P k kv E w' B b f :=
  h.keep (ht.kept.block _ hb) fun x _ _ hx => ht.kept.block x fun e => by
    obtain ⟨cs, hx⟩ := hx
    exact hc _ _ _ (e ▸ hx)
theorem MR.congr (h : MR P k kv E w B b f) {g : κ → List ι} (e : ∀ n, f n = g n) : MR P k kv E w B b g := by
  have : f = g := funext e
  rw [← this]
  exact h
theorem MR.look (h : MR P k kv E w B b f) (K : Keyed P k) (inj : ∀ a b, kv a = kv b → a = b) {t e : TypeId} (ht : P.underlying t = some (.map k e)) (hz : (zeroValue e).run P w = .ok (.slice none 0 0) w) {n : κ} (hn : ∃ q, keyOf P k (kv n) = some q) :
    ∃ v, (Instr.lookup t (.map (some b)) (kv n) false).run P w = .ok v w ∧ Own w B E.e E.sz v ((f n).flatMap E.enc) ∧ ∃ lw : List (κ × RwV ι), Mp P k kv rwV w b lw ∧ MRows E w B lw ∧ (∀ n, (lookA lw n).map (·.1) = optR (f n)) ∧ (lookA lw n = some (f n, v) ∨ (lookA lw n = none ∧ f n = [] ∧ v = .slice none 0 0)) := by
  obtain ⟨lw, h1, h2, h3⟩ := h
  have hl := h3 n
  have hrun := h1.look K inj ht hz false hn
  cases hlk : lookA lw n with
  | none =>
    rw [hlk] at hl hrun
    have hw : f n = [] := by
      unfold optR at hl
      split at hl
      · next h => exact List.isEmpty_iff.1 h
      · cases hl
    exact ⟨.slice none 0 0, hrun, by rw [hw]; exact Own.nil _ _ _ _, lw, h1, h2, h3, .inr ⟨hlk, hw, rfl⟩⟩
  | some x =>
    rw [hlk] at hl hrun
    have hw : x.1 = f n := by
      unfold optR at hl
      split at hl
      · cases hl
      · injection hl
    have hm := h2.rows _ (look_mem hlk)
    refine ⟨x.2, hrun, by rw [← hw]; exact hm.2, lw, h1, h2, h3, .inl ?_⟩
    rw [hlk, ← hw]
end
end Go.Proofs.YtjdigpfipmckhaaGreat
namespace Go.Proofs.YtjdigpfipmckhaaGreat
open Go Go.RowKit Go.Maps
theorem pointK : Keyed Tryz.prog 30 := Keyed.of_law (deep_law_laid laidOut (m := 3) (by decide) (of_decide_eq_true (by kernel_rfl)) (by kernel_rfl) (by kernel_rfl))
theorem subK : Keyed Tryz.prog 63 := Keyed.of_law (deep_law_laid laidOut (m := 3) (by decide) (of_decide_eq_true (by kernel_rfl)) (by kernel_rfl) (by kernel_rfl))
theorem pV_inj (a b : P3) (h : pV a = pV b) : a = b := by
  obtain ⟨a1, a2, a3⟩ := a
  obtain ⟨b1, b2, b3⟩ := b
  simpa [pV] using h
theorem point_lits (d : Nat) (p : P3) (h : p.Ok) : Tryz.prog.keyLits (d + 1 + 1 + 1) 30 [.string p.t, .string p.i, .string p.r] = some [.string p.t.data.toList, .string p.i.data.toList, .string p.r.data.toList] := by
  unfold Program.keyLits
  rw [Tryz.underlying30]
  have e1 := obj_lits d p.t p.i h.1 h.2.1
  have e2 := str_lits (d + 1) p.r h.2.2
  have e3 : Tryz.prog.cellsOf 30 = 3 := by kernel_rfl
  have e4 : Tryz.prog.cellsOf 9 = 1 := by kernel_rfl
  have e5 : Tryz.prog.cellsOf 28 = 2 := by kernel_rfl
  simp [e1, e2, e3, e4, e5]
theorem point_key (p : P3) (h : p.Ok) : ∃ q, keyOf Tryz.prog 30 (pV p) = some q := by
  obtain ⟨d, hd⟩ := types_many
  have e := point_lits (d + 1) p h
  have e2 : (Tryz.prog.keyType 30 && (pV p).formed Tryz.prog 30) = true := by kernel_rfl
  have hs : Tryz.prog.types.size + 1 = d + 1 + 1 + 1 + 1 := by omega
  unfold keyOf
  rw [Tryz.underlying30]
  dsimp only
  rw [if_pos e2, hs]
  rw [show (pV p).cells.toList = [.string p.t, .string p.i, .string p.r] from rfl, e]
  exact ⟨_, rfl⟩
theorem sub_lits (d : Nat) (p : P3) (h : p.Ok) : Tryz.prog.keyLits (d + 1 + 1 + 1) 63 [.string p.t, .string p.i, .string p.r] = some [.string p.t.data.toList, .string p.i.data.toList, .string p.r.data.toList] := by
  unfold Program.keyLits
  rw [Tryz.underlying63]
  have e1 := obj_lits d p.t p.i h.1 h.2.1
  have e2 := str_lits (d + 1) p.r h.2.2
  have e3 : Tryz.prog.cellsOf 63 = 3 := by kernel_rfl
  have e4 : Tryz.prog.cellsOf 9 = 1 := by kernel_rfl
  have e5 : Tryz.prog.cellsOf 28 = 2 := by kernel_rfl
  simp [e1, e2, e3, e4, e5]
theorem sub_key (p : P3) (h : p.Ok) : ∃ q, keyOf Tryz.prog 63 (pV p) = some q := by
  obtain ⟨d, hd⟩ := types_many
  have e := sub_lits (d + 1) p h
  have e2 : (Tryz.prog.keyType 63 && (pV p).formed Tryz.prog 63) = true := by kernel_rfl
  have hs : Tryz.prog.types.size + 1 = d + 1 + 1 + 1 + 1 := by omega
  unfold keyOf
  rw [Tryz.underlying63]
  dsimp only
  rw [if_pos e2, hs]
  rw [show (pV p).cells.toList = [.string p.t, .string p.i, .string p.r] from rfl, e]
  exact ⟨_, rfl⟩
end Go.Proofs.YtjdigpfipmckhaaGreat
namespace Go.Proofs.YtjdigpfipmckhaaGreat
open Go Go.RowKit Go.Maps
def NoPt (w : World) (b : Nat) : Prop := ∀ cs, w.heap[b]? ≠ some (.cells cs 30 (0, 0))
def FS (lo : Nat) (w : World) (b : Nat) : Prop := lo ≤ b ∧ b < w.heap.size ∧ NoPt w b
abbrev PKept (M : Nat → Prop) (B : Nat) (w w' : World) : Prop := QKept 30 M B w w'
section
variable {w w' w'' : World} {M : Nat → Prop} {B lo : Nat}
theorem FS.same (h : PKept M B w w') (hM : ∀ x, M x → x < lo) : Same (FS lo w) w w' := fun b hb => h.block b (.inr ⟨fun hm => by have := hM b hm; have := hb.1; omega, hb.2.1, hb.2.2⟩)
theorem FS.keep (h : PKept M B w w') (hM : ∀ x, M x → x < lo) {b : Nat} (hb : FS lo w b) : FS lo w' b :=
  ⟨hb.1, Nat.lt_of_lt_of_le hb.2.1 h.size, fun cs => by rw [FS.same h hM b hb]; exact hb.2.2 cs⟩
theorem FS.mono {lo' : Nat} (h : lo ≤ lo') {b : Nat} (hb : FS lo' w b) : FS lo w b := ⟨Nat.le_trans h hb.1, hb.2⟩
theorem FS.ext (h : Ext w w') {b : Nat} (hb : FS lo w b) : FS lo w' b := ⟨hb.1, Nat.lt_of_lt_of_le hb.2.1 h.size, fun cs => by rw [h.block b hb.2.1]; exact hb.2.2 cs⟩
theorem Own.fs {e : TypeId} {sz : Nat} {v : Value} {xs : List Value} (h : Own w lo e sz v xs) (he : e ≠ 30) : Sl (FS lo w) w sz v xs := by
  obtain ⟨n, ho⟩ := h
  refine ownsRow_sl ho _ fun g hg => ⟨(ho.lt g hg).1, (ho.lt g hg).2, fun cs hc => ?_⟩
  obtain ⟨cur, h2⟩ := (show Own w lo e sz v xs from ⟨n, ho⟩).typed hg
  rw [hc] at h2
  injection h2 with h2
  injection h2 with _ h2 _
  exact he h2.symm
end
structure FRow (lo : Nat) (w : World) (q : List (FT × FV3)) (pv : Value) : Prop where
  row : Own w lo 90 4 pv (q.flatMap fC)
  parts : ∀ x ∈ q, FTAt (fun b => FS lo w b ∧ pv.ownBlock ≠ some b) w x.1 x.2
section
variable {w w' w1 w3 : World} {M : Nat → Prop} {B lo n0 : Nat} {q : List (FT × FV3)} {pv v' : Value} {x : FT × FV3}
theorem FRow.nil (lo : Nat) (w : World) : FRow lo w [] (.slice none 0 0) := ⟨Own.nil _ _ _ _, fun x hx => by cases hx⟩
theorem FRow.keep (h : FRow lo w q pv) (hk : PKept M B w w') (hM : ∀ x, M x → x < lo) : FRow lo w' q pv :=
  ⟨h.row.keepOwn fun g hg => FS.same hk hM g ⟨(h.row.block g hg).1, (h.row.block g hg).2, fun cs hc => by
      obtain ⟨cur, h2⟩ := h.row.typed hg
      rw [hc] at h2
      injection h2 with h2
      injection h2 with _ h2 _
      exact absurd h2 (by decide)⟩,
    fun x hx => ((h.parts x hx).same fun b hb => FS.same hk hM b hb.1).mono fun b hb => ⟨FS.keep hk hM hb.1, hb.2⟩⟩
theorem FRow.ext (h : FRow lo w q pv) (hx : Ext w w') : FRow lo w' q pv :=
  ⟨h.row.below hx, fun x hm => ((h.parts x hm).same fun b hb => hx.block b hb.1.2.1).mono fun b hb => ⟨hb.1.ext hx, hb.2⟩⟩
theorem FRow.above (h : FRow lo w q pv) (hs : ∀ b, lo ≤ b → b < w.heap.size → w'.heap[b]? = w.heap[b]?) (hz : w.heap.size ≤ w'.heap.size) : FRow lo w' q pv :=
  ⟨h.row.keepOwn fun g hg => hs g (h.row.block g hg).1 (h.row.block g hg).2, fun x hx => ((h.parts x hx).same fun b hb => hs b hb.1.1 hb.1.2.1).mono fun b hb => ⟨⟨hb.1.1, Nat.lt_of_lt_of_le hb.1.2.1 hz, fun cs => by rw [hs b hb.1.1 hb.1.2.1]; exact hb.1.2.2 cs⟩, hb.2⟩⟩
theorem FRow.add (h : FRow lo w1 q pv) (hk : ∀ b, b < w1.heap.size → pv.ownBlock ≠ some b → w3.heap[b]? = w1.heap[b]?) (hz : w1.heap.size ≤ w3.heap.size) (ho : Own w3 lo 90 4 v' (q.flatMap fC ++ fC x))
    (hb : ∀ g, v'.ownBlock = some g → pv.ownBlock = some g ∨ w1.heap.size ≤ g) (hx : FTAt (FS n0 w1) w1 x.1 x.2) (hn0 : lo ≤ n0) (hpv : ∀ g, pv.ownBlock = some g → g < n0) : FRow lo w3 (q ++ [x]) v' := by
  have hm : ∀ b, (FS lo w1 b ∧ pv.ownBlock ≠ some b) → (FS lo w3 b ∧ v'.ownBlock ≠ some b) := fun b hb' => ⟨⟨hb'.1.1, Nat.lt_of_lt_of_le hb'.1.2.1 hz, fun cs => by rw [hk b hb'.1.2.1 hb'.2]; exact hb'.1.2.2 cs⟩, fun e => by
    rcases hb b e with e2 | e2
    · exact hb'.2 e2
    · have := hb'.1.2.1; omega⟩
  refine ⟨by rw [List.flatMap_append]; simpa using ho, fun y hy => ?_⟩
  rcases List.mem_append.1 hy with hy | hy
  · exact ((h.parts y hy).same fun b hb' => hk b hb'.1.2.1 hb'.2).mono hm
  · obtain rfl := List.mem_singleton.1 hy
    have h2 : ∀ b, FS n0 w1 b → (FS lo w1 b ∧ pv.ownBlock ≠ some b) := fun b hb' => ⟨hb'.mono hn0, fun e => by have := hpv b e; have := hb'.1; omega⟩
    exact ((hx.mono h2).same fun b hb' => hk b hb'.1.2.1 hb'.2).mono hm
theorem FRow.forms (h : FRow lo w q pv) : ∃ p : List (FT × FV3), p.map (·.1) = q.map (·.1) ∧ (∀ x ∈ p, FTAt (FS lo w) w x.1 x.2) ∧ Sl (FS lo w) w 4 pv (p.flatMap fC) :=
  ⟨q, rfl, fun x hx => (h.parts x hx).mono fun b hb => hb.1, h.row.fs (by decide)⟩
end
def GrAt (S : Nat → Prop) (w : World) (ps : List P3) (fs : List FT) (pv fv : Value) : Prop :=
  Sl S w 3 pv (pcs ps) ∧ ∃ q : List (FT × FV3), q.map (·.1) = fs ∧ (∀ x ∈ q, FTAt S w x.1 x.2) ∧ Sl S w 4 fv (q.flatMap fC)
theorem GrAt.same {S : Nat → Prop} {w w' : World} {ps : List P3} {fs : List FT} {pv fv : Value} (h : GrAt S w ps fs pv fv) (hs : Same S w w') : GrAt S w' ps fs pv fv := by
  obtain ⟨h1, q, h2, h3, h4⟩ := h
  exact ⟨h1.same hs, q, h2, fun x hx => (h3 x hx).same hs, h4.same hs⟩
theorem GrAt.mono {S T : Nat → Prop} {w : World} {ps : List P3} {fs : List FT} {pv fv : Value} (h : GrAt S w ps fs pv fv) (hs : ∀ b, S b → T b) : GrAt T w ps fs pv fv := by
  obtain ⟨h1, q, h2, h3, h4⟩ := h
  exact ⟨h1.mono hs, q, h2, fun x hx => (h3 x hx).mono hs, h4.mono hs⟩
abbrev nuV : Nat → Value := fun n => .int .i64 n
theorem look_zip (p : P3) : ∀ (ps : List P3) (k : Nat), lookA (ps.zipIdx k) p = if p ∈ ps then some (k + numD ps p) else none
  | [], _ => rfl
  | x :: ps, k => by
    rw [List.zipIdx_cons]
    unfold lookA
    by_cases h : x = p
    · subst h
      simp [numD, List.findIdx_cons]
    · rw [if_neg h, look_zip p ps (k + 1)]
      have hp : ¬ p = x := fun e => h e.symm
      simp only [List.mem_cons, hp, false_or, numD, List.findIdx_cons, h, decide_false, cond_false]
      split
      · congr 1; omega
      · rfl
theorem put_zip (p : P3) (ps : List P3) (h : p ∉ ps) : putA (ps.zipIdx 0) p ps.length = (ps ++ [p]).zipIdx 0 := by
  rw [put_miss (fun x hx e => h (by
    have := List.mem_map_of_mem (f := Prod.fst) hx
    rw [List.zipIdx_map_fst] at this
    rw [← e]
    exact this)), List.zipIdx_append]
  simp
theorem numD_new (ps : List P3) (p : P3) (h : p ∉ ps) : numD ps p = ps.length := by
  unfold numD
  rw [List.findIdx_eq_length]
  intro x hx
  simp only [decide_eq_false_iff_not]
  exact fun e => h (e ▸ hx)
structure WkAt (w : World) (wp am B : Nat) (tv fi sm : Value) (ps : List P3) (pv fv : Value) : Prop where
  box : Blk w wp #[tv, fi, sm, .map (some am), pv, fv, .int .i64 0] 116
  num : Mp Tryz.prog 30 pV nuV w am (ps.zipIdx 0)
  pts : Own w B 30 3 pv (pcs ps)
abbrev WM (wp am : Nat) : Nat → Prop := fun x => x = wp ∨ x = am
section
variable {w w' : World} {wp am B : Nat} {tv fi sm pv fv pv' fv' : Value} {ps : List P3} {p : P3}
theorem WkAt.ext (h : WkAt w wp am B tv fi sm ps pv fv) (hx : Ext w w') : WkAt w' wp am B tv fi sm ps pv fv := ⟨h.box.below hx, h.num.below hx, h.pts.below hx⟩
theorem WkAt.same (h : WkAt w wp am B tv fi sm ps pv fv) (h1 : w'.heap[wp]? = w.heap[wp]?) (h2 : w'.heap[am]? = w.heap[am]?) (h3 : ∀ g, pv.ownBlock = some g → w'.heap[g]? = w.heap[g]?) : WkAt w' wp am B tv fi sm ps pv fv := ⟨h1.trans h.box, h.num.same h2, h.pts.keepOwn h3⟩
theorem WkAt.ne (h : WkAt w wp am B tv fi sm ps pv fv) : wp ≠ am := fun e => h.num.notCells _ _ _ (e ▸ h.box)
theorem WkAt.ptNe (h : WkAt w wp am B tv fi sm ps pv fv) : ∀ g, pv.ownBlock = some g → g ≠ wp ∧ g ≠ am := fun g hg => by
  obtain ⟨cur, h2⟩ := h.pts.typed hg
  refine ⟨fun e => ?_, fun e => ?_⟩
  · subst e
    rw [show w.heap[g]? = _ from h.box] at h2
    injection h2 with h2
    injection h2 with _ h2 _
    exact absurd h2 (by decide)
  · subst e
    exact h.num.notCells _ _ _ h2
end
abbrev KX (wp am : Nat) (w : World) (pv : Value) (x : Nat) : Prop := x < w.heap.size ∧ x ≠ wp ∧ x ≠ am ∧ pv.ownBlock ≠ some x
structure Fine (wp am : Nat) (w w' : World) (pv pv' : Value) : Prop where
  kept : Kept (KX wp am w pv) w w'
  wher : ∀ g, pv'.ownBlock = some g → pv.ownBlock = some g ∨ w.heap.size ≤ g
section
variable {w w' w'' w0 : World} {wp am B B' : Nat} {tv fi sm pv fv pv' pv'' v : Value} {ps : List P3} {e : TypeId} {sz : Nat} {xs : List Value}
theorem Fine.of (wp am : Nat) (pv : Value) (h : Ext w w') : Fine wp am w w' pv pv := ⟨Below.kept h fun _ hx => hx.1, fun _ hg => .inl hg⟩
theorem Fine.trans (h : Fine wp am w w' pv pv') (k : Fine wp am w' w'' pv' pv'') : Fine wp am w w'' pv pv'' :=
  ⟨h.kept.trans (k.kept.mono fun x (hx : KX wp am w pv x) => ⟨Nat.lt_of_lt_of_le hx.1 h.kept.size, hx.2.1, hx.2.2.1, fun e => by
      rcases h.wher x e with e2 | e2
      · exact hx.2.2.2 e2
      · have := hx.1; omega⟩),
    fun g hg => by
      rcases k.wher g hg with e | e
      · exact h.wher g e
      · exact .inr (Nat.le_trans h.kept.size e)⟩
theorem Fine.size (h : Fine wp am w w' pv pv') : w.heap.size ≤ w'.heap.size := h.kept.size
theorem Fine.own (h : Fine wp am w0 w pv pv') (ho : Own w w0.heap.size e sz v xs) (hg : w.grownBy w' v.ownBlock) : Fine wp am w0 w' pv pv' :=
  ⟨⟨hg.os.trans h.kept.os, hg.tape.trans h.kept.tape, hg.output.trans h.kept.output, Nat.le_trans h.kept.size hg.size, fun x hx => (hg.block x (Nat.lt_of_lt_of_le hx.1 h.kept.size) fun e => by have := (ho.block x e.symm).1; have := hx.1; omega).trans (h.kept.block x hx)⟩, h.wher⟩
theorem Fine.set (h : Fine wp am w0 w pv pv') {x i : Nat} (hx : w0.heap.size ≤ x) (u : Value) : Fine wp am w0 (w.setCell ⟨x, i, none⟩ u) pv pv' :=
  ⟨h.kept.set (fun hk => by have h1 : x < w0.heap.size := hk.1; omega) _, h.wher⟩
theorem Fine.pk (h : Fine wp am w w' pv pv') (hw : WkAt w wp am B tv fi sm ps pv fv) (hB : B ≤ wp ∧ B ≤ am) : PKept (WM wp am) B w w' := h.kept.mono fun x hx => by
  rcases hx with hx | ⟨h1, h2, h3⟩
  · exact ⟨by have := hw.box.lt; omega, by omega, by omega, fun e => by have := (hw.pts.block x e).1; omega⟩
  · refine ⟨h2, fun e => h1 (.inl e), fun e => h1 (.inr e), fun e => ?_⟩
    obtain ⟨c, hc⟩ := hw.pts.typed e
    exact h3 c hc
theorem WkAt.un (h : WkAt w wp am B tv fi sm ps pv fv) {x : Nat} {cs : Array Value} {fr : Nat × Nat} (hx : w.heap[x]? = some (.cells cs e fr)) (he : e ≠ 30) (he2 : e ≠ 116) : KX wp am w pv x := by
  refine ⟨(Array.getElem?_eq_some_iff.1 hx).1, fun e => ?_, fun e => ?_, fun e => ?_⟩
  · subst e
    rw [show w.heap[x]? = _ from h.box] at hx
    injection hx with hx
    injection hx with _ hx _
    exact he2 hx.symm
  · subst e
    exact h.num.notCells _ _ _ hx
  · obtain ⟨c, hc⟩ := h.pts.typed e
    rw [hc] at hx
    injection hx with hx
    injection hx with _ hx _
    exact he hx.symm
theorem Fine.blk (h : Fine wp am w w' pv pv') (hw : WkAt w wp am B tv fi sm ps pv fv) {x : Nat} {cs : Array Value} (hx : Blk w x cs e) (he : e ≠ 30) (he2 : e ≠ 116) : Blk w' x cs e := (h.kept.block x (hw.un hx he he2)).trans hx
theorem Fine.row (h : Fine wp am w w' pv pv') (hw : WkAt w wp am B tv fi sm ps pv fv) (ho : Own w B' e sz v xs) (he : e ≠ 30) (he2 : e ≠ 116) : Own w' B' e sz v xs := ho.keepOwn fun g hg => by
  obtain ⟨c, hc⟩ := ho.typed hg
  exact h.kept.block g (hw.un hc he he2)
theorem WkAt.sl (hw : WkAt w wp am B tv fi sm ps pv fv) (ho : Own w B' e sz v xs) (he : e ≠ 30) (he2 : e ≠ 116) : Sl (KX wp am w pv) w sz v xs := by
  obtain ⟨n, h⟩ := ho
  refine ownsRow_sl h _ fun g hg => ?_
  obtain ⟨c, hc⟩ := (show Own w B' e sz v xs from ⟨n, h⟩).typed hg
  exact hw.un hc he he2
theorem WkAt.grown (h : WkAt w wp am B tv fi sm ps pv fv) (ho : Own w B' e sz v xs) (he : e ≠ 30) (he2 : e ≠ 116) (hg : w.grownBy w' v.ownBlock) : WkAt w' wp am B tv fi sm ps pv fv := by
  refine h.same (hg.block wp h.box.lt fun e => ?_) (hg.block am h.num.lt fun e => ?_) fun g hgp => hg.block g (h.pts.block g hgp).2 fun e => ?_
  · obtain ⟨c, hc⟩ := ho.typed e.symm
    exact (h.un hc he he2).2.1 rfl
  · exact ho.notMap h.num.notCells am e.symm rfl
  · obtain ⟨c, hc⟩ := ho.typed e.symm
    exact (h.un hc he he2).2.2.2 hgp
theorem WkAt.setBox (h : WkAt w wp am B tv fi sm ps pv fv) {x i : Nat} {cs : Array Value} (hx : Blk w x cs e) (he : e ≠ 30) (he2 : e ≠ 116) (u : Value) : WkAt (w.setCell ⟨x, i, none⟩ u) wp am B tv fi sm ps pv fv := by
  have hu := h.un hx he he2
  exact h.same (Below.heap_setCell _ _ _ _ fun e => hu.2.1 e.symm) (Below.heap_setCell _ _ _ _ fun e => hu.2.2.1 e.symm) fun g hg => Below.heap_setCell _ _ _ _ fun e => hu.2.2.2 (by rw [hg, show g = x from e])
theorem Own.setBox (ho : Own w B' e sz v xs) {x i : Nat} {cs : Array Value} {e2 : TypeId} (hx : Blk w x cs e2) (he : e ≠ e2) (u : Value) : Own (w.setCell ⟨x, i, none⟩ u) B' e sz v xs := ho.keepOwn fun g hg => Below.heap_setCell _ _ _ _ fun e3 => by
  obtain ⟨c, hc⟩ := ho.typed hg
  rw [show g = x from e3, show w.heap[x]? = _ from hx] at hc
  injection hc with hc
  injection hc with _ hc _
  exact he hc.symm
end
end Go.Proofs.YtjdigpfipmckhaaGreat
