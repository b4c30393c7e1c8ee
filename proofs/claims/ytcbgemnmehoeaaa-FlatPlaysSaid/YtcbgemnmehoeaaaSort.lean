/- slices.SortFunc on a row of the call's own, whatever struct its elements are: the same elements, in order. No condition: lemmas. -/
import Derived.Test.YtcbgemnmehoeaaaRowk
import Derived.Test.YtcbgemnmehoeaaaOwn
import Derived.Shelf.SlSortCmp.WholeK
import Derived.Shelf.SlSortCmp.NoneTotal
namespace Go.Proofs.Ytcbgemnmehoeaaa
open Go Go.RowKit Go.Sort Go.Shelf

theorem flatK_list {α : Type} [Inhabited α] {enc : α → List Value} {k : Nat} (hk : ∀ x, (enc x).length = k) (hpos : 0 < k) (d : Array α) : (flatK enc k d).toList = d.toList.flatMap enc := by
  apply List.ext_getElem?
  intro t
  by_cases ht : t < d.size * k
  · have h1 : t / k < d.size := (Nat.div_lt_iff_lt_mul hpos).2 ht
    have h2 : t % k < k := Nat.mod_lt _ hpos
    have h3 : t = t / k * k + t % k := by rw [Nat.mul_comm]; exact (Nat.div_add_mod t k).symm
    have e1 : (flatK enc k d).toList[t]? = some (flatK enc k d)[t]! := by
      rw [getElem!_pos _ t (by simpa using ht)]
      simp [ht]
    rw [e1, get_flatK enc k d t ht]
    conv => rhs; rw [h3]
    rw [flat_get hk d.toList (t / k) (by simpa using h1) (t % k) h2, getElem!_pos d (t / k) h1, getElem!_pos _ (t % k) (by rw [hk]; exact h2), List.getElem?_eq_getElem (by rw [hk]; exact h2)]
    simp
  · rw [List.getElem?_eq_none (by simp; omega), List.getElem?_eq_none (by rw [flat_length hk]; simp; omega)]

theorem sort_own {P : Program} {ρ : Ren} (L : SlLaysF0.n6 P ρ) {α : Type} [Inhabited α] (enc : α → List Value) (k : Nat) (hk : ∀ x, (enc x).length = k) (hpos : 0 < k) (h1 : ∀ x, ∀ v ∈ enc x, v.oneCell' = true)
    (aE : ∀ w, (isAgg (ρ.t 24)).run P w = .ok true w) (zE : ∀ w, (Go.sizeOf (ρ.t 24)).run P w = .ok k w) (cf : α → α → Int) (hO : SWO (ltOf cf)) (g : Nat) (cb : Array Value)
    (eg : ∀ args w, (callFunc g args).run P w = .ok (.enter g args) w) (hcmp : ∀ (W : World) x y, Calls P g (#[.agg (enc x).toArray, .agg (enc y).toArray] ++ cb) W fun e w' => e = .returned (.int .i64 (cf x y)) ∧ Gr W w')
    {w : World} {B : Nat} {T : TypeId} {v : Value} {l : List α} (h : Own w B T k v (l.flatMap enc)) (hl : l.length < 4611686018427387904) :
    Calls P (ρ.f 6) #[v, .func (.func g) #[] cb] w fun e w' => e = .returned (.tuple #[]) ∧ ∃ l' : List α, l'.Perm l ∧ (l'.Pairwise fun a b => ltOf cf b a = false) ∧ Own w' B T k v (l'.flatMap enc) ∧ Kept (fun b => b < w.heap.size ∧ v.ownBlock ≠ some b) w w' := by
  obtain ⟨n, hlen, hrow⟩ := h
  rw [flat_length hk] at hlen
  obtain rfl : l.length = n := Nat.eq_of_mul_eq_mul_right hpos hlen
  by_cases h0 : l = []
  · subst h0
    have hv : ∃ p c, v = .slice p 0 c := by
      rcases hrow with ⟨rfl, _⟩ | ⟨b, cap, cur, rfl, _⟩
      · exact ⟨_, _, rfl⟩
      · exact ⟨_, _, rfl⟩
    have hown : Own w B T k v (([] : List α).flatMap enc) := ⟨0, by simp, hrow⟩
    obtain ⟨p, c, rfl⟩ := hv
    refine (AnyF.slices_SortFunc_none L p c _ w).mono ?_
    rintro e w' ⟨rfl, rfl⟩
    exact ⟨rfl, [], List.Perm.refl _, List.Pairwise.nil, hown, Kept.refl _ _⟩
  · have hl0 : 0 < l.length := List.length_pos_iff.2 h0
    rcases hrow with ⟨rfl, hx⟩ | ⟨b, cap, cur, rfl, hB, hb, hnc, hcm, hcs, htake⟩
    · exfalso
      omega
    · have hblt : b < w.heap.size := (Array.getElem?_eq_some_iff.1 hb).1
      have hnk : l.length * k ≤ cur.size := by rw [hcs]; exact Nat.mul_le_mul_right k hnc
      have hcur : ∀ j, j < l.length * k → cur[j]? = some (flatK enc k l.toArray)[j]! := fun j hj => by
        have e1 : (cur.toList.take (l.length * k))[j]? = cur[j]? := by rw [List.getElem?_take, if_pos hj]; simp
        rw [← e1, htake]
        have e2 := flatK_list hk hpos l.toArray
        simp only at e2
        rw [← e2, getElem!_pos _ j (by simpa using hj)]
        simp [hj]
      have hH : HoldsK enc k w b 0 l.toArray := fun j hj => by
        rw [size_flatK] at hj
        have hj' : j < l.length * k := by simpa using hj
        refine ⟨?_, frozen_of_row w b (0 + j) cur T hb⟩
        rw [cell_of_row w b (0 + j) cur T (0, 0) hb, Nat.zero_add]
        exact hcur j hj'
      have hcl : CmpLays P g cb enc k cf b 0 l.toArray.size w := fun m os dk _ x y => (hcmp _ x y).mono fun _ _ ⟨he, hg⟩ => ⟨he, hg⟩
      have hc := AnyQ.slices_SortFunc L k aE zE enc hk h1 cf hO g cb b 0 cap l.toArray w eg hcl hH hblt (by simpa using hl)
      simp only [List.size_toArray] at hc
      refine hc.mono ?_
      rintro e w' ⟨rfl, d', m, os, hp, hs, rfl⟩
      obtain ⟨hp1, _, hp2⟩ := hp
      have hp1' : d'.size = l.length := by simpa using hp1
      have hperm : d'.toList.Perm l := by
        have e1 : (d'.extract 0 l.length).toList = d'.toList := by rw [← hp1']; simp
        have e2 : (l.toArray.extract 0 l.length).toList = l := by simp
        rw [e1, e2] at hp2
        exact hp2
      refine ⟨rfl, d'.toList, hperm, ?_, ⟨d'.toList.length, ?_, .inr ⟨b, cap, putCells id 0 (flatK enc k d') cur, ?_, hB, ?_, ?_, hcm, ?_, ?_⟩⟩, ?_⟩
      · refine List.pairwise_iff_getElem.2 fun i j hi hj hij => ?_
        have hi' : i < d'.size := by simpa using hi
        have hj' : j < d'.size := by simpa using hj
        have := hs i j (Nat.zero_le _) hij (by omega)
        rwa [getElem!_pos d' j hj', getElem!_pos d' i hi'] at this
      · rw [flat_length hk]
      · simp [hp1']
      · simp only [sortWorldK, putRowK, putRow, mapBlock, grow, heap_ahead]
        rw [Array.getElem?_append_left (by simpa using hblt), Array.getElem?_modify, if_pos rfl, hb]
        rfl
      · simp [hp1', hnc]
      · simp [putCells, hcs]
      · rw [show d'.toList.length * k = (flatK enc k d').size from by simp]
        rw [← flatK_list hk hpos d']
        apply List.ext_getElem?
        intro t
        rw [List.getElem?_take]
        split
        · rename_i ht
          have ht' : t < d'.size * k := by simpa using ht
          have htc : t < cur.size := by rw [hp1'] at ht'; omega
          simp only [putCells, Array.getElem?_toList, Array.getElem?_mapIdx]
          rw [Array.getElem?_eq_getElem htc]
          simp only [Option.map_some, Nat.zero_le, true_and, Nat.zero_add, Nat.sub_zero, id]
          rw [if_pos ht, getElem!_pos _ t ht, Array.getElem?_eq_getElem ht]
        · rename_i ht
          rw [List.getElem?_eq_none (by simpa using ht)]
      · refine ⟨rfl, rfl, rfl, by simp [sortWorldK, putRowK, grow], fun c hc => ?_⟩
        have hne : c ≠ b := fun e => hc.2 (by subst e; rfl)
        simp only [sortWorldK, putRowK, putRow, mapBlock, grow, heap_ahead]
        rw [Array.getElem?_append_left (by simpa using hc.1), Array.getElem?_modify, if_neg (Ne.symm hne)]

end Go.Proofs.Ytcbgemnmehoeaaa
