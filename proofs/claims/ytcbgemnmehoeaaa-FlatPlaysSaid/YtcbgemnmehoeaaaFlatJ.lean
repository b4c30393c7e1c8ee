/- flat's maps of maps in memory. No condition: lemmas. -/
import Derived.Test.YtcbgemnmehoeaaaFlatI
namespace Go.Proofs.Ytcbgemnmehoeaaa
open Go Go.RowKit Go.Maps

def KeyP (p : P3) : Prop := ∃ q, keyOf Try.prog 37 (pV p) = some q
def KeyS (p : P3) : Prop := ∃ q, keyOf Try.prog 30 (pV p) = some q
abbrev nV : Nat × List P3 → Value := fun x => .map (some x.1)

/-- Block b is a map of points to maps of keys. -/
structure Nest (k : TypeId) (w : World) (b : Nat) (l : NL) : Prop where
  top : Mp Try.prog 37 pV nV w b l
  inner : ∀ x ∈ l, Mp Try.prog k pV bV w x.2.1 (bl x.2.2)
  apart : (b :: l.map (·.2.1)).Nodup
/-- Its blocks. -/
def nB (b : Nat) (l : NL) : List Nat := b :: l.map (·.2.1)
/-- The inner map's block. -/
def mO (l : NL) (q : P3) : Option Nat := (lookA l q).map (·.1)

theorem Mp.isMap {P : Program} {k : TypeId} {κ α : Type} {kv : κ → Value} {ev : α → Value} {w : World} {b : Nat} {l : List (κ × α)} (h : Mp P k kv ev w b l) : ∃ es c, w.heap[b]? = some (.map es c) := by
  obtain ⟨es, c, h, _⟩ := h
  exact ⟨es, c, h⟩
theorem Mp.keyed {P : Program} {k : TypeId} {κ α : Type} {kv : κ → Value} {ev : α → Value} {w : World} {b : Nat} {l : List (κ × α)} (h : Mp P k kv ev w b l) : ∀ p ∈ l, ∃ q, keyOf P k (kv p.1) = some q := by
  obtain ⟨_, _, _, _, _, h⟩ := h
  exact h
theorem Mp.pairs {P : Program} {k : TypeId} {κ α : Type} {kv : κ → Value} {ev : α → Value} {w : World} {b : Nat} {l l' : List (κ × α)} (h : Mp P k kv ev w b l) (he : l'.map (fun p => (kv p.1, ev p.2)) = l.map fun p => (kv p.1, ev p.2)) (hk : ∀ p ∈ l', ∃ q, keyOf P k (kv p.1) = some q) : Mp P k kv ev w b l' := by
  obtain ⟨es, c, h1, h2, h3, _⟩ := h
  exact ⟨es, c, h1, h2, h3.trans he.symm, hk⟩

theorem put_ghost {κ α β : Type} [DecidableEq κ] (f : κ × α → β) {a : κ} {x : α} (y : α) (hf : f (a, y) = f (a, x)) : ∀ {l : List (κ × α)}, lookA l a = some x → (putA l a y).map f = l.map f
  | p :: r, h => by
    unfold lookA at h
    unfold putA
    by_cases hp : p.1 = a
    · rw [if_pos hp] at h ⊢
      obtain rfl : p.2 = x := by simpa using h
      subst hp
      simp [hf]
    · rw [if_neg hp] at h ⊢
      simp [put_ghost f y hf h]

section
variable {k : TypeId} {w w' : World} {b : Nat} {l : NL}
theorem Nest.isMap (h : Nest k w b l) : ∀ x ∈ nB b l, ∃ es c, w.heap[x]? = some (.map es c) := by
  intro x hx
  rcases List.mem_cons.1 hx with rfl | hx
  · exact h.top.isMap
  · obtain ⟨e, he, rfl⟩ := List.mem_map.1 hx
    exact (h.inner e he).isMap
theorem Nest.lt (h : Nest k w b l) : ∀ x ∈ nB b l, x < w.heap.size := fun x hx => by
  obtain ⟨es, c, hm⟩ := h.isMap x hx
  exact (Array.getElem?_eq_some_iff.1 hm).1
theorem Nest.same (h : Nest k w b l) (hs : ∀ x ∈ nB b l, w'.heap[x]? = w.heap[x]?) : Nest k w' b l :=
  ⟨h.top.same (hs b (by simp [nB])), fun x hx => (h.inner x hx).same (hs _ (by simp only [nB]; exact List.mem_cons_of_mem _ (List.mem_map.2 ⟨x, hx, rfl⟩))), h.apart⟩
theorem Nest.below (h : Nest k w b l) (hb : Below w.heap.size w w') : Nest k w' b l := h.same fun x hx => hb.block x (h.lt x hx)
theorem Nest.keeps (h : Nest k w b l) (hb : KeepsFrom 0 w w') : Nest k w' b l := h.same fun x hx => by
  obtain ⟨es, c, hm⟩ := h.isMap x hx
  rw [hm]
  exact hb.same x _ (Nat.zero_le _) hm rfl
theorem Nest.notBlk (h : Nest k w b l) {B : Nat} {cs : Array Value} {t : TypeId} (hB : Blk w B cs t) : B ∉ nB b l := fun hx => by
  obtain ⟨es, c, hm⟩ := h.isMap B hx
  rw [show w.heap[B]? = _ from hB] at hm
  cases hm
theorem Nest.notOwn (h : Nest k w b l) {B0 : Nat} {e : TypeId} {sz : Nat} {v : Value} {xs : List Value} (ho : Own w B0 e sz v xs) : ∀ x ∈ nB b l, v.ownBlock ≠ some x := fun x hx e => by
  obtain ⟨es, c, hm⟩ := h.isMap x hx
  obtain ⟨cur, hc⟩ := ho.typed e
  rw [hm] at hc
  cases hc
theorem Nest.inn (h : Nest k w b l) (q : P3) : MpO Try.prog k pV bV w (mO l q) (bl (inn l q)) := by
  unfold mO Proofs.Ytcbgemnmehoeaaa.inn
  cases hl : lookA l q with
  | none => rfl
  | some x => exact h.inner _ (look_mem hl)
theorem Nest.look (h : Nest k w b l) {t e : TypeId} (ht : Try.prog.underlying t = some (.map 37 e)) (hz : (zeroValue e).run Try.prog w = .ok (.map none) w) {q : P3} (hk : KeyP q) :
    (Instr.lookup t (.map (some b)) (pV q) false).run Try.prog w = .ok (.map (mO l q)) w := by
  rw [h.top.look pointK pV_inj ht hz false hk]
  unfold mO lookV
  cases lookA l q <;> rfl
theorem Nest.nodupAt (h : Nest k w b l) (q : P3) : (Proofs.Ytcbgemnmehoeaaa.inn l q).Nodup := by
  have := (h.inn q).nodup
  rwa [bl_keys] at this
theorem Nest.keyedP (h : Nest 37 w b l) (q : P3) : ∀ r ∈ Proofs.Ytcbgemnmehoeaaa.inn l q, KeyP r := fun r hr => (h.inn q).keyed (r, true) (List.mem_map.2 ⟨r, hr, rfl⟩)
theorem Nest.keyedS (h : Nest 30 w b l) (q : P3) : ∀ r ∈ Proofs.Ytcbgemnmehoeaaa.inn l q, KeyS r := fun r hr => (h.inn q).keyed (r, true) (List.mem_map.2 ⟨r, hr, rfl⟩)

/-- An inner map more. -/
theorem Nest.fresh (h : Nest k w b l) {q : P3} {bn : Nat} (hl : lookA l q = none) (hn : Mp Try.prog k pV bV w bn (bl [])) (hb : bn ∉ nB b l) (ht : Turned w w' b) (hm : Mp Try.prog 37 pV nV w' b (putA l q (bn, []))) : Nest k w' b (putA l q (bn, [])) := by
  have hap := h.apart
  rw [put_miss (look_none_iff.1 hl)] at hm ⊢
  refine ⟨hm, fun x hx => ?_, ?_⟩
  · rcases List.mem_append.1 hx with hx | hx
    · refine (h.inner x hx).same (ht.kept.block _ fun e => ?_)
      rw [List.nodup_cons] at hap
      exact hap.1 (e ▸ List.mem_map.2 ⟨x, hx, rfl⟩)
    · obtain rfl : x = (q, bn, []) := by simpa using hx
      exact hn.same (ht.kept.block _ fun e => hb (by simp [nB, e]))
  · rw [List.map_append, ← List.cons_append, List.nodup_append]
    refine ⟨hap, by simp, fun x hx y hy => ?_⟩
    obtain rfl : y = bn := by simpa using hy
    rintro rfl
    exact hb hx
theorem fresh_blocks {q : P3} {bn : Nat} (hl : lookA l q = none) : ∀ x ∈ nB b (putA l q (bn, [])), x ∈ nB b l ∨ x = bn := by
  rw [put_miss (look_none_iff.1 hl)]
  intro x hx
  simp only [nB, List.map_append, List.mem_cons, List.mem_append, List.map_cons, List.map_nil, List.not_mem_nil, or_false] at hx ⊢
  rcases hx with h | h | h
  · exact .inl (.inl h)
  · exact .inl (.inr h)
  · exact .inr h
/-- A key more in an inner map. -/
theorem Nest.mark (h : Nest k w b l) {q : P3} {bi : Nat} {ss ss' : List P3} (hl : lookA l q = some (bi, ss)) (ht : Turned w w' bi) (hm : Mp Try.prog k pV bV w' bi (bl ss')) : Nest k w' b (putA l q (bi, ss')) := by
  have hmem := look_mem hl
  have hap := h.apart
  have hbn : b ≠ bi := fun e => by
    rw [List.nodup_cons] at hap
    exact hap.1 (e ▸ List.mem_map.2 ⟨_, hmem, rfl⟩)
  refine ⟨?_, fun x hx => ?_, ?_⟩
  · refine Mp.pairs (h.top.same (ht.kept.block _ hbn)) (put_ghost (x := (bi, ss)) _ (bi, ss') rfl hl) fun x hx => ?_
    rcases put_keys_mem _ _ _ hx with rfl | hx
    · have := h.top.keyed _ hmem
      exact this
    · exact h.top.keyed _ hx
  · by_cases hxb : x.2.1 = bi
    · have hnd : (l.map (·.2.1)).Nodup := (List.nodup_cons.1 hap).2
      have hx2 : x = (q, bi, ss') := by
        have hkn := h.top.nodup
        rw [show putA l q (bi, ss') = l.map (fun e => if e.1 = q then (q, bi, ss') else e) from ?_] at hx
        · obtain ⟨e, he, rfl⟩ := List.mem_map.1 hx
          by_cases heq : e.1 = q
          · simp [heq]
          · simp only [heq, if_false] at hxb ⊢
            exfalso
            obtain ⟨i, hi, hie⟩ := List.getElem_of_mem he
            obtain ⟨j, hj, hje⟩ := List.getElem_of_mem hmem
            have hij : i = j := by
              have h1 : (l.map (·.2.1))[i]'(by simpa using hi) = (l.map (·.2.1))[j]'(by simpa using hj) := by simp [hie, hje, hxb]
              have hpw := List.pairwise_iff_getElem.1 hnd
              rcases Nat.lt_trichotomy i j with hlt | heq' | hlt
              · exact absurd h1 (hpw i j _ _ hlt)
              · exact heq'
              · exact absurd h1.symm (hpw j i _ _ hlt)
            subst hij
            rw [hie] at hje
            exact heq (by rw [hje])
        · clear hx hxb hnd hap hmem hbn ht hm h
          induction l with
          | nil => simp [lookA] at hl
          | cons e r ih =>
            simp only [List.map_cons, List.nodup_cons] at hkn
            unfold lookA at hl
            unfold putA
            by_cases he : e.1 = q
            · rw [if_pos he, List.map_cons, if_pos he]
              congr 1
              rw [eq_comm]
              conv => rhs; rw [← List.map_id r]
              refine List.map_congr_left fun y hy => ?_
              rw [if_neg (fun hyq => hkn.1 (by rw [he, ← hyq]; exact List.mem_map.2 ⟨y, hy, rfl⟩))]
              rfl
            · rw [if_neg he] at hl ⊢
              rw [List.map_cons, if_neg he, ih hl hkn.2]
      subst hx2
      exact hm
    · rcases put_keys_mem _ _ _ hx with rfl | hx
      · exact absurd rfl hxb
      · exact (h.inner x hx).same (ht.kept.block _ hxb)
  · rw [put_ghost (x := (bi, ss)) (fun e : P3 × Nat × List P3 => e.2.1) (bi, ss') rfl hl]
    exact hap
theorem mark_blocks {q : P3} {bi : Nat} {ss ss' : List P3} (hl : lookA l q = some (bi, ss)) : nB b (putA l q (bi, ss')) = nB b l := by
  unfold nB
  rw [put_ghost (x := (bi, ss)) (fun e : P3 × Nat × List P3 => e.2.1) (bi, ss') rfl hl]
end

/-- The last element is taken away. -/
theorem Own.cut {w : World} {B0 : Nat} {e : TypeId} {sz g n c : Nat} {ys zs : List Value} (hz : zs.length = sz) (h : Own w B0 e sz (.slice (some ⟨g, 0, none⟩) (n + 1) c) (ys ++ zs)) : Own w B0 e sz (.slice (some ⟨g, 0, none⟩) n c) ys := by
  obtain ⟨m, h1, h2⟩ := h
  rcases h2 with ⟨h2, _⟩ | ⟨g', cap, cur, hv, hb, hg, hnc, hcm, hcs, ht⟩
  · cases h2
  · simp only [Value.slice.injEq, Option.some.injEq, Addr.mk.injEq, and_true] at hv
    obtain ⟨rfl, rfl, rfl⟩ := hv
    have hl : ys.length = n * sz := by
      rw [List.length_append, hz, Nat.add_mul] at h1
      omega
    refine ⟨n, hl, .inr ⟨g, c, cur, rfl, hb, hg, by omega, hcm, hcs, ?_⟩⟩
    have := congrArg (List.take (n * sz)) ht
    rw [List.take_take, Nat.min_eq_left (Nat.mul_le_mul_right _ (by omega)), ← hl, List.take_left] at this
    exact hl ▸ this

end Go.Proofs.Ytcbgemnmehoeaaa
