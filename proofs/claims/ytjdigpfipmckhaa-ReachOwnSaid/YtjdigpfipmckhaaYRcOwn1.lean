/- Lemmas for the claim, no condition. -/
import Derived.Maps.RangeWalk
import Derived.Maps.OwnSet
import Derived.Test.YtjdigpfipmckhaaYRcOwn0
namespace Go.Proofs.Ytjdigpfipmckhaa
open Go Go.RowKit
theorem Own.base {w : World} {B B' : Nat} {e : TypeId} {sz : Nat} {v : Value} {xs : List Value} (h : Own w B e sz v xs) (hB : B' ≤ B) : Own w B' e sz v xs := by
  obtain ⟨n, h1, h2⟩ := h
  refine ⟨n, h1, ?_⟩
  rcases h2 with h2 | ⟨g, cap, cur, hv, hg, r⟩
  · exact .inl h2
  · exact .inr ⟨g, cap, cur, hv, Nat.le_trans hB hg, r⟩
theorem Own.shape {w : World} {B : Nat} {e : TypeId} {sz : Nat} {v : Value} {xs : List Value} (h : Own w B e sz v xs) : (v = .slice none 0 0 ∧ xs = []) ∨ ∃ g n c, v = .slice (some ⟨g, 0, none⟩) n c := by
  obtain ⟨n, h1, h2⟩ := h
  rcases h2 with ⟨rfl, h2⟩ | ⟨g, cap, cur, hv, _⟩
  · left
    refine ⟨rfl, List.eq_nil_of_length_eq_zero ?_⟩
    rw [h1, h2, Nat.zero_mul]
  · exact .inr ⟨g, n, cap, hv⟩
end Go.Proofs.Ytjdigpfipmckhaa
namespace Go.Proofs.Ytjdigpfipmckhaa
open Go Go.RowKit
open Go.Maps (Keyed)
open Go.ChangeMaps (setBlock modify_eq_set)
open Go.MapKept (Stamped stamped_push stamped_modify stamped_erase)
section plain
variable {κ α : Type} [DecidableEq κ]
def lookA : List (κ × α) → κ → Option α
  | [], _ => none
  | p :: r, a => if p.1 = a then some p.2 else lookA r a
def putA : List (κ × α) → κ → α → List (κ × α)
  | [], a, x => [(a, x)]
  | p :: r, a, x => if p.1 = a then (a, x) :: r else p :: putA r a x
def delA : List (κ × α) → κ → List (κ × α)
  | [], _ => []
  | p :: r, a => if p.1 = a then r else p :: delA r a
theorem look_miss {a : κ} : ∀ {l : List (κ × α)}, (∀ p ∈ l, p.1 ≠ a) → lookA l a = none
  | [], _ => rfl
  | p :: r, h => by rw [lookA, if_neg (h p (by simp)), look_miss fun q hq => h q (by simp [hq])]
theorem put_miss {a : κ} {x : α} : ∀ {l : List (κ × α)}, (∀ p ∈ l, p.1 ≠ a) → putA l a x = l ++ [(a, x)]
  | [], _ => rfl
  | p :: r, h => by rw [putA, if_neg (h p (by simp)), put_miss fun q hq => h q (by simp [hq])]; rfl
theorem del_miss {a : κ} : ∀ {l : List (κ × α)}, (∀ p ∈ l, p.1 ≠ a) → delA l a = l
  | [], _ => rfl
  | p :: r, h => by rw [delA, if_neg (h p (by simp)), del_miss fun q hq => h q (by simp [hq])]
theorem pairs_hit {a : κ} {x : α} : ∀ {l : List (κ × α)} {j : Nat} {p : κ × α}, (l.map (·.1)).Nodup → l[j]? = some p → p.1 = a → lookA l a = some p.2 ∧ putA l a x = l.set j (a, x) ∧ delA l a = l.eraseIdx j
  | [], j, p, _, h, _ => by simp at h
  | q :: r, 0, p, _, h, hp => by
    obtain rfl : q = p := by simpa using h
    simp [lookA, putA, delA, hp]
  | q :: r, j + 1, p, hn, h, hp => by
    have h' : r[j]? = some p := by simpa using h
    simp only [List.map_cons, List.nodup_cons] at hn
    have hne : q.1 ≠ a := fun e => hn.1 (by rw [e, ← hp]; exact List.mem_map.2 ⟨p, List.mem_of_getElem? h', rfl⟩)
    obtain ⟨h1, h2, h3⟩ := pairs_hit (x := x) hn.2 h' hp
    simp [lookA, putA, delA, hne, h1, h2, h3]
theorem look_mem {a : κ} {x : α} : ∀ {l : List (κ × α)}, lookA l a = some x → (a, x) ∈ l
  | [], h => by simp [lookA] at h
  | p :: r, h => by
    rw [lookA] at h
    split at h
    · rename_i e
      obtain rfl : p.2 = x := by simpa using h
      subst e
      simp
    · exact List.mem_cons_of_mem _ (look_mem h)
theorem look_none_iff {a : κ} : ∀ {l : List (κ × α)}, lookA l a = none ↔ ∀ p ∈ l, p.1 ≠ a
  | [] => by simp [lookA]
  | p :: r => by
    rw [lookA]
    by_cases e : p.1 = a
    · simp [e]
    · simp [e, look_none_iff (l := r)]
end plain
def Turned (w w' : World) (b : Nat) : Prop := ∃ o, w' = setBlock w b o
theorem setBlock_block (w : World) (b c : Nat) (o : Obj) (h : c ≠ b) : (setBlock w b o).heap[c]? = w.heap[c]? := by
  simp [setBlock, Ne.symm h]
theorem setBlock_size (w : World) (b : Nat) (o : Obj) : (setBlock w b o).heap.size = w.heap.size := by simp [setBlock]
theorem setBlock_at {w : World} {b : Nat} {o o' : Obj} (h : w.heap[b]? = some o') : (setBlock w b o).heap[b]? = some o := by
  have := (Array.getElem?_eq_some_iff.1 h).1
  simp [setBlock, this]
theorem Turned.size {w w' : World} {b : Nat} (h : Turned w w' b) : w'.heap.size = w.heap.size := by
  obtain ⟨o, rfl⟩ := h; exact setBlock_size w b o
theorem Turned.kept {w w' : World} {b : Nat} (h : Turned w w' b) : Kept (· ≠ b) w w' := by
  obtain ⟨o, rfl⟩ := h
  exact ⟨rfl, rfl, rfl, Nat.le_of_eq (setBlock_size w b o).symm, fun c hc => setBlock_block w b c o hc⟩
theorem Turned.below {w w' : World} {b B : Nat} (h : Turned w w' b) (hb : B ≤ b) : Below B w w' := h.kept.below fun _ hx => by omega
section
variable {P : Program} {k t e : TypeId} {κ α : Type} {kv : κ → Value} {ev : α → Value} {w : World} {b : Nat} {l : List (κ × α)}
def Mp (P : Program) (k : TypeId) (kv : κ → Value) (ev : α → Value) (w : World) (b : Nat) (l : List (κ × α)) : Prop :=
  ∃ es clock, w.heap[b]? = some (.map es clock) ∧ Stamped es clock ∧ es.toList.map (fun x => (x.key, x.val)) = l.map (fun p => (kv p.1, ev p.2)) ∧ ∀ p ∈ l, ∃ q, keyOf P k (kv p.1) = some q
theorem Mp.made (w : World) : Mp P k kv ev (w.alloc (.map #[] 0)) w.heap.size ([] : List (κ × α)) :=
  ⟨#[], 0, heap_alloc_new w _, ⟨by simp, by simp, by simp⟩, rfl, by simp⟩
theorem Mp.lt (h : Mp P k kv ev w b l) : b < w.heap.size := by
  obtain ⟨es, clock, hb, _⟩ := h
  exact (Array.getElem?_eq_some_iff.1 hb).1
theorem Mp.same {w' : World} (h : Mp P k kv ev w b l) (hb : w'.heap[b]? = w.heap[b]?) : Mp P k kv ev w' b l := by
  obtain ⟨es, clock, h1, h2⟩ := h
  exact ⟨es, clock, hb.trans h1, h2⟩
theorem Mp.below {w' : World} (h : Mp P k kv ev w b l) (hb : Below w.heap.size w w') : Mp P k kv ev w' b l := h.same (hb.block b h.lt)
theorem Mp.kept {w' : World} {K : Nat → Prop} (h : Mp P k kv ev w b l) (hb : Kept K w w') (hk : K b) : Mp P k kv ev w' b l := h.same (hb.block b hk)
theorem pairs_keys {es : Array MapEntry} (hm : es.toList.map (fun x => (x.key, x.val)) = l.map (fun p => (kv p.1, ev p.2))) : es.toList.map (·.key) = l.map fun p => kv p.1 := by
  have := congrArg (List.map Prod.fst) hm
  simpa [List.map_map, Function.comp_def] using this
theorem Mp.nodup (h : Mp P k kv ev w b l) : (l.map (·.1)).Nodup := by
  obtain ⟨es, clock, _, hs, hm, _⟩ := h
  have h3 := hs.2.2
  rw [pairs_keys hm] at h3
  have : (l.map fun p => kv p.1) = (l.map (·.1)).map kv := by rw [List.map_map]; rfl
  rw [this] at h3
  exact List.Pairwise.of_map kv (fun a b hne e => hne (congrArg kv e)) h3
theorem pairs_at {es : Array MapEntry} (hm : es.toList.map (fun x => (x.key, x.val)) = l.map (fun p => (kv p.1, ev p.2))) {j : Nat} {x : MapEntry} (hx : es.toList[j]? = some x) : ∃ p, l[j]? = some p ∧ x.key = kv p.1 ∧ x.val = ev p.2 := by
  have := congrArg (fun z => z[j]?) hm
  simp only [List.getElem?_map, hx, Option.map_some] at this
  cases hl : l[j]? with
  | none => rw [hl] at this; simp at this
  | some p => rw [hl] at this; simp at this; exact ⟨p, rfl, this.1, this.2⟩
theorem pairs_no {es : Array MapEntry} (hm : es.toList.map (fun x => (x.key, x.val)) = l.map (fun p => (kv p.1, ev p.2))) {a : κ} (h : ∀ x ∈ es.toList, x.key ≠ kv a) : ∀ p ∈ l, p.1 ≠ a := by
  intro p hp e
  have : kv p.1 ∈ es.toList.map (·.key) := by rw [pairs_keys hm]; exact List.mem_map.2 ⟨p, hp, rfl⟩
  obtain ⟨x, hx, hxe⟩ := List.mem_map.1 this
  exact h x hx (by rw [hxe, e])
theorem pairs_ok {es : Array MapEntry} (hm : es.toList.map (fun x => (x.key, x.val)) = l.map (fun p => (kv p.1, ev p.2))) (hk : ∀ p ∈ l, ∃ q, keyOf P k (kv p.1) = some q) : ∀ x ∈ es.toList, ∃ q, keyOf P k x.key = some q := by
  intro x hx
  have : x.key ∈ es.toList.map (·.key) := List.mem_map.2 ⟨x, hx, rfl⟩
  rw [pairs_keys hm] at this
  obtain ⟨p, hp, he⟩ := List.mem_map.1 this
  rw [← he]
  exact hk p hp
def lookV (c : Bool) (z : Value) (ev : α → Value) : Option α → Value
  | some x => if c then .tuple #[ev x, .bool true] else ev x
  | none => if c then .tuple #[z, .bool false] else z
theorem Mp.look [DecidableEq κ] (h : Mp P k kv ev w b l) (K : Keyed P k) (inj : ∀ a b, kv a = kv b → a = b) (ht : P.underlying t = some (.map k e)) {z : Value} (hz : (zeroValue e).run P w = .ok z w) (c : Bool) {a : κ} (hk : ∃ q, keyOf P k (kv a) = some q) :
    (Instr.lookup t (.map (some b)) (kv a) c).run P w = .ok (lookV c z ev (lookA l a)) w := by
  have hn := h.nodup
  obtain ⟨es, clock, hb, hs, hm, hok⟩ := h
  obtain ⟨q, hq⟩ := hk
  rcases K.find w hq es.toList (pairs_ok hm hok) with ⟨h1, h2⟩ | ⟨j, e0, h1, h2, h3⟩
  · rw [look_miss (pairs_no hm h2)]
    simp [Instr.lookup, run_underlying ht, MapKept.run_getObj_map hb, K.check w _ hq, h1, hz, Result.andThen, lookV]
  · obtain ⟨p, hp, e1, e2⟩ := pairs_at hm h2
    have hpa : p.1 = a := inj _ _ (e1.symm.trans h3)
    rw [(pairs_hit (x := p.2) hn hp hpa).1]
    simp [Instr.lookup, run_underlying ht, MapKept.run_getObj_map hb, K.check w _ hq, h1, Result.andThen, lookV, e2]
theorem Mp.store [DecidableEq κ] (h : Mp P k kv ev w b l) (K : Keyed P k) (inj : ∀ a b, kv a = kv b → a = b) (ht : P.underlying t = some (.map k e)) {a : κ} (hk : ∃ q, keyOf P k (kv a) = some q) (x : α) :
    ∃ w', (Instr.mapUpdate t (.map (some b)) (kv a) (ev x)).run P w = .ok () w' ∧ Mp P k kv ev w' b (putA l a x) ∧ Turned w w' b := by
  have hn := h.nodup
  obtain ⟨es, clock, hb, hs, hm, hok⟩ := h
  have hk' := hk
  obtain ⟨q, hq⟩ := hk
  rcases K.find w hq es.toList (pairs_ok hm hok) with ⟨h1, h2⟩ | ⟨j, e0, h1, h2, h3⟩
  · refine ⟨setBlock w b (.map (es.push ⟨kv a, ev x, clock⟩) (clock + 1)), ?_, ⟨_, _, setBlock_at hb, stamped_push hs h2, ?_, ?_⟩, _, rfl⟩
    · simp [Instr.mapUpdate, run_underlying ht, MapKept.run_getObj_map hb, K.check w false hq, h1, MapKept.run_setObj_map _ hb, Result.andThen, setBlock]
    · rw [put_miss (pairs_no hm h2), Array.toList_push, List.map_append, List.map_append, hm]
      rfl
    · rw [put_miss (pairs_no hm h2)]
      intro p hp
      rcases List.mem_append.1 hp with hp | hp
      · exact hok p hp
      · obtain rfl : p = (a, x) := by simpa using hp
        exact hk'
  · obtain ⟨p, hp, e1, e2⟩ := pairs_at hm h2
    have hpa : p.1 = a := inj _ _ (e1.symm.trans h3)
    have hj : es[j]? = some e0 := by simpa using h2
    have hlist : (es.modify j (fun e' => { e' with key := kv a, val := ev x })).toList = es.toList.set j { e0 with key := kv a, val := ev x } := by rw [Array.toList_modify, modify_eq_set _ _ _ _ h2]
    refine ⟨setBlock w b (.map (es.modify j (fun e' => { e' with key := kv a, val := ev x })) clock), ?_, ⟨_, _, setBlock_at hb, stamped_modify hs _ _ (fun _ _ => rfl) (fun e' _ he' => ?_), ?_, ?_⟩, _, rfl⟩
    · simp [Instr.mapUpdate, run_underlying ht, MapKept.run_getObj_map hb, K.check w false hq, h1, hj, h3, K.stays w hq, MapKept.run_setObj_map _ hb, Result.andThen, setBlock]
    · rw [hj] at he'
      cases he'
      exact h3.symm
    · rw [(pairs_hit (x := x) hn hp hpa).2.1, hlist, List.map_set, List.map_set, hm]
    · rw [(pairs_hit (x := x) hn hp hpa).2.1]
      intro y hy
      rcases List.mem_or_eq_of_mem_set hy with hy | rfl
      · exact hok y hy
      · exact hk'
theorem Mp.drop {ty : TypeId} [DecidableEq κ] (h : Mp P k kv ev w b l) (K : Keyed P k) (inj : ∀ a b, kv a = kv b → a = b) (ht : P.underlying t = some (.map k e)) {a : κ} (hk : ∃ q, keyOf P k (kv a) = some q) :
    ∃ w', (Builtin.delete_ #[t, k] ty #[.map (some b), kv a]).run P w = .ok (.tuple #[]) w' ∧ Mp P k kv ev w' b (delA l a) ∧ Turned w w' b := by
  have hn := h.nodup
  obtain ⟨es, clock, hb, hs, hm, hok⟩ := h
  obtain ⟨q, hq⟩ := hk
  rcases K.find w hq es.toList (pairs_ok hm hok) with ⟨h1, h2⟩ | ⟨j, e0, h1, h2, h3⟩
  · refine ⟨setBlock w b (.map es clock), ?_, ⟨_, _, setBlock_at hb, hs, ?_, ?_⟩, _, rfl⟩
    · simp [Builtin.delete_, run_underlying ht, MapKept.run_getObj_map hb, K.check w _ hq, h1, MapKept.run_setObj_map _ hb, Result.andThen, setBlock]
    · rw [del_miss (pairs_no hm h2), hm]
    · rw [del_miss (pairs_no hm h2)]; exact hok
  · obtain ⟨p, hp, e1, e2⟩ := pairs_at hm h2
    have hpa : p.1 = a := inj _ _ (e1.symm.trans h3)
    have hjs : j < es.size := by simpa using (List.getElem?_eq_some_iff.1 h2).1
    have hsub : (es.eraseIdxIfInBounds j).toList = es.toList.eraseIdx j := by
      unfold Array.eraseIdxIfInBounds
      rw [dif_pos hjs]
      simp
    have hd := (pairs_hit (x := p.2) hn hp hpa).2.2
    refine ⟨setBlock w b (.map (es.eraseIdxIfInBounds j) clock), ?_, ⟨_, _, setBlock_at hb, stamped_erase hs j, ?_, ?_⟩, _, rfl⟩
    · simp [Builtin.delete_, run_underlying ht, MapKept.run_getObj_map hb, K.check w _ hq, h1, MapKept.run_setObj_map _ hb, Result.andThen, setBlock]
    · rw [hd, hsub, Go.ChangeMaps.map_eraseIdx, Go.ChangeMaps.map_eraseIdx, hm]
    · rw [hd]
      intro y hy
      exact hok y ((List.eraseIdx_sublist _ _).subset hy)
theorem Mp.len (h : Mp P k kv ev w b l) (ht : P.underlying t = some (.map k e)) (ty : TypeId) : (Builtin.len_ #[t] ty #[.map (some b)]).run P w = .ok (.int .i64 l.length) w := by
  obtain ⟨es, clock, hb, hs, hm, hok⟩ := h
  have : es.size = l.length := by have := congrArg List.length hm; simpa using this
  simp [Builtin.len_, run_underlying ht, MapKept.run_getObj_map hb, this, goInt]
def Rng (P : Program) (k : TypeId) (kv : κ → Value) (ev : α → Value) (w : World) (b r : Nat) (l rem : List (κ × α)) : Prop :=
  ∃ es clock since seen c0, w.heap[b]? = some (.map es clock) ∧ Stamped es clock ∧ es.toList.map (fun x => (x.key, x.val)) = l.map (fun p => (kv p.1, ev p.2)) ∧ (∀ p ∈ l, ∃ q, keyOf P k (kv p.1) = some q) ∧
    w.heap[r]? = some (.mapIter (some b) since seen c0) ∧ (∀ x ∈ es.toList, x.born < since) ∧ since ≤ c0 ∧ since ≤ clock ∧ (leftOf es seen).toList.map (fun x => (x.key, x.val)) = rem.map (fun p => (kv p.1, ev p.2))
theorem Rng.mp {r : Nat} {rem : List (κ × α)} (h : Rng P k kv ev w b r l rem) : Mp P k kv ev w b l := by
  obtain ⟨es, clock, since, seen, c0, hb, hs, hm, hok, _⟩ := h
  exact ⟨es, clock, hb, hs, hm, hok⟩
theorem Rng.lt {r : Nat} {rem : List (κ × α)} (h : Rng P k kv ev w b r l rem) : r < w.heap.size := by
  obtain ⟨es, clock, since, seen, c0, _, _, _, _, hr, _⟩ := h
  exact (Array.getElem?_eq_some_iff.1 hr).1
theorem Rng.ne {r : Nat} {rem : List (κ × α)} (h : Rng P k kv ev w b r l rem) : r ≠ b := by
  obtain ⟨es, clock, since, seen, c0, hb, _, _, _, hr, _⟩ := h
  intro e
  rw [e, hb] at hr
  cases hr
theorem Rng.same {r : Nat} {rem : List (κ × α)} {w' : World} (h : Rng P k kv ev w b r l rem) (h1 : w'.heap[b]? = w.heap[b]?) (h2 : w'.heap[r]? = w.heap[r]?) : Rng P k kv ev w' b r l rem := by
  obtain ⟨es, clock, since, seen, c0, hb, hs, hm, hok, hr, rest⟩ := h
  exact ⟨es, clock, since, seen, c0, h1.trans hb, hs, hm, hok, h2.trans hr, rest⟩
theorem Rng.kept {r : Nat} {rem : List (κ × α)} {w' : World} {K : Nat → Prop} (h : Rng P k kv ev w b r l rem) (hk : Kept K w w') (h1 : K b) (h2 : K r) : Rng P k kv ev w' b r l rem := h.same (hk.block b h1) (hk.block r h2)
theorem Rng.below {r : Nat} {rem : List (κ × α)} {w' : World} (h : Rng P k kv ev w b r l rem) (hb : Below w.heap.size w w') : Rng P k kv ev w' b r l rem := h.same (hb.block b h.mp.lt) (hb.block r h.lt)
theorem Rng.left_eq {r : Nat} {rem : List (κ × α)} (h : Rng P k kv ev w b r l rem) : w.rangeLeft b r = rem.length := by
  obtain ⟨es, clock, since, seen, c0, hb, _, _, _, hr, _, _, _, hc⟩ := h
  simp only [World.rangeLeft, hb, hr]
  have := congrArg List.length hc
  simpa using this
theorem Mp.range (h : Mp P k kv ev w b l) (ht : P.underlying t = some (.map k e)) :
    ∃ w', (Instr.range t (.map (some b))).run P w = .ok (.pointer (some ⟨w.heap.size, 0, none⟩)) w' ∧ Rng P k kv ev w' b w.heap.size l l ∧ Below w.heap.size w w' ∧ w'.heap.size = w.heap.size + 1 := by
  have hlt := h.lt
  obtain ⟨es, clock, hb, hs, hm, hok⟩ := h
  refine ⟨_, run_range_map w t k e b es clock ht hb, ⟨es, clock, clock, #[], clock, ((MapKept.heap_alloc w _).2 b hlt).trans hb, hs, hm, hok, (MapKept.heap_alloc w _).1, hs.1, Nat.le_refl _, Nat.le_refl _, ?_⟩, (Below.refl _ _).alloc (Nat.le_refl _) _, by simp⟩
  rw [← hm]
  simp only [leftOf, Array.toList_filter]
  rw [List.filter_eq_self.2 (fun _ _ => by simp)]
theorem filter_out {L : List MapEntry} {seen : Array Nat} (hn : (L.map (·.born)).Nodup) {x : MapEntry} {A B : List MapEntry} (h : L.filter (fun y => !seen.contains y.born) = A ++ x :: B) :
    L.filter (fun y => !(seen.push x.born).contains y.born) = A ++ B := by
  have e1 : L.filter (fun y => !(seen.push x.born).contains y.born) = (L.filter (fun y => !seen.contains y.born)).filter fun y => !(y.born == x.born) := by
    rw [List.filter_filter]
    apply List.filter_congr
    intro y _
    simp only [Array.contains_push, Bool.not_or]
    rw [Bool.and_comm]
  have hn2 : ((A ++ x :: B).map (·.born)).Nodup := by rw [← h]; exact hn.sublist (List.Sublist.map _ List.filter_sublist)
  rw [e1, h, List.filter_append, List.filter_cons]
  simp only [beq_self_eq_true, Bool.not_true, Bool.false_eq_true, if_false]
  rw [List.map_append, List.map_cons, List.nodup_append] at hn2
  obtain ⟨_, hB, hd⟩ := hn2
  rw [List.filter_eq_self.2, List.filter_eq_self.2]
  · intro y hy
    have := (List.nodup_cons.1 hB).1
    simp only [Bool.not_eq_true', beq_eq_false_iff_ne]
    exact fun e => this (e ▸ List.mem_map.2 ⟨y, hy, rfl⟩)
  · intro y hy
    simp only [Bool.not_eq_true', beq_eq_false_iff_ne]
    exact hd _ (List.mem_map.2 ⟨y, hy, rfl⟩) _ (by simp)
theorem Rng.next {r : Nat} {rem : List (κ × α)} (h : Rng P k kv ev w b r l rem) (ty : TypeId) :
    (rem = [] ∧ (Instr.next (.pointer (some ⟨r, 0, none⟩)) false ty).run P w = .ok (.tuple #[.bool false]) w) ∨
    ∃ pre p post w', rem = pre ++ p :: post ∧ (Instr.next (.pointer (some ⟨r, 0, none⟩)) false ty).run P w = .ok (.tuple #[.bool true, kv p.1, ev p.2]) w' ∧ Rng P k kv ev w' b r l (pre ++ post) ∧ Kept (· ≠ r) w w' ∧ w'.heap.size = w.heap.size ∧
      (Instr.entry (.pointer (some ⟨r, 0, none⟩))).run P w' = .ok (.tuple #[kv p.1, ev p.2]) w' := by
  have hne := h.ne
  obtain ⟨es, clock, since, seen, c0, hb, hs, hm, hok, hr, hold, hsc, hscl, hrem⟩ := h
  rcases run_next_at w ty r b since c0 seen es clock hr hb hold hsc with ⟨h0, hrun⟩ | ⟨x, hx, w1, hw1, hrun⟩
  · refine .inl ⟨?_, hrun⟩
    have := congrArg List.length hrem
    simp [h0] at this
    exact List.eq_nil_of_length_eq_zero this.symm
  · right
    obtain ⟨A, B, hAB⟩ := List.append_of_mem hx
    rw [hAB] at hrem
    rw [List.map_append, List.map_cons] at hrem
    obtain ⟨pre, q, rfl, hp1, hq⟩ := List.map_eq_append_iff.1 hrem.symm
    obtain ⟨p, post, rfl, hp2, hp3⟩ := List.map_eq_cons_iff.1 hq
    simp only [Prod.mk.injEq] at hp2
    have hfl : (leftOf es seen).toList = es.toList.filter fun y => !seen.contains y.born := by simp [leftOf]
    rw [hfl] at hAB hx
    have hxm : x ∈ es.toList := (List.mem_filter.1 hx).1
    have hb1 : w1.heap[b]? = some (.map es clock) := by rcases hw1 with rfl | rfl <;> exact hb
    have hr1 : w1.heap[r]? = some (.mapIter (some b) since seen c0) := by rcases hw1 with rfl | rfl <;> exact hr
    have hb2 : (setBlock w1 r (.mapIter (some b) since (seen.push x.born) clock)).heap[b]? = some (.map es clock) := (setBlock_block _ _ _ _ (Ne.symm hne)).trans hb1
    have hr2 := setBlock_at (o := .mapIter (some b) since (seen.push x.born) clock) hr1
    refine ⟨pre, p, post, setBlock w1 r (.mapIter (some b) since (seen.push x.born) clock), rfl, ?_, ⟨es, clock, since, seen.push x.born, clock, hb2, hs, hm, hok, hr2, hold, hscl, hscl, ?_⟩, ?_, ?_, ?_⟩
    · rw [hrun, hp2.1, hp2.2]
    · rw [show (leftOf es (seen.push x.born)).toList = es.toList.filter fun y => !(seen.push x.born).contains y.born from by simp [leftOf], filter_out hs.2.1 hAB, List.map_append, List.map_append, hp1, hp3]
    · have : Kept (· ≠ r) w w1 := by
        rcases hw1 with rfl | rfl
        · exact Kept.refl _ _
        · exact (Kept.refl _ _).drew
      exact this.trans (Turned.kept ⟨_, rfl⟩)
    · rw [setBlock_size]
      rcases hw1 with rfl | rfl <;> rfl
    · rw [run_entry_at _ r b since seen es clock x hr2 hb2 hxm hs.2.1, hp2.1, hp2.2]
end
section
variable {P : Program} (w : World) {ops : Array Oper} {rest : List Oper} {o : Oper} {a : Act} {Q : Exit → Act → World → Prop} {κ α : Type} {kv : κ → Value} {ev : α → Value} {b : Nat} {l : List (κ × α)}
theorem wpList_mp_range (hg : o.guard = none) (m : Operand) (t : TypeId) (hop : o.op = Op.range t m) {k e : TypeId} (ht : P.underlying t = some (.map k e)) (hm : a.eval m = .map (some b)) (h : Mp P k kv ev w b l)
    (hK : ∀ w', Rng P k kv ev w' b w.heap.size l l → Below w.heap.size w w' → w'.heap.size = w.heap.size + 1 → wpList P ops Q rest (a.put o.dst (.pointer (some ⟨w.heap.size, 0, none⟩))) w') : wpList P ops Q (o :: rest) a w := by
  refine wpList_plain hg fun K' hK' => ?_
  obtain ⟨w', hrun, h1, h2, h3⟩ := h.range ht
  unfold Oper.wp
  simp [execOp, hop, hm, hrun, Result.andThen]
  exact hK' _ _ (hK w' h1 h2 h3)
theorem wpList_mp_next (hg : o.guard = none) (it : Operand) (hop : o.op = Op.next it false) {k : TypeId} {r : Nat} {rem : List (κ × α)} (hit : a.eval it = .pointer (some ⟨r, 0, none⟩)) (h : Rng P k kv ev w b r l rem)
    (hDone : rem = [] → wpList P ops Q rest (a.put o.dst (.tuple #[.bool false])) w)
    (hMore : ∀ pre p post w', rem = pre ++ p :: post → Rng P k kv ev w' b r l (pre ++ post) → Kept (· ≠ r) w w' → w'.heap.size = w.heap.size → (Instr.entry (.pointer (some ⟨r, 0, none⟩))).run P w' = .ok (.tuple #[kv p.1, ev p.2]) w' →
      wpList P ops Q rest (a.put o.dst (.tuple #[.bool true, kv p.1, ev p.2])) w') : wpList P ops Q (o :: rest) a w := by
  refine wpList_plain hg fun K' hK' => ?_
  unfold Oper.wp
  rcases h.next o.type with ⟨h0, hrun⟩ | ⟨pre, p, post, w', h0, hrun, h1, h2, h3, h4⟩
  · simp [execOp, hop, hit, hrun, Result.andThen]
    exact hK' _ _ (hDone h0)
  · simp [execOp, hop, hit, hrun, Result.andThen]
    exact hK' _ _ (hMore pre p post w' h0 h1 h2 h3 h4)
end
end Go.Proofs.Ytjdigpfipmckhaa
namespace Go.Proofs.Ytjdigpfipmckhaa
open Go Go.RowKit
section
variable {w w' : World} {B B' p : Nat} {e e' : TypeId} {sz sz' : Nat} {v v' : Value} {xs xs' : List Value} {cs : Array Value}
theorem Own.typed (h : Own w B e sz v xs) {g : Nat} (hg : v.ownBlock = some g) : ∃ cur, w.heap[g]? = some (.cells cur e (0, 0)) := by
  obtain ⟨n, _, h2⟩ := h
  rcases h2 with ⟨rfl, _⟩ | ⟨g', cap, cur, rfl, _, hh, _⟩
  · cases hg
  · obtain rfl : g' = g := Option.some.inj hg
    exact ⟨cur, hh⟩
theorem Own.keepOwn (h : Own w B e sz v xs) (hs : ∀ g, v.ownBlock = some g → w'.heap[g]? = w.heap[g]?) : Own w' B e sz v xs := by
  obtain ⟨n, h1, h2⟩ := h
  refine ⟨n, h1, ?_⟩
  rcases h2 with h2 | ⟨g, cap, cur, rfl, hb, hh, r⟩
  · exact .inl h2
  · exact .inr ⟨g, cap, cur, rfl, hb, (hs g rfl).trans hh, r⟩
end
section
variable {P : Program} {ops : Array Oper} {Q : Exit → Act → World → Prop} {S : World → Prop}
theorem WalkN.three {f : Nat} {l : Array Bool} {a : Act} {w : World} (i j m : Nat) (hr : Region.ready .any ops l = [i, j, m]) (h : MadeN P ops Q S f l a w i) (h' : MadeN P ops Q S f l a w j) (h'' : MadeN P ops Q S f l a w m) : WalkN P ops Q S (f + 1) l a w := by
  refine .inr (.inr ⟨by rw [hr]; simp, fun k hk => ?_⟩)
  rw [hr] at hk
  have : k = i ∨ k = j ∨ k = m := by simpa using hk
  rcases this with rfl | rfl | rfl
  · obtain ⟨o, ho, hw, h⟩ := h
    exact ⟨o, ho, fun K hK => by rw [if_pos hw]; exact h K hK⟩
  · obtain ⟨o, ho, hw, h⟩ := h'
    exact ⟨o, ho, fun K hK => by rw [if_pos hw]; exact h K hK⟩
  · obtain ⟨o, ho, hw, h⟩ := h''
    exact ⟨o, ho, fun K hK => by rw [if_pos hw]; exact h K hK⟩
end
end Go.Proofs.Ytjdigpfipmckhaa
