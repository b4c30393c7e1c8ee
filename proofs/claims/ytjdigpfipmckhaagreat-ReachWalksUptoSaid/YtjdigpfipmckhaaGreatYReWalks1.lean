/- Lemmas for the claim, no condition. -/
import Derived.Maps.RangeWalk
import Derived.Maps.OwnSet
import Derived.Test.YtjdigpfipmckhaaGreatYReWalks0
namespace Go.Proofs.YtjdigpfipmckhaaGreat
open Go Go.RowKit
open Go.Maps (Keyed)
open Go.ChangeMaps (setBlock modify_eq_set)
open Go.MapKept (Stamped stamped_push stamped_modify stamped_erase)
section plain
variable {κ α : Type} [DecidableEq κ]
def lookA : List (κ × α) → κ → Option α
  | [], _ => none
  | p :: r, a => if p.1 = a then some p.2 else lookA r a
def putA : List (κ × α) → κ → α → List (κ × α)
  | [], a, x => [(a, x)]
  | p :: r, a, x => if p.1 = a then (a, x) :: r else p :: putA r a x
def delA : List (κ × α) → κ → List (κ × α)
  | [], _ => []
  | p :: r, a => if p.1 = a then r else p :: delA r a
theorem look_miss {a : κ} : ∀ {l : List (κ × α)}, (∀ p ∈ l, p.1 ≠ a) → lookA l a = none
  | [], _ => rfl
  | p :: r, h => by rw [lookA, if_neg (h p (by simp)), look_miss fun q hq => h q (by simp [hq])]
theorem put_miss {a : κ} {x : α} : ∀ {l : List (κ × α)}, (∀ p ∈ l, p.1 ≠ a) → putA l a x = l ++ [(a, x)]
  | [], _ => rfl
  | p :: r, h => by rw [putA, if_neg (h p (by simp)), put_miss fun q hq => h q (by simp [hq])]; rfl
theorem pairs_hit {a : κ} {x : α} : ∀ {l : List (κ × α)} {j : Nat} {p : κ × α}, (l.map (·.1)).Nodup → l[j]? = some p → p.1 = a → lookA l a = some p.2 ∧ putA l a x = l.set j (a, x) ∧ delA l a = l.eraseIdx j
  | [], j, p, _, h, _ => by simp at h
  | q :: r, 0, p, _, h, hp => by
    obtain rfl : q = p := by simpa using h
    simp [lookA, putA, delA, hp]
  | q :: r, j + 1, p, hn, h, hp => by
    have h' : r[j]? = some p := by simpa using h
    simp only [List.map_cons, List.nodup_cons] at hn
    have hne : q.1 ≠ a := fun e => hn.1 (by rw [e, ← hp]; exact List.mem_map.2 ⟨p, List.mem_of_getElem? h', rfl⟩)
    obtain ⟨h1, h2, h3⟩ := pairs_hit (x := x) hn.2 h' hp
    simp [lookA, putA, delA, hne, h1, h2, h3]
theorem look_mem {a : κ} {x : α} : ∀ {l : List (κ × α)}, lookA l a = some x → (a, x) ∈ l
  | [], h => by simp [lookA] at h
  | p :: r, h => by
    rw [lookA] at h
    split at h
    · rename_i e
      obtain rfl : p.2 = x := by simpa using h
      subst e
      simp
    · exact List.mem_cons_of_mem _ (look_mem h)
theorem look_none_iff {a : κ} : ∀ {l : List (κ × α)}, lookA l a = none ↔ ∀ p ∈ l, p.1 ≠ a
  | [] => by simp [lookA]
  | p :: r => by
    rw [lookA]
    by_cases e : p.1 = a
    · simp [e]
    · simp [e, look_none_iff (l := r)]
end plain
def Turned (w w' : World) (b : Nat) : Prop := ∃ o, w' = setBlock w b o
theorem setBlock_block (w : World) (b c : Nat) (o : Obj) (h : c ≠ b) : (setBlock w b o).heap[c]? = w.heap[c]? := by
  simp [setBlock, Ne.symm h]
theorem setBlock_size (w : World) (b : Nat) (o : Obj) : (setBlock w b o).heap.size = w.heap.size := by simp [setBlock]
theorem setBlock_at {w : World} {b : Nat} {o o' : Obj} (h : w.heap[b]? = some o') : (setBlock w b o).heap[b]? = some o := by
  have := (Array.getElem?_eq_some_iff.1 h).1
  simp [setBlock, this]
theorem Turned.size {w w' : World} {b : Nat} (h : Turned w w' b) : w'.heap.size = w.heap.size := by
  obtain ⟨o, rfl⟩ := h; exact setBlock_size w b o
theorem Turned.kept {w w' : World} {b : Nat} (h : Turned w w' b) : Kept (· ≠ b) w w' := by
  obtain ⟨o, rfl⟩ := h
  exact ⟨rfl, rfl, rfl, Nat.le_of_eq (setBlock_size w b o).symm, fun c hc => setBlock_block w b c o hc⟩
theorem Turned.below {w w' : World} {b B : Nat} (h : Turned w w' b) (hb : B ≤ b) : Below B w w' := h.kept.below fun _ hx => by omega
section
variable {P : Program} {k t e : TypeId} {κ α : Type} {kv : κ → Value} {ev : α → Value} {w : World} {b : Nat} {l : List (κ × α)}
def Mp (P : Program) (k : TypeId) (kv : κ → Value) (ev : α → Value) (w : World) (b : Nat) (l : List (κ × α)) : Prop :=
  ∃ es clock, w.heap[b]? = some (.map es clock) ∧ Stamped es clock ∧ es.toList.map (fun x => (x.key, x.val)) = l.map (fun p => (kv p.1, ev p.2)) ∧ ∀ p ∈ l, ∃ q, keyOf P k (kv p.1) = some q
theorem Mp.made (w : World) : Mp P k kv ev (w.alloc (.map #[] 0)) w.heap.size ([] : List (κ × α)) :=
  ⟨#[], 0, heap_alloc_new w _, ⟨by simp, by simp, by simp⟩, rfl, by simp⟩
theorem Mp.lt (h : Mp P k kv ev w b l) : b < w.heap.size := by
  obtain ⟨es, clock, hb, _⟩ := h
  exact (Array.getElem?_eq_some_iff.1 hb).1
theorem Mp.same {w' : World} (h : Mp P k kv ev w b l) (hb : w'.heap[b]? = w.heap[b]?) : Mp P k kv ev w' b l := by
  obtain ⟨es, clock, h1, h2⟩ := h
  exact ⟨es, clock, hb.trans h1, h2⟩
theorem Mp.below {w' : World} (h : Mp P k kv ev w b l) (hb : Below w.heap.size w w') : Mp P k kv ev w' b l := h.same (hb.block b h.lt)
theorem Mp.kept {w' : World} {K : Nat → Prop} (h : Mp P k kv ev w b l) (hb : Kept K w w') (hk : K b) : Mp P k kv ev w' b l := h.same (hb.block b hk)
theorem pairs_keys {es : Array MapEntry} (hm : es.toList.map (fun x => (x.key, x.val)) = l.map (fun p => (kv p.1, ev p.2))) : es.toList.map (·.key) = l.map fun p => kv p.1 := by
  have := congrArg (List.map Prod.fst) hm
  simpa [List.map_map, Function.comp_def] using this
theorem Mp.nodup (h : Mp P k kv ev w b l) : (l.map (·.1)).Nodup := by
  obtain ⟨es, clock, _, hs, hm, _⟩ := h
  have h3 := hs.2.2
  rw [pairs_keys hm] at h3
  have : (l.map fun p => kv p.1) = (l.map (·.1)).map kv := by rw [List.map_map]; rfl
  rw [this] at h3
  exact List.Pairwise.of_map kv (fun a b hne e => hne (congrArg kv e)) h3
theorem pairs_at {es : Array MapEntry} (hm : es.toList.map (fun x => (x.key, x.val)) = l.map (fun p => (kv p.1, ev p.2))) {j : Nat} {x : MapEntry} (hx : es.toList[j]? = some x) : ∃ p, l[j]? = some p ∧ x.key = kv p.1 ∧ x.val = ev p.2 := by
  have := congrArg (fun z => z[j]?) hm
  simp only [List.getElem?_map, hx, Option.map_some] at this
  cases hl : l[j]? with
  | none => rw [hl] at this; simp at this
  | some p => rw [hl] at this; simp at this; exact ⟨p, rfl, this.1, this.2⟩
theorem pairs_no {es : Array MapEntry} (hm : es.toList.map (fun x => (x.key, x.val)) = l.map (fun p => (kv p.1, ev p.2))) {a : κ} (h : ∀ x ∈ es.toList, x.key ≠ kv a) : ∀ p ∈ l, p.1 ≠ a := by
  intro p hp e
  have : kv p.1 ∈ es.toList.map (·.key) := by rw [pairs_keys hm]; exact List.mem_map.2 ⟨p, hp, rfl⟩
  obtain ⟨x, hx, hxe⟩ := List.mem_map.1 this
  exact h x hx (by rw [hxe, e])
theorem pairs_ok {es : Array MapEntry} (hm : es.toList.map (fun x => (x.key, x.val)) = l.map (fun p => (kv p.1, ev p.2))) (hk : ∀ p ∈ l, ∃ q, keyOf P k (kv p.1) = some q) : ∀ x ∈ es.toList, ∃ q, keyOf P k x.key = some q := by
  intro x hx
  have : x.key ∈ es.toList.map (·.key) := List.mem_map.2 ⟨x, hx, rfl⟩
  rw [pairs_keys hm] at this
  obtain ⟨p, hp, he⟩ := List.mem_map.1 this
  rw [← he]
  exact hk p hp
def lookV (c : Bool) (z : Value) (ev : α → Value) : Option α → Value
  | some x => if c then .tuple #[ev x, .bool true] else ev x
  | none => if c then .tuple #[z, .bool false] else z
theorem Mp.look [DecidableEq κ] (h : Mp P k kv ev w b l) (K : Keyed P k) (inj : ∀ a b, kv a = kv b → a = b) (ht : P.underlying t = some (.map k e)) {z : Value} (hz : (zeroValue e).run P w = .ok z w) (c : Bool) {a : κ} (hk : ∃ q, keyOf P k (kv a) = some q) :
    (Instr.lookup t (.map (some b)) (kv a) c).run P w = .ok (lookV c z ev (lookA l a)) w := by
  have hn := h.nodup
  obtain ⟨es, clock, hb, hs, hm, hok⟩ := h
  obtain ⟨q, hq⟩ := hk
  rcases K.find w hq es.toList (pairs_ok hm hok) with ⟨h1, h2⟩ | ⟨j, e0, h1, h2, h3⟩
  · rw [look_miss (pairs_no hm h2)]
    simp [Instr.lookup, run_underlying ht, MapKept.run_getObj_map hb, K.check w _ hq, h1, hz, Result.andThen, lookV]
  · obtain ⟨p, hp, e1, e2⟩ := pairs_at hm h2
    have hpa : p.1 = a := inj _ _ (e1.symm.trans h3)
    rw [(pairs_hit (x := p.2) hn hp hpa).1]
    simp [Instr.lookup, run_underlying ht, MapKept.run_getObj_map hb, K.check w _ hq, h1, Result.andThen, lookV, e2]
theorem Mp.store [DecidableEq κ] (h : Mp P k kv ev w b l) (K : Keyed P k) (inj : ∀ a b, kv a = kv b → a = b) (ht : P.underlying t = some (.map k e)) {a : κ} (hk : ∃ q, keyOf P k (kv a) = some q) (x : α) :
    ∃ w', (Instr.mapUpdate t (.map (some b)) (kv a) (ev x)).run P w = .ok () w' ∧ Mp P k kv ev w' b (putA l a x) ∧ Turned w w' b := by
  have hn := h.nodup
  obtain ⟨es, clock, hb, hs, hm, hok⟩ := h
  have hk' := hk
  obtain ⟨q, hq⟩ := hk
  rcases K.find w hq es.toList (pairs_ok hm hok) with ⟨h1, h2⟩ | ⟨j, e0, h1, h2, h3⟩
  · refine ⟨setBlock w b (.map (es.push ⟨kv a, ev x, clock⟩) (clock + 1)), ?_, ⟨_, _, setBlock_at hb, stamped_push hs h2, ?_, ?_⟩, _, rfl⟩
    · simp [Instr.mapUpdate, run_underlying ht, MapKept.run_getObj_map hb, K.check w false hq, h1, MapKept.run_setObj_map _ hb, Result.andThen, setBlock]
    · rw [put_miss (pairs_no hm h2), Array.toList_push, List.map_append, List.map_append, hm]
      rfl
    · rw [put_miss (pairs_no hm h2)]
      intro p hp
      rcases List.mem_append.1 hp with hp | hp
      · exact hok p hp
      · obtain rfl : p = (a, x) := by simpa using hp
        exact hk'
  · obtain ⟨p, hp, e1, e2⟩ := pairs_at hm h2
    have hpa : p.1 = a := inj _ _ (e1.symm.trans h3)
    have hj : es[j]? = some e0 := by simpa using h2
    have hlist : (es.modify j (fun e' => { e' with key := kv a, val := ev x })).toList = es.toList.set j { e0 with key := kv a, val := ev x } := by rw [Array.toList_modify, modify_eq_set _ _ _ _ h2]
    refine ⟨setBlock w b (.map (es.modify j (fun e' => { e' with key := kv a, val := ev x })) clock), ?_, ⟨_, _, setBlock_at hb, stamped_modify hs _ _ (fun _ _ => rfl) (fun e' _ he' => ?_), ?_, ?_⟩, _, rfl⟩
    · simp [Instr.mapUpdate, run_underlying ht, MapKept.run_getObj_map hb, K.check w false hq, h1, hj, h3, K.stays w hq, MapKept.run_setObj_map _ hb, Result.andThen, setBlock]
    · rw [hj] at he'
      cases he'
      exact h3.symm
    · rw [(pairs_hit (x := x) hn hp hpa).2.1, hlist, List.map_set, List.map_set, hm]
    · rw [(pairs_hit (x := x) hn hp hpa).2.1]
      intro y hy
      rcases List.mem_or_eq_of_mem_set hy with hy | rfl
      · exact hok y hy
      · exact hk'
theorem Mp.len (h : Mp P k kv ev w b l) (ht : P.underlying t = some (.map k e)) (ty : TypeId) : (Builtin.len_ #[t] ty #[.map (some b)]).run P w = .ok (.int .i64 l.length) w := by
  obtain ⟨es, clock, hb, hs, hm, hok⟩ := h
  have : es.size = l.length := by have := congrArg List.length hm; simpa using this
  simp [Builtin.len_, run_underlying ht, MapKept.run_getObj_map hb, this, goInt]
def Rng (P : Program) (k : TypeId) (kv : κ → Value) (ev : α → Value) (w : World) (b r : Nat) (l rem : List (κ × α)) : Prop :=
  ∃ es clock since seen c0, w.heap[b]? = some (.map es clock) ∧ Stamped es clock ∧ es.toList.map (fun x => (x.key, x.val)) = l.map (fun p => (kv p.1, ev p.2)) ∧ (∀ p ∈ l, ∃ q, keyOf P k (kv p.1) = some q) ∧
    w.heap[r]? = some (.mapIter (some b) since seen c0) ∧ (∀ x ∈ es.toList, x.born < since) ∧ since ≤ c0 ∧ since ≤ clock ∧ (leftOf es seen).toList.map (fun x => (x.key, x.val)) = rem.map (fun p => (kv p.1, ev p.2))
theorem Rng.mp {r : Nat} {rem : List (κ × α)} (h : Rng P k kv ev w b r l rem) : Mp P k kv ev w b l := by
  obtain ⟨es, clock, since, seen, c0, hb, hs, hm, hok, _⟩ := h
  exact ⟨es, clock, hb, hs, hm, hok⟩
theorem Rng.lt {r : Nat} {rem : List (κ × α)} (h : Rng P k kv ev w b r l rem) : r < w.heap.size := by
  obtain ⟨es, clock, since, seen, c0, _, _, _, _, hr, _⟩ := h
  exact (Array.getElem?_eq_some_iff.1 hr).1
theorem Rng.ne {r : Nat} {rem : List (κ × α)} (h : Rng P k kv ev w b r l rem) : r ≠ b := by
  obtain ⟨es, clock, since, seen, c0, hb, _, _, _, hr, _⟩ := h
  intro e
  rw [e, hb] at hr
  cases hr
theorem Rng.same {r : Nat} {rem : List (κ × α)} {w' : World} (h : Rng P k kv ev w b r l rem) (h1 : w'.heap[b]? = w.heap[b]?) (h2 : w'.heap[r]? = w.heap[r]?) : Rng P k kv ev w' b r l rem := by
  obtain ⟨es, clock, since, seen, c0, hb, hs, hm, hok, hr, rest⟩ := h
  exact ⟨es, clock, since, seen, c0, h1.trans hb, hs, hm, hok, h2.trans hr, rest⟩
theorem Rng.below {r : Nat} {rem : List (κ × α)} {w' : World} (h : Rng P k kv ev w b r l rem) (hb : Below w.heap.size w w') : Rng P k kv ev w' b r l rem := h.same (hb.block b h.mp.lt) (hb.block r h.lt)
theorem Rng.left_eq {r : Nat} {rem : List (κ × α)} (h : Rng P k kv ev w b r l rem) : w.rangeLeft b r = rem.length := by
  obtain ⟨es, clock, since, seen, c0, hb, _, _, _, hr, _, _, _, hc⟩ := h
  simp only [World.rangeLeft, hb, hr]
  have := congrArg List.length hc
  simpa using this
theorem Mp.range (h : Mp P k kv ev w b l) (ht : P.underlying t = some (.map k e)) :
    ∃ w', (Instr.range t (.map (some b))).run P w = .ok (.pointer (some ⟨w.heap.size, 0, none⟩)) w' ∧ Rng P k kv ev w' b w.heap.size l l ∧ Below w.heap.size w w' ∧ w'.heap.size = w.heap.size + 1 := by
  have hlt := h.lt
  obtain ⟨es, clock, hb, hs, hm, hok⟩ := h
  refine ⟨_, run_range_map w t k e b es clock ht hb, ⟨es, clock, clock, #[], clock, ((MapKept.heap_alloc w _).2 b hlt).trans hb, hs, hm, hok, (MapKept.heap_alloc w _).1, hs.1, Nat.le_refl _, Nat.le_refl _, ?_⟩, (Below.refl _ _).alloc (Nat.le_refl _) _, by simp⟩
  rw [← hm]
  simp only [leftOf, Array.toList_filter]
  rw [List.filter_eq_self.2 (fun _ _ => by simp)]
theorem filter_out {L : List MapEntry} {seen : Array Nat} (hn : (L.map (·.born)).Nodup) {x : MapEntry} {A B : List MapEntry} (h : L.filter (fun y => !seen.contains y.born) = A ++ x :: B) :
    L.filter (fun y => !(seen.push x.born).contains y.born) = A ++ B := by
  have e1 : L.filter (fun y => !(seen.push x.born).contains y.born) = (L.filter (fun y => !seen.contains y.born)).filter fun y => !(y.born == x.born) := by
    rw [List.filter_filter]
    apply List.filter_congr
    intro y _
    simp only [Array.contains_push, Bool.not_or]
    rw [Bool.and_comm]
  have hn2 : ((A ++ x :: B).map (·.born)).Nodup := by rw [← h]; exact hn.sublist (List.Sublist.map _ List.filter_sublist)
  rw [e1, h, List.filter_append, List.filter_cons]
  simp only [beq_self_eq_true, Bool.not_true, Bool.false_eq_true, if_false]
  rw [List.map_append, List.map_cons, List.nodup_append] at hn2
  obtain ⟨_, hB, hd⟩ := hn2
  rw [List.filter_eq_self.2, List.filter_eq_self.2]
  · intro y hy
    have := (List.nodup_cons.1 hB).1
    simp only [Bool.not_eq_true', beq_eq_false_iff_ne]
    exact fun e => this (e ▸ List.mem_map.2 ⟨y, hy, rfl⟩)
  · intro y hy
    simp only [Bool.not_eq_true', beq_eq_false_iff_ne]
    exact hd _ (List.mem_map.2 ⟨y, hy, rfl⟩) _ (by simp)
theorem Rng.next {r : Nat} {rem : List (κ × α)} (h : Rng P k kv ev w b r l rem) (ty : TypeId) :
    (rem = [] ∧ (Instr.next (.pointer (some ⟨r, 0, none⟩)) false ty).run P w = .ok (.tuple #[.bool false]) w) ∨
    ∃ pre p post w', rem = pre ++ p :: post ∧ (Instr.next (.pointer (some ⟨r, 0, none⟩)) false ty).run P w = .ok (.tuple #[.bool true, kv p.1, ev p.2]) w' ∧ Rng P k kv ev w' b r l (pre ++ post) ∧ Kept (· ≠ r) w w' ∧ w'.heap.size = w.heap.size ∧
      (Instr.entry (.pointer (some ⟨r, 0, none⟩))).run P w' = .ok (.tuple #[kv p.1, ev p.2]) w' := by
  have hne := h.ne
  obtain ⟨es, clock, since, seen, c0, hb, hs, hm, hok, hr, hold, hsc, hscl, hrem⟩ := h
  rcases run_next_at w ty r b since c0 seen es clock hr hb hold hsc with ⟨h0, hrun⟩ | ⟨x, hx, w1, hw1, hrun⟩
  · refine .inl ⟨?_, hrun⟩
    have := congrArg List.length hrem
    simp [h0] at this
    exact List.eq_nil_of_length_eq_zero this.symm
  · right
    obtain ⟨A, B, hAB⟩ := List.append_of_mem hx
    rw [hAB] at hrem
    rw [List.map_append, List.map_cons] at hrem
    obtain ⟨pre, q, rfl, hp1, hq⟩ := List.map_eq_append_iff.1 hrem.symm
    obtain ⟨p, post, rfl, hp2, hp3⟩ := List.map_eq_cons_iff.1 hq
    simp only [Prod.mk.injEq] at hp2
    have hfl : (leftOf es seen).toList = es.toList.filter fun y => !seen.contains y.born := by simp [leftOf]
    rw [hfl] at hAB hx
    have hxm : x ∈ es.toList := (List.mem_filter.1 hx).1
    have hb1 : w1.heap[b]? = some (.map es clock) := by rcases hw1 with rfl | rfl <;> exact hb
    have hr1 : w1.heap[r]? = some (.mapIter (some b) since seen c0) := by rcases hw1 with rfl | rfl <;> exact hr
    have hb2 : (setBlock w1 r (.mapIter (some b) since (seen.push x.born) clock)).heap[b]? = some (.map es clock) := (setBlock_block _ _ _ _ (Ne.symm hne)).trans hb1
    have hr2 := setBlock_at (o := .mapIter (some b) since (seen.push x.born) clock) hr1
    refine ⟨pre, p, post, setBlock w1 r (.mapIter (some b) since (seen.push x.born) clock), rfl, ?_, ⟨es, clock, since, seen.push x.born, clock, hb2, hs, hm, hok, hr2, hold, hscl, hscl, ?_⟩, ?_, ?_, ?_⟩
    · rw [hrun, hp2.1, hp2.2]
    · rw [show (leftOf es (seen.push x.born)).toList = es.toList.filter fun y => !(seen.push x.born).contains y.born from by simp [leftOf], filter_out hs.2.1 hAB, List.map_append, List.map_append, hp1, hp3]
    · have : Kept (· ≠ r) w w1 := by
        rcases hw1 with rfl | rfl
        · exact Kept.refl _ _
        · exact (Kept.refl _ _).drew
      exact this.trans (Turned.kept ⟨_, rfl⟩)
    · rw [setBlock_size]
      rcases hw1 with rfl | rfl <;> rfl
    · rw [run_entry_at _ r b since seen es clock x hr2 hb2 hxm hs.2.1, hp2.1, hp2.2]
end
section
variable {P : Program} (w : World) {ops : Array Oper} {rest : List Oper} {o : Oper} {a : Act} {Q : Exit → Act → World → Prop} {κ α : Type} {kv : κ → Value} {ev : α → Value} {b : Nat} {l : List (κ × α)}
theorem wpList_mp_range (hg : o.guard = none) (m : Operand) (t : TypeId) (hop : o.op = Op.range t m) {k e : TypeId} (ht : P.underlying t = some (.map k e)) (hm : a.eval m = .map (some b)) (h : Mp P k kv ev w b l)
    (hK : ∀ w', Rng P k kv ev w' b w.heap.size l l → Below w.heap.size w w' → w'.heap.size = w.heap.size + 1 → wpList P ops Q rest (a.put o.dst (.pointer (some ⟨w.heap.size, 0, none⟩))) w') : wpList P ops Q (o :: rest) a w := by
  refine wpList_plain hg fun K' hK' => ?_
  obtain ⟨w', hrun, h1, h2, h3⟩ := h.range ht
  unfold Oper.wp
  simp [execOp, hop, hm, hrun, Result.andThen]
  exact hK' _ _ (hK w' h1 h2 h3)
theorem wpList_mp_next (hg : o.guard = none) (it : Operand) (hop : o.op = Op.next it false) {k : TypeId} {r : Nat} {rem : List (κ × α)} (hit : a.eval it = .pointer (some ⟨r, 0, none⟩)) (h : Rng P k kv ev w b r l rem)
    (hDone : rem = [] → wpList P ops Q rest (a.put o.dst (.tuple #[.bool false])) w)
    (hMore : ∀ pre p post w', rem = pre ++ p :: post → Rng P k kv ev w' b r l (pre ++ post) → Kept (· ≠ r) w w' → w'.heap.size = w.heap.size → (Instr.entry (.pointer (some ⟨r, 0, none⟩))).run P w' = .ok (.tuple #[kv p.1, ev p.2]) w' →
      wpList P ops Q rest (a.put o.dst (.tuple #[.bool true, kv p.1, ev p.2])) w') : wpList P ops Q (o :: rest) a w := by
  refine wpList_plain hg fun K' hK' => ?_
  unfold Oper.wp
  rcases h.next o.type with ⟨h0, hrun⟩ | ⟨pre, p, post, w', h0, hrun, h1, h2, h3, h4⟩
  · simp [execOp, hop, hit, hrun, Result.andThen]
    exact hK' _ _ (hDone h0)
  · simp [execOp, hop, hit, hrun, Result.andThen]
    exact hK' _ _ (hMore pre p post w' h0 h1 h2 h3 h4)
end
end Go.Proofs.YtjdigpfipmckhaaGreat
namespace Go.Proofs.YtjdigpfipmckhaaGreat
open Go Go.RowKit
section
variable {w w' : World} {B B' p : Nat} {e e' : TypeId} {sz sz' : Nat} {v v' : Value} {xs xs' : List Value} {cs : Array Value}
theorem Own.typed (h : Own w B e sz v xs) {g : Nat} (hg : v.ownBlock = some g) : ∃ cur, w.heap[g]? = some (.cells cur e (0, 0)) := by
  obtain ⟨n, _, h2⟩ := h
  rcases h2 with ⟨rfl, _⟩ | ⟨g', cap, cur, rfl, _, hh, _⟩
  · cases hg
  · obtain rfl : g' = g := Option.some.inj hg
    exact ⟨cur, hh⟩
theorem Own.keepOwn (h : Own w B e sz v xs) (hs : ∀ g, v.ownBlock = some g → w'.heap[g]? = w.heap[g]?) : Own w' B e sz v xs := by
  obtain ⟨n, h1, h2⟩ := h
  refine ⟨n, h1, ?_⟩
  rcases h2 with h2 | ⟨g, cap, cur, rfl, hb, hh, r⟩
  · exact .inl h2
  · exact .inr ⟨g, cap, cur, rfl, hb, (hs g rfl).trans hh, r⟩
end
section
variable {P : Program} {ops : Array Oper} {Q : Exit → Act → World → Prop} {S : World → Prop}
theorem WalkN.three {f : Nat} {l : Array Bool} {a : Act} {w : World} (i j m : Nat) (hr : Region.ready .any ops l = [i, j, m]) (h : MadeN P ops Q S f l a w i) (h' : MadeN P ops Q S f l a w j) (h'' : MadeN P ops Q S f l a w m) : WalkN P ops Q S (f + 1) l a w := by
  refine .inr (.inr ⟨by rw [hr]; simp, fun k hk => ?_⟩)
  rw [hr] at hk
  have : k = i ∨ k = j ∨ k = m := by simpa using hk
  rcases this with rfl | rfl | rfl
  · obtain ⟨o, ho, hw, h⟩ := h
    exact ⟨o, ho, fun K hK => by rw [if_pos hw]; exact h K hK⟩
  · obtain ⟨o, ho, hw, h⟩ := h'
    exact ⟨o, ho, fun K hK => by rw [if_pos hw]; exact h K hK⟩
  · obtain ⟨o, ho, hw, h⟩ := h''
    exact ⟨o, ho, fun K hK => by rw [if_pos hw]; exact h K hK⟩
end
end Go.Proofs.YtjdigpfipmckhaaGreat
namespace Go.Proofs.YtjdigpfipmckhaaGreat
open Go Go.RowKit
inductive RT where
  | mk (k : Int) (a b : ByteArray) (ps : List RT)
def RT.k : RT → Int | .mk k _ _ _ => k
def RT.a : RT → ByteArray | .mk _ a _ _ => a
def RT.b : RT → ByteArray | .mk _ _ b _ => b
def RT.ps : RT → List RT | .mk _ _ _ ps => ps
instance : Inhabited RT := ⟨.mk 0 ByteArray.empty ByteArray.empty []⟩
mutual
def RT.sz : RT → Nat | .mk _ _ _ ps => 1 + szL ps
def szL : List RT → Nat | [] => 0 | r :: rs => r.sz + szL rs
end
theorem szL_mem {p : RT} : ∀ {ps : List RT}, p ∈ ps → p.sz ≤ szL ps
  | r :: rs, h => by
    rw [szL]
    rcases List.mem_cons.1 h with rfl | h
    · omega
    · have := szL_mem h
      omega
theorem RT.sz_lt {r p : RT} (h : p ∈ r.ps) : p.sz < r.sz := by
  obtain ⟨k, a, b, ps⟩ := r
  have := szL_mem (show p ∈ ps from h)
  rw [RT.sz]
  omega
theorem RT.sz_eq (r : RT) : r.sz = 1 + szL r.ps := by
  obtain ⟨k, a, b, ps⟩ := r
  rw [RT.sz]
  rfl
theorem RT.ind {Q : RT → Prop} (h : ∀ r, (∀ p ∈ r.ps, Q p) → Q r) (r : RT) : Q r := by
  generalize hn : r.sz = n
  induction n using Nat.strongRecOn generalizing r with
  | ind n ih => exact h r fun p hp => ih p.sz (by have := RT.sz_lt hp; omega) p rfl
theorem szL_append (a b : List RT) : szL (a ++ b) = szL a + szL b := by
  induction a with
  | nil => simp [szL]
  | cons x a ih => rw [List.cons_append, szL, szL, ih]; omega
theorem szL_take {l : List RT} {i : Nat} (hi : i < l.length) : szL (l.take (i + 1)) = szL (l.take i) + l[i].sz := by
  rw [List.take_succ_eq_append_getElem hi, szL_append]
  simp [szL]
mutual
def RT.Ok : RT → Prop | .mk k a b ps => (-9223372036854775808 ≤ k ∧ k ≤ 9223372036854775807) ∧ a.size ≤ 140737488351232 ∧ b.size ≤ 140737488351232 ∧ okL ps
def okL : List RT → Prop | [] => True | r :: rs => r.Ok ∧ okL rs
end
theorem okL_mem : ∀ {ps : List RT}, okL ps ↔ ∀ p ∈ ps, p.Ok
  | [] => by simp [okL]
  | r :: rs => by rw [okL, okL_mem]; simp
theorem RT.ok_iff (r : RT) : r.Ok ↔ (-9223372036854775808 ≤ r.k ∧ r.k ≤ 9223372036854775807) ∧ r.a.size ≤ 140737488351232 ∧ r.b.size ≤ 140737488351232 ∧ ∀ p ∈ r.ps, p.Ok := by
  obtain ⟨k, a, b, ps⟩ := r
  rw [RT.Ok, okL_mem]
  rfl
def rC (x : RT × Value) : List Value := [.int .i64 x.1.k, .string x.1.a, .string x.1.b, x.2]
theorem rC_length (x : RT × Value) : (rC x).length = 4 := rfl
mutual
def RTAt (S : Nat → Prop) (w : World) : RT → Value → Prop
  | .mk _ _ _ ps, v => ∃ l : List Value, RTsAt S w ps l ∧ Sl S w 4 v ((ps.zip l).flatMap rC)
def RTsAt (S : Nat → Prop) (w : World) : List RT → List Value → Prop
  | [], l => l = []
  | r :: rs, l => ∃ pv l', l = pv :: l' ∧ RTAt S w r pv ∧ RTsAt S w rs l'
end
theorem rtsAt_zip {S : Nat → Prop} {w : World} : ∀ {ps : List RT} {l : List Value}, RTsAt S w ps l → (ps.zip l).map (·.1) = ps ∧ ∀ x ∈ ps.zip l, RTAt S w x.1 x.2
  | [], l, h => by rw [RTsAt] at h; subst h; simp
  | r :: rs, l, h => by
    rw [RTsAt] at h
    obtain ⟨pv, l', rfl, h1, h2⟩ := h
    obtain ⟨h3, h4⟩ := rtsAt_zip h2
    refine ⟨by rw [List.zip_cons_cons, List.map_cons, h3], fun x hx => ?_⟩
    rw [List.zip_cons_cons] at hx
    rcases List.mem_cons.1 hx with rfl | hx
    · exact h1
    · exact h4 x hx
theorem rtsAt_of {S : Nat → Prop} {w : World} : ∀ {q : List (RT × Value)}, (∀ x ∈ q, RTAt S w x.1 x.2) → RTsAt S w (q.map (·.1)) (q.map (·.2))
  | [], _ => by rw [List.map_nil, List.map_nil, RTsAt]
  | x :: q, h => by
    rw [List.map_cons, List.map_cons, RTsAt]
    exact ⟨x.2, _, rfl, h x List.mem_cons_self, rtsAt_of fun y hy => h y (List.mem_cons_of_mem _ hy)⟩
theorem zip_maps {α β : Type} : ∀ (q : List (α × β)), (q.map (·.1)).zip (q.map (·.2)) = q
  | [] => rfl
  | x :: q => by rw [List.map_cons, List.map_cons, List.zip_cons_cons, zip_maps q]
theorem RTAt.iff {S : Nat → Prop} {w : World} (r : RT) (v : Value) : RTAt S w r v ↔ ∃ q : List (RT × Value), q.map (·.1) = r.ps ∧ (∀ x ∈ q, RTAt S w x.1 x.2) ∧ Sl S w 4 v (q.flatMap rC) := by
  obtain ⟨k, a, b, ps⟩ := r
  rw [RTAt]
  constructor
  · rintro ⟨l, h1, h2⟩
    exact ⟨_, (rtsAt_zip h1).1, (rtsAt_zip h1).2, h2⟩
  · rintro ⟨q, h1, h2, h3⟩
    refine ⟨q.map (·.2), ?_, ?_⟩
    · have := rtsAt_of h2
      rwa [h1] at this
    · rw [show ps = q.map (·.1) from h1.symm, zip_maps]
      exact h3
theorem RTAt.same {S : Nat → Prop} {w w' : World} {r : RT} {v : Value} (h : RTAt S w r v) (hs : Same S w w') : RTAt S w' r v := by
  induction r using RT.ind generalizing v with
  | h r ih =>
    obtain ⟨q, h1, h2, h3⟩ := (RTAt.iff r v).1 h
    exact (RTAt.iff r v).2 ⟨q, h1, fun x hx => ih x.1 (by rw [← h1]; exact List.mem_map_of_mem hx) (h2 x hx), h3.same hs⟩
theorem RTAt.mono {S S' : Nat → Prop} {w : World} {r : RT} {v : Value} (h : RTAt S w r v) (hs : ∀ b, S b → S' b) : RTAt S' w r v := by
  induction r using RT.ind generalizing v with
  | h r ih =>
    obtain ⟨q, h1, h2, h3⟩ := (RTAt.iff r v).1 h
    exact (RTAt.iff r v).2 ⟨q, h1, fun x hx => ih x.1 (by rw [← h1]; exact List.mem_map_of_mem hx) (h2 x hx), h3.mono hs⟩
theorem RTAt.up {w w' : World} {r : RT} {v : Value} (h : RTAt (· < w.heap.size) w r v) (hb : Below w.heap.size w w') : RTAt (· < w'.heap.size) w' r v :=
  (h.same (Same.below hb)).mono fun _ h => Nat.lt_of_lt_of_le h hb.size
theorem RTAt.rows {S : Nat → Prop} {w : World} {r : RT} {v : Value} (h : RTAt S w r v) :
    ∃ ao c, v = .slice ao r.ps.length c ∧ r.ps.length ≤ c ∧ c ≤ 9223372036854775807 ∧ ∀ i (hi : i < r.ps.length), ∃ b off pv, ao = some ⟨b, off, none⟩ ∧ S b ∧
      w.cell? ⟨b, off + i * 4, none⟩ = some (.int .i64 r.ps[i].k) ∧ w.cell? ⟨b, off + i * 4 + 1, none⟩ = some (.string r.ps[i].a) ∧ w.cell? ⟨b, off + i * 4 + 2, none⟩ = some (.string r.ps[i].b) ∧ w.cell? ⟨b, off + i * 4 + 3, none⟩ = some pv ∧ RTAt S w r.ps[i] pv := by
  obtain ⟨q, h1, h2, h3⟩ := (RTAt.iff r v).1 h
  have hlen : q.length = r.ps.length := by rw [← h1, List.length_map]
  obtain ⟨ao, c, rfl, h4, h5, hc⟩ := Sl.rows rC_length (by decide) h3
  refine ⟨ao, c, by rw [hlen], by omega, h5, fun i hi => ?_⟩
  have hiq : i < q.length := by omega
  obtain ⟨b, off, rfl, hb, hc⟩ := hc (by omega)
  have hget : r.ps[i] = q[i].1 := by simp only [← h1, List.getElem_map]
  rw [hget]
  exact ⟨b, off, q[i].2, rfl, hb, hc i hiq 0 _ rfl, hc i hiq 1 _ rfl, hc i hiq 2 _ rfl, hc i hiq 3 _ rfl, h2 _ (List.getElem_mem hiq)⟩
def rV (r : RT) (pv : Value) : Value := .agg #[.int .i64 r.k, .string r.a, .string r.b, pv]
structure TyS where
  name : ByteArray
  rels : List (ByteArray × RT)
instance : Inhabited TyS := ⟨⟨ByteArray.empty, []⟩⟩
def TyS.Ok (t : TyS) : Prop := t.name.size ≤ 140737488351232 ∧ ∀ r ∈ t.rels, r.1.size ≤ 140737488351232 ∧ r.2.Ok
def relC (x : (ByteArray × RT) × Value) : List Value := [.string x.1.1, .int .i64 x.1.2.k, .string x.1.2.a, .string x.1.2.b, x.2]
theorem relC_length (x : (ByteArray × RT) × Value) : (relC x).length = 5 := rfl
def RelsAt (S : Nat → Prop) (w : World) (l : List (ByteArray × RT)) (v : Value) : Prop := ∃ q : List ((ByteArray × RT) × Value), q.map (·.1) = l ∧ (∀ x ∈ q, RTAt S w x.1.2 x.2) ∧ Sl S w 5 v (q.flatMap relC)
def tyC (x : TyS × Value) : List Value := [.string x.1.name, x.2]
theorem tyC_length (x : TyS × Value) : (tyC x).length = 2 := rfl
def TysAt (S : Nat → Prop) (w : World) (l : List TyS) (v : Value) : Prop := ∃ q : List (TyS × Value), q.map (·.1) = l ∧ (∀ x ∈ q, RelsAt S w x.1.rels x.2) ∧ Sl S w 2 v (q.flatMap tyC)
section
variable {S S' : Nat → Prop} {w w' : World} {l : List (ByteArray × RT)} {ts : List TyS} {v : Value}
theorem RelsAt.same (h : RelsAt S w l v) (hs : Same S w w') : RelsAt S w' l v := by
  obtain ⟨q, h1, h2, h3⟩ := h
  exact ⟨q, h1, fun x hx => (h2 x hx).same hs, h3.same hs⟩
theorem RelsAt.mono (h : RelsAt S w l v) (hs : ∀ b, S b → S' b) : RelsAt S' w l v := by
  obtain ⟨q, h1, h2, h3⟩ := h
  exact ⟨q, h1, fun x hx => (h2 x hx).mono hs, h3.mono hs⟩
theorem RelsAt.up (h : RelsAt (· < w.heap.size) w l v) (hb : Below w.heap.size w w') : RelsAt (· < w'.heap.size) w' l v :=
  (h.same (Same.below hb)).mono fun _ h => Nat.lt_of_lt_of_le h hb.size
theorem TysAt.same (h : TysAt S w ts v) (hs : Same S w w') : TysAt S w' ts v := by
  obtain ⟨q, h1, h2, h3⟩ := h
  exact ⟨q, h1, fun x hx => (h2 x hx).same hs, h3.same hs⟩
theorem TysAt.mono (h : TysAt S w ts v) (hs : ∀ b, S b → S' b) : TysAt S' w ts v := by
  obtain ⟨q, h1, h2, h3⟩ := h
  exact ⟨q, h1, fun x hx => (h2 x hx).mono hs, h3.mono hs⟩
theorem TysAt.up (h : TysAt (· < w.heap.size) w ts v) (hb : Below w.heap.size w w') : TysAt (· < w'.heap.size) w' ts v :=
  (h.same (Same.below hb)).mono fun _ h => Nat.lt_of_lt_of_le h hb.size
theorem RelsAt.rows (h : RelsAt S w l v) :
    ∃ ao c, v = .slice ao l.length c ∧ l.length ≤ c ∧ c ≤ 9223372036854775807 ∧ ∀ i (hi : i < l.length), ∃ b off pv, ao = some ⟨b, off, none⟩ ∧ S b ∧ w.cell? ⟨b, off + i * 5, none⟩ = some (.string l[i].1) ∧
      w.cell? ⟨b, off + i * 5 + 1, none⟩ = some (.int .i64 l[i].2.k) ∧ w.cell? ⟨b, off + i * 5 + 2, none⟩ = some (.string l[i].2.a) ∧ w.cell? ⟨b, off + i * 5 + 3, none⟩ = some (.string l[i].2.b) ∧ w.cell? ⟨b, off + i * 5 + 4, none⟩ = some pv ∧ RTAt S w l[i].2 pv := by
  obtain ⟨q, h1, h2, h3⟩ := h
  have hlen : q.length = l.length := by rw [← h1, List.length_map]
  obtain ⟨ao, c, rfl, h4, h5, hc⟩ := Sl.rows relC_length (by decide) h3
  refine ⟨ao, c, by rw [hlen], by omega, h5, fun i hi => ?_⟩
  have hiq : i < q.length := by omega
  obtain ⟨b, off, rfl, hb, hc⟩ := hc (by omega)
  have hget : l[i] = q[i].1 := by simp only [← h1, List.getElem_map]
  rw [hget]
  exact ⟨b, off, q[i].2, rfl, hb, hc i hiq 0 _ rfl, hc i hiq 1 _ rfl, hc i hiq 2 _ rfl, hc i hiq 3 _ rfl, hc i hiq 4 _ rfl, h2 _ (List.getElem_mem hiq)⟩
theorem TysAt.rows (h : TysAt S w ts v) :
    ∃ ao c, v = .slice ao ts.length c ∧ ts.length ≤ c ∧ c ≤ 9223372036854775807 ∧ ∀ i (hi : i < ts.length), ∃ b off pv, ao = some ⟨b, off, none⟩ ∧ S b ∧ w.cell? ⟨b, off + i * 2, none⟩ = some (.string ts[i].name) ∧ w.cell? ⟨b, off + i * 2 + 1, none⟩ = some pv ∧ RelsAt S w ts[i].rels pv := by
  obtain ⟨q, h1, h2, h3⟩ := h
  have hlen : q.length = ts.length := by rw [← h1, List.length_map]
  obtain ⟨ao, c, rfl, h4, h5, hc⟩ := Sl.rows tyC_length (by decide) h3
  refine ⟨ao, c, by rw [hlen], by omega, h5, fun i hi => ?_⟩
  have hiq : i < q.length := by omega
  obtain ⟨b, off, rfl, hb, hc⟩ := hc (by omega)
  have hget : ts[i] = q[i].1 := by simp only [← h1, List.getElem_map]
  rw [hget]
  exact ⟨b, off, q[i].2, rfl, hb, hc i hiq 0 _ rfl, hc i hiq 1 _ rfl, h2 _ (List.getElem_mem hiq)⟩
end
end Go.Proofs.YtjdigpfipmckhaaGreat
