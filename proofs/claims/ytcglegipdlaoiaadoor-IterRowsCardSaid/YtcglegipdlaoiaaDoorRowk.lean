/- Slices whose elements take several cells each. No condition: lemmas. -/
import Derived.Test.YtcglegipdlaoiaaDoorGround
import Derived.Sort.Grow
import Derived.Deep.Draws
import Derived.Test.YtcglegipdlaoiaaDoorMaps
namespace Go.Proofs.YtcglegipdlaoiaaDoor
open Go Go.RowKit

theorem flat_length {α : Type} {enc : α → List Value} {sz : Nat} (hk : ∀ a, (enc a).length = sz) : ∀ l : List α, (l.flatMap enc).length = l.length * sz
  | [] => by simp
  | a :: l => by rw [List.flatMap_cons, List.length_append, flat_length hk l, hk, List.length_cons, Nat.add_mul, Nat.one_mul, Nat.add_comm]
theorem flat_get {α : Type} {enc : α → List Value} {sz : Nat} (hk : ∀ a, (enc a).length = sz) : ∀ (l : List α) (i : Nat) (h : i < l.length) (j : Nat), j < sz → (l.flatMap enc)[i * sz + j]? = (enc l[i])[j]?
  | a :: l, 0, _, j, hj => by rw [List.flatMap_cons, Nat.zero_mul, Nat.zero_add, List.getElem?_append_left (by rw [hk]; exact hj)]; rfl
  | a :: l, i + 1, h, j, hj => by
    rw [List.flatMap_cons, List.getElem?_append_right (by rw [hk, Nat.add_mul]; omega), hk, show (i + 1) * sz + j - sz = i * sz + j from by rw [Nat.add_mul]; omega]
    exact flat_get hk l i (by simpa using h) j hj

theorem Sl.rows {α : Type} {enc : α → List Value} {sz : Nat} (hk : ∀ a, (enc a).length = sz) (hpos : 0 < sz) {S : Nat → Prop} {w : World} {v : Value} {l : List α} (h : Sl S w sz v (l.flatMap enc)) :
    ∃ ao c, v = .slice ao l.length c ∧ l.length ≤ c ∧ c ≤ 9223372036854775807 ∧
      (0 < l.length → ∃ b off, ao = some ⟨b, off, none⟩ ∧ S b ∧ ∀ i (hi : i < l.length) (j : Nat) u, (enc l[i])[j]? = some u → w.cell? ⟨b, off + i * sz + j, none⟩ = some u) := by
  obtain ⟨ao, n, c, rfl, h1, h2, h3, h4, h5⟩ := h
  rw [flat_length hk] at h1
  obtain rfl : l.length = n := Nat.eq_of_mul_eq_mul_right hpos h1
  refine ⟨ao, c, rfl, h2, by unfold maxLen at h3; omega, fun hl => ?_⟩
  obtain ⟨b, off, rfl, hb, hc⟩ := h5 (fun e => by
    have := congrArg List.length e
    rw [flat_length hk, List.length_nil] at this
    have := Nat.mul_pos hl hpos
    omega)
  refine ⟨b, off, rfl, hb, fun i hi j u hu => ?_⟩
  rw [Nat.add_assoc]
  refine hc (i * sz + j) u ?_
  rw [flat_get hk l i hi j (by rw [← hk l[i]]; exact (List.getElem?_eq_some_iff.1 hu).1)]
  exact hu

theorem upto_succ {n i : Nat} {p : (j : Nat) → j < n → Prop} (h : ∀ j (hj : j < n), j < i → p j hj) (hi : i < n) (hp : p i hi) : ∀ j (hj : j < n), j < i + 1 → p j hj :=
  fun j hj hl => (Nat.lt_succ_iff_lt_or_eq.1 hl).elim (fun e => h j hj e) (fun e => by subst e; exact hp)

theorem ba_beq' {a b : ByteArray} (h : a ≠ b) : (a.data.toList == b.data.toList) = false := by
  rw [beq_eq_false_iff_ne]
  exact fun e => h (ByteArray.ext (by rw [← Array.toList_inj]; exact e))

/-- It returns v; nothing that was there has turned. -/
def Ret (v : Value) (w : World) (e : Ending) (w' : World) : Prop := e = .returned v ∧ Below w.heap.size w w'
/-- The world has drawn and has new blocks, no more. -/
def Gr (w w' : World) : Prop := ∃ q os, w' = Sort.grow (w.drewN q) os
theorem Gr.refl (w : World) : Gr w w := ⟨0, #[], by simp [Sort.grow, World.drewN]⟩
theorem Gr.alloc {w w' : World} (h : Gr w w') (o : Obj) : Gr w (w'.alloc o) := by
  obtain ⟨q, os, rfl⟩ := h
  exact ⟨q, os ++ #[o], by rw [Sort.alloc_eq_grow, Sort.grow_grow]⟩
theorem Gr.drew {w w' : World} (h : Gr w w') : Gr w w'.drew := by
  obtain ⟨q, os, rfl⟩ := h
  exact ⟨q + 1, os, rfl⟩
theorem Gr.below {w w' : World} (h : Gr w w') : Below w.heap.size w w' := by
  obtain ⟨q, os, rfl⟩ := h
  exact ⟨rfl, rfl, rfl, by simp [Sort.grow, World.drewN], fun k hk => by simp [Sort.grow, World.drewN, Array.getElem?_append, hk]⟩
theorem below_step {a b c : World} (h : Below a.heap.size a b) (k : Below b.heap.size b c) : Below a.heap.size a c := h.trans (k.mono h.size)
theorem Sl.up {w w' : World} {sz : Nat} {v : Value} {xs : List Value} (h : Sl (· < w.heap.size) w sz v xs) (hb : Below w.heap.size w w') : Sl (· < w'.heap.size) w' sz v xs :=
  (h.same (Same.below hb)).mono fun _ hx => Nat.lt_of_lt_of_le hx hb.size

end Go.Proofs.YtcglegipdlaoiaaDoor

namespace Go.Proofs.YtcglegipdlaoiaaDoor
open Go Go.RowKit

theorem Sl.dropK {S : Nat → Prop} {w : World} {ao : Option Addr} {n c sz : Nat} {xs : List Value} (h : Sl S w sz (.slice ao n c) xs) (k : Nat) (hk : k ≤ n) :
    Sl S w sz (.slice (Option.map (fun x => x.add (k * sz)) ao) (n - k) (c - k)) (xs.drop (k * sz)) := by
  obtain ⟨ao', n', c', hv, h1, h2, h3, h4, h5⟩ := h
  cases hv
  refine ⟨_, n - k, c - k, rfl, by rw [List.length_drop, h1, Nat.sub_mul], by omega, by omega, fun h => ?_, fun hne => ?_⟩
  · have := h4 (by simpa using h); omega
  · obtain ⟨b, off, rfl, hb, hc⟩ := h5 (fun e => hne (by simp [e]))
    refine ⟨b, off + k * sz, by simp [Addr.add_lit], hb, fun j u hu => ?_⟩
    rw [List.getElem?_drop] at hu
    rw [Nat.add_assoc]
    exact hc _ u hu

/-- A slice's tail: whatever the walk writes for its address where the cut stands at the capacity's end. -/
theorem Sl.tailK {S : Nat → Prop} {w : World} {ao ao' : Option Addr} {n c sz : Nat} {xs : List Value} (h : Sl S w sz (.slice ao n c) xs) (lo : Nat) (h1 : lo ≤ n) (hao : ¬ c = lo → ao' = Option.map (fun x => x.add (lo * sz)) ao) :
    Sl S w sz (.slice ao' (n - lo) (c - lo)) (xs.drop (lo * sz)) := by
  obtain ⟨_, _, _, hv, hl, hnc, _⟩ := h.len
  cases hv
  by_cases hc : c = lo
  · have e1 : n - lo = 0 := by omega
    have e2 : c - lo = 0 := by omega
    have e3 : xs.drop (lo * sz) = [] := List.drop_eq_nil_of_le (by rw [hl]; exact Nat.mul_le_mul_right sz (by omega))
    rw [e1, e2, e3]
    exact ⟨ao', 0, 0, rfl, by simp, Nat.le_refl _, Nat.zero_le _, fun _ => rfl, fun h => absurd rfl h⟩
  · rw [hao hc]
    exact h.dropK lo h1

theorem Own.base {w : World} {B B' : Nat} {e : TypeId} {sz : Nat} {v : Value} {xs : List Value} (h : Own w B e sz v xs) (hB : B' ≤ B) : Own w B' e sz v xs := by
  obtain ⟨n, h1, h2⟩ := h
  refine ⟨n, h1, ?_⟩
  rcases h2 with h2 | ⟨g, cap, cur, hv, hg, r⟩
  · exact .inl h2
  · exact .inr ⟨g, cap, cur, hv, Nat.le_trans hB hg, r⟩
theorem Own.shape {w : World} {B : Nat} {e : TypeId} {sz : Nat} {v : Value} {xs : List Value} (h : Own w B e sz v xs) : (v = .slice none 0 0 ∧ xs = []) ∨ ∃ g n c, v = .slice (some ⟨g, 0, none⟩) n c := by
  obtain ⟨n, h1, h2⟩ := h
  rcases h2 with ⟨rfl, h2⟩ | ⟨g, cap, cur, hv, _⟩
  · left
    refine ⟨rfl, List.eq_nil_of_length_eq_zero ?_⟩
    rw [h1, h2, Nat.zero_mul]
  · exact .inr ⟨g, n, cap, hv⟩
theorem Own.slU {w : World} {B : Nat} {e : TypeId} {sz : Nat} {v : Value} {xs : List Value} (h : Own w B e sz v xs) : Sl (· < w.heap.size) w sz v xs := h.sl.mono fun _ h => h.2

/-- The law of append to a row of the call's own, in the walk. -/
theorem wpList_own {P : Program} {w : World} {ops : Array Oper} {rest : List Oper} {o : Oper} {a : Act} {Q : Exit → Act → World → Prop} {t e : TypeId} {size bytes : Nat} (E : ElemT P t e size bytes)
    (hg : o.guard = none) (s x : Operand) (hop : o.op = Op.call { callee := Callee.builtin Builtin.append, args := #[s, x], argTypes := #[t, t] })
    {B : Nat} {v : Value} {xs : List Value} (hs : a.eval s = v) (hown : Own w B e size v xs) {T : Nat → Prop} {y : Value} {news : List Value} (hx : a.eval x = y) (hy : Sl T w size y news) (h1 : ∀ u ∈ news, u.oneCell' = true)
    (hlen : xs.length + news.length ≤ 9223372036854775807) (hbytes : (xs.length + news.length) * bytes ≤ 140737488355328) (hB : B ≤ w.heap.size)
    (K : ∀ v' w', Own w' B e size v' (xs ++ news) → Below B w w' → w.grownBy w' v.ownBlock → wpList P ops Q rest (a.put o.dst v') w') : wpList P ops Q (o :: rest) a w :=
  wpList_plain hg fun _ hK' => wp_own E s x hop hs hown hx hy h1 hlen hbytes hB fun v' w' h h' h'' => hK' _ _ (K v' w' h h' h'')

end Go.Proofs.YtcglegipdlaoiaaDoor

namespace Go.Proofs.YtcglegipdlaoiaaDoor
open Go Go.RowKit

section
variable {w w' : World} {B B' p : Nat} {e e' : TypeId} {sz sz' : Nat} {v v' : Value} {xs xs' : List Value} {cs : Array Value}
theorem Own.typed (h : Own w B e sz v xs) {g : Nat} (hg : v.ownBlock = some g) : ∃ cur, w.heap[g]? = some (.cells cur e (0, 0)) := by
  obtain ⟨n, _, h2⟩ := h
  rcases h2 with ⟨rfl, _⟩ | ⟨g', cap, cur, rfl, _, hh, _⟩
  · cases hg
  · obtain rfl : g' = g := Option.some.inj hg
    exact ⟨cur, hh⟩
theorem Own.keepOwn (h : Own w B e sz v xs) (hs : ∀ g, v.ownBlock = some g → w'.heap[g]? = w.heap[g]?) : Own w' B e sz v xs := by
  obtain ⟨n, h1, h2⟩ := h
  refine ⟨n, h1, ?_⟩
  rcases h2 with h2 | ⟨g, cap, cur, rfl, hb, hh, r⟩
  · exact .inl h2
  · exact .inr ⟨g, cap, cur, rfl, hb, (hs g rfl).trans hh, r⟩
theorem Own.aside (h : Own w B e sz v xs) (k : Own w B' e' sz' v' xs') (hne : e ≠ e') (hg : w.grownBy w' v'.ownBlock) : Own w' B e sz v xs :=
  h.keepOwn fun g hv => hg.block g (h.block g hv).2 fun hv' => by
    obtain ⟨c1, h1⟩ := h.typed hv
    obtain ⟨c2, h2⟩ := k.typed hv'.symm
    rw [h1] at h2
    exact hne (by injection Option.some.inj h2)
theorem Blk.aside (h : Blk w p cs e) (k : Own w B' e' sz' v' xs') (hne : e ≠ e') (hg : w.grownBy w' v'.ownBlock) : Blk w' p cs e :=
  (hg.block p h.lt fun hv' => by
    obtain ⟨c2, h2⟩ := k.typed hv'.symm
    have h1 : w.heap[p]? = some (.cells cs e (0, 0)) := h
    rw [h1] at h2
    exact hne (by injection Option.some.inj h2)).trans h

theorem blk_set6 {a0 a1 a2 a3 a4 a5 b0 b1 b2 b3 b4 b5 : Value} (h : Blk w p #[a0, a1, a2, a3, a4, a5] e) :
    Blk ((((((w.setCell ⟨p, 0, none⟩ b0).setCell ⟨p, 1, none⟩ b1).setCell ⟨p, 2, none⟩ b2).setCell ⟨p, 3, none⟩ b3).setCell ⟨p, 4, none⟩ b4).setCell ⟨p, 5, none⟩ b5) p #[b0, b1, b2, b3, b4, b5] e :=
  (((((h.set 0 b0).set 1 b1).set 2 b2).set 3 b3).set 4 b4).set 5 b5
theorem own_set6 {b0 b1 b2 b3 b4 b5 : Value} (h : Own w B e sz v xs) (hp : Blk w p cs e') (hne : e ≠ e') :
    Own ((((((w.setCell ⟨p, 0, none⟩ b0).setCell ⟨p, 1, none⟩ b1).setCell ⟨p, 2, none⟩ b2).setCell ⟨p, 3, none⟩ b3).setCell ⟨p, 4, none⟩ b4).setCell ⟨p, 5, none⟩ b5) B e sz v xs :=
  h.keepOwn fun g hv => by
    have hgp : g ≠ p := by
      rintro rfl
      obtain ⟨c1, h1⟩ := h.typed hv
      have h2 : w.heap[g]? = some (.cells cs e' (0, 0)) := hp
      rw [h1] at h2
      exact hne (by injection Option.some.inj h2)
    rw [Below.heap_setCell _ _ _ g hgp, Below.heap_setCell _ _ _ g hgp, Below.heap_setCell _ _ _ g hgp, Below.heap_setCell _ _ _ g hgp, Below.heap_setCell _ _ _ g hgp, Below.heap_setCell _ _ _ g hgp]
theorem below_set6 {w0 : World} {b0 b1 b2 b3 b4 b5 : Value} (h : Below B w0 w) (hp : B ≤ p) :
    Below B w0 ((((((w.setCell ⟨p, 0, none⟩ b0).setCell ⟨p, 1, none⟩ b1).setCell ⟨p, 2, none⟩ b2).setCell ⟨p, 3, none⟩ b3).setCell ⟨p, 4, none⟩ b4).setCell ⟨p, 5, none⟩ b5) :=
  setUp (setUp (setUp (setUp (setUp (setUp h hp _) hp _) hp _) hp _) hp _) hp _
end

section
variable {P : Program} {ops : Array Oper} {Q : Exit → Act → World → Prop} {S : World → Prop}
theorem WalkN.three {f : Nat} {l : Array Bool} {a : Act} {w : World} (i j m : Nat) (hr : Region.ready .any ops l = [i, j, m]) (h : MadeN P ops Q S f l a w i) (h' : MadeN P ops Q S f l a w j) (h'' : MadeN P ops Q S f l a w m) : WalkN P ops Q S (f + 1) l a w := by
  refine .inr (.inr ⟨by rw [hr]; simp, fun k hk => ?_⟩)
  rw [hr] at hk
  have : k = i ∨ k = j ∨ k = m := by simpa using hk
  rcases this with rfl | rfl | rfl
  · obtain ⟨o, ho, hw, h⟩ := h
    exact ⟨o, ho, fun K hK => by rw [if_pos hw]; exact h K hK⟩
  · obtain ⟨o, ho, hw, h⟩ := h'
    exact ⟨o, ho, fun K hK => by rw [if_pos hw]; exact h K hK⟩
  · obtain ⟨o, ho, hw, h⟩ := h''
    exact ⟨o, ho, fun K hK => by rw [if_pos hw]; exact h K hK⟩
end

end Go.Proofs.YtcglegipdlaoiaaDoor
