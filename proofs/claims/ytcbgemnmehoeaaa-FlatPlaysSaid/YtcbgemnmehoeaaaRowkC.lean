/- Rows of the call's own beside one another: blocks of different element types are different blocks. No condition: lemmas. -/
import Derived.Test.YtcbgemnmehoeaaaRowkB
import Derived.Test.YtcbgemnmehoeaaaMapB
import Derived.Test.YtcbgemnmehoeaaaBlk
import Derived.Test.YtcbgemnmehoeaaaRegionN
namespace Go.Proofs.Ytcbgemnmehoeaaa
open Go Go.RowKit

section
variable {w w' : World} {B B' p : Nat} {e e' : TypeId} {sz sz' : Nat} {v v' : Value} {xs xs' : List Value} {cs : Array Value}
theorem Own.typed (h : Own w B e sz v xs) {g : Nat} (hg : v.ownBlock = some g) : ∃ cur, w.heap[g]? = some (.cells cur e (0, 0)) := by
  obtain ⟨n, _, h2⟩ := h
  rcases h2 with ⟨rfl, _⟩ | ⟨g', cap, cur, rfl, _, hh, _⟩
  · cases hg
  · obtain rfl : g' = g := Option.some.inj hg
    exact ⟨cur, hh⟩
theorem Own.keepOwn (h : Own w B e sz v xs) (hs : ∀ g, v.ownBlock = some g → w'.heap[g]? = w.heap[g]?) : Own w' B e sz v xs := by
  obtain ⟨n, h1, h2⟩ := h
  refine ⟨n, h1, ?_⟩
  rcases h2 with h2 | ⟨g, cap, cur, rfl, hb, hh, r⟩
  · exact .inl h2
  · exact .inr ⟨g, cap, cur, rfl, hb, (hs g rfl).trans hh, r⟩
theorem Own.aside (h : Own w B e sz v xs) (k : Own w B' e' sz' v' xs') (hne : e ≠ e') (hg : w.grownBy w' v'.ownBlock) : Own w' B e sz v xs :=
  h.keepOwn fun g hv => hg.block g (h.block g hv).2 fun hv' => by
    obtain ⟨c1, h1⟩ := h.typed hv
    obtain ⟨c2, h2⟩ := k.typed hv'.symm
    rw [h1] at h2
    exact hne (by injection Option.some.inj h2)
theorem Blk.aside (h : Blk w p cs e) (k : Own w B' e' sz' v' xs') (hne : e ≠ e') (hg : w.grownBy w' v'.ownBlock) : Blk w' p cs e :=
  (hg.block p h.lt fun hv' => by
    obtain ⟨c2, h2⟩ := k.typed hv'.symm
    have h1 : w.heap[p]? = some (.cells cs e (0, 0)) := h
    rw [h1] at h2
    exact hne (by injection Option.some.inj h2)).trans h

theorem blk_set6 {a0 a1 a2 a3 a4 a5 b0 b1 b2 b3 b4 b5 : Value} (h : Blk w p #[a0, a1, a2, a3, a4, a5] e) :
    Blk ((((((w.setCell ⟨p, 0, none⟩ b0).setCell ⟨p, 1, none⟩ b1).setCell ⟨p, 2, none⟩ b2).setCell ⟨p, 3, none⟩ b3).setCell ⟨p, 4, none⟩ b4).setCell ⟨p, 5, none⟩ b5) p #[b0, b1, b2, b3, b4, b5] e :=
  (((((h.set 0 b0).set 1 b1).set 2 b2).set 3 b3).set 4 b4).set 5 b5
theorem own_set6 {b0 b1 b2 b3 b4 b5 : Value} (h : Own w B e sz v xs) (hp : Blk w p cs e') (hne : e ≠ e') :
    Own ((((((w.setCell ⟨p, 0, none⟩ b0).setCell ⟨p, 1, none⟩ b1).setCell ⟨p, 2, none⟩ b2).setCell ⟨p, 3, none⟩ b3).setCell ⟨p, 4, none⟩ b4).setCell ⟨p, 5, none⟩ b5) B e sz v xs :=
  h.keepOwn fun g hv => by
    have hgp : g ≠ p := by
      rintro rfl
      obtain ⟨c1, h1⟩ := h.typed hv
      have h2 : w.heap[g]? = some (.cells cs e' (0, 0)) := hp
      rw [h1] at h2
      exact hne (by injection Option.some.inj h2)
    rw [Below.heap_setCell _ _ _ g hgp, Below.heap_setCell _ _ _ g hgp, Below.heap_setCell _ _ _ g hgp, Below.heap_setCell _ _ _ g hgp, Below.heap_setCell _ _ _ g hgp, Below.heap_setCell _ _ _ g hgp]
theorem below_set6 {w0 : World} {b0 b1 b2 b3 b4 b5 : Value} (h : Below B w0 w) (hp : B ≤ p) :
    Below B w0 ((((((w.setCell ⟨p, 0, none⟩ b0).setCell ⟨p, 1, none⟩ b1).setCell ⟨p, 2, none⟩ b2).setCell ⟨p, 3, none⟩ b3).setCell ⟨p, 4, none⟩ b4).setCell ⟨p, 5, none⟩ b5) :=
  setUp (setUp (setUp (setUp (setUp (setUp h hp _) hp _) hp _) hp _) hp _) hp _
end

section
variable {P : Program} {ops : Array Oper} {Q : Exit → Act → World → Prop} {S : World → Prop}
theorem WalkN.three {f : Nat} {l : Array Bool} {a : Act} {w : World} (i j m : Nat) (hr : Region.ready .any ops l = [i, j, m]) (h : MadeN P ops Q S f l a w i) (h' : MadeN P ops Q S f l a w j) (h'' : MadeN P ops Q S f l a w m) : WalkN P ops Q S (f + 1) l a w := by
  refine .inr (.inr ⟨by rw [hr]; simp, fun k hk => ?_⟩)
  rw [hr] at hk
  have : k = i ∨ k = j ∨ k = m := by simpa using hk
  rcases this with rfl | rfl | rfl
  · obtain ⟨o, ho, hw, h⟩ := h
    exact ⟨o, ho, fun K hK => by rw [if_pos hw]; exact h K hK⟩
  · obtain ⟨o, ho, hw, h⟩ := h'
    exact ⟨o, ho, fun K hK => by rw [if_pos hw]; exact h K hK⟩
  · obtain ⟨o, ho, hw, h⟩ := h''
    exact ⟨o, ho, fun K hK => by rw [if_pos hw]; exact h K hK⟩
end

end Go.Proofs.Ytcbgemnmehoeaaa
