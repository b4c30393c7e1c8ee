/- The order of points; the walk of flat.order. No condition: lemmas. -/
import Derived.Test.YtcbgemnmehoeaaaText
import Derived.Test.YtcbgemnmehoeaaaFlatP
import Derived.Test.YtcbgemnmehoeaaaRegionN
namespace Go.Proofs.Ytcbgemnmehoeaaa
open Go Go.RowKit

/-- A point as cells, and as a value. -/
def pC (p : P3) : List Value := [.string p.t, .string p.i, .string p.r]
def pV (p : P3) : Value := .agg #[.string p.t, .string p.i, .string p.r]
theorem pC_length (p : P3) : (pC p).length = 3 := rfl
theorem pC_one (p : P3) : ∀ u ∈ pC p, u.oneCell' = true := by
  intro u hu
  simp only [pC, List.mem_cons, List.not_mem_nil, or_false] at hu
  rcases hu with rfl | rfl | rfl <;> rfl
/-- Points as cells. -/
def pcs (l : List P3) : List Value := l.flatMap pC
/-- The order of points: type, id, relation. -/
def ordP (a b : P3) : Int := orL [cmpS a.t b.t, cmpS a.i b.i, cmpS a.r b.r]

set_option maxRecDepth 100000 in
set_option maxHeartbeats 1600000 in
theorem order_any (a b : P3) (w : World) : Calls Try.prog 30 #[pV a, pV b] w (fun e w' => e = .returned (.int .i64 (ordP a b)) ∧ Gr w w') := by
  obtain ⟨at_, ai, ar⟩ := a
  obtain ⟨bt, bi, br⟩ := b
  unfold pV
  dsimp only
  have hA := (Blk.made w #[.string at_, .string ai, .string ar] 37).alloc (.cells #[.string bt, .string bi, .string br] 37)
  have hB := Blk.made' (w := w.alloc (.cells #[.string at_, .string ai, .string ar] 37)) (B := w.heap.size + 1) (by simp) #[.string bt, .string bi, .string br] 37
  have hb0 : Gr w ((w.alloc (.cells #[.string at_, .string ai, .string ar] 37)).alloc (.cells #[.string bt, .string bi, .string br] 37)) := ((Gr.refl _).alloc _).alloc _
  go_enter Try.func30, Try.ntmps30
  go_wp2_with fail
  obtain ⟨wd, hwd⟩ : ∃ wd, wd = ((w.alloc (.cells #[.string at_, .string ai, .string ar] 37)).alloc (.cells #[.string bt, .string bi, .string br] 37)).drew := ⟨_, rfl⟩
  have hAd := hA.drew
  have hBd := hB.drew
  have hbd := hb0.drew
  rw [← hwd] at hAd hBd hbd
  refine region_walkN (Ext wd) (by rw [← hwd]; exact Ext.refl _) (by kernel_rfl) (by kernel_rfl) (fun _ _ d _ _ h => by cases d <;> exact h) ?_
  rw [← hwd]
  clear hwd hA hB hb0
  have h1 : ∀ W, Ext wd W → ∀ i, W.cell? ⟨w.heap.size, i, none⟩ = (#[.string at_, .string ai, .string ar] : Array Value)[i]? := fun W h => (hAd.below h).cells
  have h2 : ∀ W, Ext wd W → ∀ i, W.cell? ⟨w.heap.size + 1, i, none⟩ = (#[.string bt, .string bi, .string br] : Array Value)[i]? := fun W h => (hBd.below h).cells
  ((refine WalkN.take 0 _ ?_ (by simp only [List.getElem?_toArray, List.getElem?_cons_zero]; rfl) (by kernel_rfl) (by kernel_rfl) (by rfl) (fun W hW => ?_) ?_; rotate_left; · (go_simp; try with_reducible rfl)); simp only [Act.put, List.setIfInBounds_toArray, List.set_cons_zero, List.set_cons_succ]); ((refine WalkN.take 1 _ ?_ (by simp only [List.getElem?_toArray, List.getElem?_cons_succ, List.getElem?_cons_zero]; rfl) (by kernel_rfl) (by kernel_rfl) (by rfl) (fun W hW => ?_) ?_; rotate_left; · (go_simp; try with_reducible rfl)); simp only [Act.put, List.setIfInBounds_toArray, List.set_cons_zero, List.set_cons_succ]); ((refine WalkN.take 2 _ ?_ (by simp only [List.getElem?_toArray, List.getElem?_cons_succ, List.getElem?_cons_zero]; rfl) (by kernel_rfl) (by kernel_rfl) (by rfl) (fun W hW => ?_) ?_; rotate_left; · (go_simp; try with_reducible rfl)); simp only [Act.put, List.setIfInBounds_toArray, List.set_cons_zero, List.set_cons_succ]); ((refine WalkN.take 3 _ ?_ (by simp only [List.getElem?_toArray, List.getElem?_cons_succ, List.getElem?_cons_zero]; rfl) (by kernel_rfl) (by kernel_rfl) (by rfl) (fun W hW => ?_) ?_; rotate_left; · (go_simp; try with_reducible rfl)); simp only [Act.put, List.setIfInBounds_toArray, List.set_cons_zero, List.set_cons_succ]); ((refine WalkN.take 4 _ ?_ (by simp only [List.getElem?_toArray, List.getElem?_cons_succ, List.getElem?_cons_zero]; rfl) (by kernel_rfl) (by kernel_rfl) (by rfl) (fun W hW => ?_) ?_; rotate_left; · (go_simp; try with_reducible rfl)); simp only [Act.put, List.setIfInBounds_toArray, List.set_cons_zero, List.set_cons_succ]); ((refine WalkN.take 5 _ ?_ (by simp only [List.getElem?_toArray, List.getElem?_cons_succ, List.getElem?_cons_zero]; rfl) (by kernel_rfl) (by kernel_rfl) (by rfl) (fun W hW => ?_) ?_; rotate_left; · (go_simp; try with_reducible rfl)); simp only [Act.put, List.setIfInBounds_toArray, List.set_cons_zero, List.set_cons_succ]); ((refine WalkN.take 7 _ ?_ (by simp only [List.getElem?_toArray, List.getElem?_cons_succ, List.getElem?_cons_zero]; rfl) (by kernel_rfl) (by kernel_rfl) (by rfl) (fun W hW => ?_) ?_; rotate_left; · (go_simp; try with_reducible rfl)); simp only [Act.put, List.setIfInBounds_toArray, List.set_cons_zero, List.set_cons_succ]); ((refine WalkN.take 8 _ ?_ (by simp only [List.getElem?_toArray, List.getElem?_cons_succ, List.getElem?_cons_zero]; rfl) (by kernel_rfl) (by kernel_rfl) (by rfl) (fun W hW => ?_) ?_; rotate_left; · (go_simp; try with_reducible rfl)); simp only [Act.put, List.setIfInBounds_toArray, List.set_cons_zero, List.set_cons_succ]); ((refine WalkN.take 9 _ ?_ (by simp only [List.getElem?_toArray, List.getElem?_cons_succ, List.getElem?_cons_zero]; rfl) (by kernel_rfl) (by kernel_rfl) (by rfl) (fun W hW => ?_) ?_; rotate_left; · (go_simp; try with_reducible rfl)); simp only [Act.put, List.setIfInBounds_toArray, List.set_cons_zero, List.set_cons_succ]); ((refine WalkN.take 10 _ ?_ (by simp only [List.getElem?_toArray, List.getElem?_cons_succ, List.getElem?_cons_zero]; rfl) (by kernel_rfl) (by kernel_rfl) (by rfl) (fun W hW => ?_) ?_; rotate_left; · (go_simp; try with_reducible rfl)); simp only [Act.put, List.setIfInBounds_toArray, List.set_cons_zero, List.set_cons_succ]); ((refine WalkN.take 11 _ ?_ (by simp only [List.getElem?_toArray, List.getElem?_cons_succ, List.getElem?_cons_zero]; rfl) (by kernel_rfl) (by kernel_rfl) (by rfl) (fun W hW => ?_) ?_; rotate_left; · (go_simp; try with_reducible rfl)); simp only [Act.put, List.setIfInBounds_toArray, List.set_cons_zero, List.set_cons_succ]); ((refine WalkN.take 12 _ ?_ (by simp only [List.getElem?_toArray, List.getElem?_cons_succ, List.getElem?_cons_zero]; rfl) (by kernel_rfl) (by kernel_rfl) (by rfl) (fun W hW => ?_) ?_; rotate_left; · (go_simp; try with_reducible rfl)); simp only [Act.put, List.setIfInBounds_toArray, List.set_cons_zero, List.set_cons_succ]); ((refine WalkN.take 14 _ ?_ (by simp only [List.getElem?_toArray, List.getElem?_cons_succ, List.getElem?_cons_zero]; rfl) (by kernel_rfl) (by kernel_rfl) (by rfl) (fun W hW => ?_) ?_; rotate_left; · (go_simp; try with_reducible rfl)); simp only [Act.put, List.setIfInBounds_toArray, List.set_cons_zero, List.set_cons_succ]); ((refine WalkN.take 15 _ ?_ (by simp only [List.getElem?_toArray, List.getElem?_cons_succ, List.getElem?_cons_zero]; rfl) (by kernel_rfl) (by kernel_rfl) (by rfl) (fun W hW => ?_) ?_; rotate_left; · (go_simp; try with_reducible rfl)); simp only [Act.put, List.setIfInBounds_toArray, List.set_cons_zero, List.set_cons_succ]); ((refine WalkN.take 16 _ ?_ (by simp only [List.getElem?_toArray, List.getElem?_cons_succ, List.getElem?_cons_zero]; rfl) (by kernel_rfl) (by kernel_rfl) (by rfl) (fun W hW => ?_) ?_; rotate_left; · (go_simp; try with_reducible rfl)); simp only [Act.put, List.setIfInBounds_toArray, List.set_cons_zero, List.set_cons_succ]); ((refine WalkN.take 17 _ ?_ (by simp only [List.getElem?_toArray, List.getElem?_cons_succ, List.getElem?_cons_zero]; rfl) (by kernel_rfl) (by kernel_rfl) (by rfl) (fun W hW => ?_) ?_; rotate_left; · (go_simp; try with_reducible rfl)); simp only [Act.put, List.setIfInBounds_toArray, List.set_cons_zero, List.set_cons_succ])
  clear h1 h2
  have HP1 := Lib.hid (cmpS_any at_ bt wd)
  refine WalkN.one 6 (by kernel_rfl) ?_
  refine ⟨_, (by simp only [List.getElem?_toArray, List.getElem?_cons_succ, List.getElem?_cons_zero]; rfl), by rfl, fun K hK => ?_⟩
  go_simp
  refine HP1.out.mono ?_
  rintro e w1 ⟨rfl, rfl⟩
  refine hK.out _ _ (Ext.refl _) ?_
  clear hK HP1
  have HP2 := Lib.hid (cmpS_any ai bi wd)
  refine WalkN.one 13 (by kernel_rfl) ?_
  refine ⟨_, (by simp only [List.getElem?_toArray, List.getElem?_cons_succ, List.getElem?_cons_zero]; rfl), by rfl, fun K hK => ?_⟩
  go_simp
  refine HP2.out.mono ?_
  rintro e w1 ⟨rfl, rfl⟩
  refine hK.out _ _ (Ext.refl _) ?_
  clear hK HP2
  have HP3 := Lib.hid (cmpS_any ar br wd)
  refine WalkN.one 18 (by kernel_rfl) ?_
  refine ⟨_, (by simp only [List.getElem?_toArray, List.getElem?_cons_succ, List.getElem?_cons_zero]; rfl), by rfl, fun K hK => ?_⟩
  go_simp
  refine HP3.out.mono ?_
  rintro e w1 ⟨rfl, rfl⟩
  refine hK.out _ _ (Ext.refl _) ?_
  clear hK HP3
  refine WalkN.one 19 (by kernel_rfl) ?_
  refine ⟨_, (by simp only [List.getElem?_toArray, List.getElem?_cons_succ, List.getElem?_cons_zero]; rfl), by rfl, fun K hK => ?_⟩
  go_simp
  have hE : Ext wd (wd.alloc (.cells #[.int .i64 (cmpS at_ bt), .int .i64 (cmpS ai bi), .int .i64 (cmpS ar br)] 3)) := Ext.alloc _ _
  have hl : Sl (fun b => b = wd.heap.size) (wd.alloc (.cells #[.int .i64 (cmpS at_ bt), .int .i64 (cmpS ai bi), .int .i64 (cmpS ar br)] 3)) 1 (.slice (some ⟨wd.heap.size, 0, none⟩) 3 3) (icL [cmpS at_ bt, cmpS ai bi, cmpS ar br]) := Sl.made wd _ 1 3 3 _ rfl (by decide) rfl
  refine hK.out _ _ hE ?_
  clear hK
  have HP4 := Lib.hid (orL_any _ _ _ _ hl)
  have hbe := hbd.alloc (.cells #[.int .i64 (cmpS at_ bt), .int .i64 (cmpS ai bi), .int .i64 (cmpS ar br)] 3)
  refine WalkN.one 20 (by kernel_rfl) ?_
  refine ⟨_, (by simp only [List.getElem?_toArray, List.getElem?_cons_succ, List.getElem?_cons_zero]; rfl), by rfl, fun K hK => ?_⟩
  go_simp
  refine HP4.out.mono ?_
  rintro e w1 ⟨rfl, rfl⟩
  refine hK.out _ _ hE ?_
  clear hK HP4
  ((refine WalkN.take 21 _ ?_ (by simp only [List.getElem?_toArray, List.getElem?_cons_succ, List.getElem?_cons_zero]; rfl) (by kernel_rfl) (by kernel_rfl) (by rfl) (fun W hW => ?_) ?_; rotate_left; · (go_simp; try with_reducible rfl)); simp only [Act.put, List.setIfInBounds_toArray, List.set_cons_zero, List.set_cons_succ])
  refine WalkN.done (by kernel_rfl) ?_
  go_wp2
  go_ret
  exact ⟨rfl, hbe⟩

end Go.Proofs.Ytcbgemnmehoeaaa
