/- The order that Members hands on; slices.SortFunc at subjects. No condition: lemmas. -/
import Derived.Test.YtcbgemnmehoeaaaFlatB
namespace Go.Proofs.Ytcbgemnmehoeaaa
open Go Go.RowKit

theorem Gr.trans {a b c : World} (h : Gr a b) (k : Gr b c) : Gr a c := by
  obtain ⟨q, os, rfl⟩ := h
  obtain ⟨q', os', rfl⟩ := k
  refine ⟨q + q', os ++ os', ?_⟩
  simp [Sort.grow, World.drewN, Nat.add_assoc]

set_option maxRecDepth 100000 in
set_option maxHeartbeats 800000 in
theorem memb1_any (a b : P3) (w : World) : Calls Try.prog 29 #[pV a, pV b] w (fun e w' => e = .returned (.int .i64 (ordP a b)) ∧ Gr w w') := by
  have hg : Gr w ((w.alloc (.cells #[.string a.t, .string a.i, .string a.r] 30)).alloc (.cells #[.string b.t, .string b.i, .string b.r] 30)) := ((Gr.refl _).alloc _).alloc _
  have HP := Lib.hid (order_any a b ((w.alloc (.cells #[.string a.t, .string a.i, .string a.r] 30)).alloc (.cells #[.string b.t, .string b.i, .string b.r] 30)))
  generalize ordP a b = z at *
  obtain ⟨at_, ai, ar⟩ := a
  obtain ⟨bt, bi, br⟩ := b
  unfold pV at *
  dsimp only at *
  go_enter Try.func29, Try.ntmps29
  go_wp2_with fail
  refine HP.out.mono ?_
  rintro e w1 ⟨rfl, hg1⟩
  go_wp2
  go_ret
  exact ⟨rfl, hg.trans hg1⟩

theorem sortS_any {w : World} {B : Nat} {v : Value} {l : List P3} (h : Own w B 30 3 v (pcs l)) (hl : l.length < 4611686018427387904) (hn : l.Nodup) :
    Calls Try.prog 38 #[v, .func (.func 29) #[] #[]] w fun e w' => e = .returned (.tuple #[]) ∧ ∃ l' : List P3, l'.Perm l ∧ UpP l' ∧ Own w' B 30 3 v (pcs l') ∧ Kept (fun b => b < w.heap.size ∧ v.ownBlock ≠ some b) w w' := by
  refine Calls.mono (sort_own Try.sortS pC 3 pC_length (by decide) pC_one Try.isAgg30 Try.sizeOf30 ordP swoP 29 #[] (enters_of Try.func29 (by kernel_rfl) rfl) (fun W x y => memb1_any x y W) h hl) ?_
  rintro e w' ⟨rfl, l', hp, hs, ho, hk⟩
  exact ⟨rfl, l', hp, up_sorted hs (hp.nodup_iff.2 hn), ho, hk⟩

end Go.Proofs.Ytcbgemnmehoeaaa
