/- Lemmas for the claim, no condition. -/
import Derived.Test.YtjdigpfipmckhaaGreatYReWalks0
import Derived.Test.YtjdigpfipmckhaaGreatYReWalks4
namespace Go.Proofs.YtjdigpfipmckhaaGreat
open Go Go.RowKit
theorem WalkN.skip {P : Program} {ops : Array Oper} {Q : Exit → Act → World → Prop} {S : World → Prop} {f : Nat} {l : Array Bool} {a : Act} {w : World} (i : Nat) (o : Oper) (ho : ops[i]? = some o) (hf : Region.free .any ops l i = true) (hr : (Region.ready .any ops l).contains i = true)
    (hw : Region.wanted o (yielded ops a.tmps) = false) (h : WalkN P ops Q S f (l.setIfInBounds i true) (a.put o.dst undef) w) : WalkN P ops Q S (f + 1) l a w :=
  .inr (.inl ⟨i, o, undef, ho, hf, hr, .inr ⟨hw, rfl⟩, h⟩)
set_option maxRecDepth 100000 in
set_option maxHeartbeats 4000000 in
theorem text_leaf1 (a b : ByteArray) (ps : List RT) (d : Nat) (ao : Option Addr) (c : Nat) (w : World) : Calls Tryz.prog 118 #[.agg #[.int .i64 1, .string a, .string b, .slice ao ps.length c], .int .i64 d] w fun e w' => ∃ s : ByteArray, e = .returned (.tuple #[.string s, .bool (decide (a.size = 0) && decide (b.size = 0) && decide (ps.length = 0))]) ∧ s = ⟨#[116, 104, 105, 115]⟩ ∧ Below w.heap.size w w' := by
  have hbk := (Blk.made w #[.int .i64 1, .string a, .string b, .slice ao ps.length c] 98).cells
  by_cases hna : a.size = 0
  · obtain rfl := ba_size_eq hna
    clear hna
    by_cases hnb : b.size = 0
    · obtain rfl := ba_size_eq hnb
      clear hnb
      by_cases hlp : ps.length = 0
      · have hp0 : ((ps.length : Int) == 0) = true := by rw [beq_iff_eq]; omega
        have HT := Lib.hid (show (decide ((⟨#[]⟩ : ByteArray).size = 0) && decide ((⟨#[]⟩ : ByteArray).size = 0) && decide (ps.length = 0)) = true from by first | rfl | (simp [hlp]; done) | (simp [hlp]; rfl))
        clear hlp
        go_enter Tryz.func118, Tryz.ntmps118
        go_wp2_with fail
        obtain ⟨wd, hwd⟩ : ∃ wd, wd = (w.alloc (.cells #[.int .i64 1, .string ⟨#[]⟩, .string ⟨#[]⟩, .slice ao ps.length c] 98)).drew := ⟨_, rfl⟩
        have hBd : Blk wd w.heap.size #[.int .i64 1, .string ⟨#[]⟩, .string ⟨#[]⟩, .slice ao ps.length c] 98 := by rw [hwd]; exact (Blk.made w #[.int .i64 1, .string ⟨#[]⟩, .string ⟨#[]⟩, .slice ao ps.length c] 98).drew
        have hbd : Below w.heap.size w wd := by rw [hwd]; exact ((Below.refl _ _).alloc (Nat.le_refl _) _).drew
        refine region_walkN (Ext wd) (by rw [← hwd]; exact Ext.refl _) (by kernel_rfl) (by kernel_rfl) (fun _ _ d _ _ h => by cases d <;> exact h) ?_
        rw [← hwd]
        clear hwd hbk
        have h1 : ∀ W, Ext wd W → ∀ i, W.cell? ⟨w.heap.size, i, none⟩ = (#[.int .i64 1, .string ⟨#[]⟩, .string ⟨#[]⟩, .slice ao ps.length c] : Array Value)[i]? := fun W h => (hBd.below h).cells
        (refine WalkN.tk [0, 1, 2, 3] ?_; (iterate 4 ((refine TkN.c _ ?_ (by simp only [gtA, gtS, gtZ]; rfl) (by kernel_rfl) (by kernel_rfl) (by rfl) (fun W hW => ?_) ?_; rotate_left; · (go_simp; try with_reducible rfl)); simp only [Act.put, puA, puZ, puS])); refine TkN.n ?_)
        (refine WalkN.tk [4, 5, 6] ?_; (iterate 3 ((refine TkN.c _ ?_ (by simp only [gtA, gtS, gtZ]; rfl) (by kernel_rfl) (by kernel_rfl) (by rfl) (fun W hW => ?_) ?_; rotate_left; · (go_simp; try with_reducible rfl)); simp only [Act.put, puA, puZ, puS])); refine TkN.n ?_)
        (refine WalkN.tk [7, 8] ?_; (iterate 2 ((refine TkN.c _ ?_ (by simp only [gtA, gtS, gtZ]; rfl) (by kernel_rfl) (by kernel_rfl) (by rfl) (fun W hW => ?_) ?_; rotate_left; · (go_simp; try with_reducible rfl)); simp only [Act.put, puA, puZ, puS])); refine TkN.n ?_)
        (refine WalkN.tk [9, 10, 11, 12] ?_; (iterate 4 ((refine TkN.c _ ?_ (by simp only [gtA, gtS, gtZ]; rfl) (by kernel_rfl) (by kernel_rfl) (by rfl) (fun W hW => ?_) ?_; rotate_left; · (go_simp; try with_reducible rfl)); simp only [Act.put, puA, puZ, puS])); refine TkN.n ?_)
        (refine WalkN.tk [13, 14, 15] ?_; (iterate 3 ((refine TkN.c _ ?_ (by simp only [gtA, gtS, gtZ]; rfl) (by kernel_rfl) (by kernel_rfl) (by rfl) (fun W hW => ?_) ?_; rotate_left; · (go_simp; try with_reducible rfl)); simp only [Act.put, puA, puZ, puS])); refine TkN.n ?_)
        refine WalkN.done (by kernel_rfl) ?_
        have HBD := Lib.hid hbd
        clear h1 hBd hbd
        go_wp2_with fail
        go_ret2
        exact ⟨_, by rw [HT.out]; rfl, rfl, HBD.out⟩
      · have hp0 : ((ps.length : Int) == 0) = false := by rw [beq_eq_false_iff_ne]; omega
        have HT := Lib.hid (show (decide ((⟨#[]⟩ : ByteArray).size = 0) && decide ((⟨#[]⟩ : ByteArray).size = 0) && decide (ps.length = 0)) = false from by first | rfl | (simp [hlp]; done) | (simp [hlp]; rfl))
        clear hlp
        go_enter Tryz.func118, Tryz.ntmps118
        go_wp2_with fail
        obtain ⟨wd, hwd⟩ : ∃ wd, wd = (w.alloc (.cells #[.int .i64 1, .string ⟨#[]⟩, .string ⟨#[]⟩, .slice ao ps.length c] 98)).drew := ⟨_, rfl⟩
        have hBd : Blk wd w.heap.size #[.int .i64 1, .string ⟨#[]⟩, .string ⟨#[]⟩, .slice ao ps.length c] 98 := by rw [hwd]; exact (Blk.made w #[.int .i64 1, .string ⟨#[]⟩, .string ⟨#[]⟩, .slice ao ps.length c] 98).drew
        have hbd : Below w.heap.size w wd := by rw [hwd]; exact ((Below.refl _ _).alloc (Nat.le_refl _) _).drew
        refine region_walkN (Ext wd) (by rw [← hwd]; exact Ext.refl _) (by kernel_rfl) (by kernel_rfl) (fun _ _ d _ _ h => by cases d <;> exact h) ?_
        rw [← hwd]
        clear hwd hbk
        have h1 : ∀ W, Ext wd W → ∀ i, W.cell? ⟨w.heap.size, i, none⟩ = (#[.int .i64 1, .string ⟨#[]⟩, .string ⟨#[]⟩, .slice ao ps.length c] : Array Value)[i]? := fun W h => (hBd.below h).cells
        (refine WalkN.tk [0, 1, 2, 3] ?_; (iterate 4 ((refine TkN.c _ ?_ (by simp only [gtA, gtS, gtZ]; rfl) (by kernel_rfl) (by kernel_rfl) (by rfl) (fun W hW => ?_) ?_; rotate_left; · (go_simp; try with_reducible rfl)); simp only [Act.put, puA, puZ, puS])); refine TkN.n ?_)
        (refine WalkN.tk [4, 5, 6] ?_; (iterate 3 ((refine TkN.c _ ?_ (by simp only [gtA, gtS, gtZ]; rfl) (by kernel_rfl) (by kernel_rfl) (by rfl) (fun W hW => ?_) ?_; rotate_left; · (go_simp; try with_reducible rfl)); simp only [Act.put, puA, puZ, puS])); refine TkN.n ?_)
        (refine WalkN.tk [7, 8] ?_; (iterate 2 ((refine TkN.c _ ?_ (by simp only [gtA, gtS, gtZ]; rfl) (by kernel_rfl) (by kernel_rfl) (by rfl) (fun W hW => ?_) ?_; rotate_left; · (go_simp; try with_reducible rfl)); simp only [Act.put, puA, puZ, puS])); refine TkN.n ?_)
        (refine WalkN.tk [9, 10, 11, 12] ?_; (iterate 4 ((refine TkN.c _ ?_ (by simp only [gtA, gtS, gtZ]; rfl) (by kernel_rfl) (by kernel_rfl) (by rfl) (fun W hW => ?_) ?_; rotate_left; · (go_simp; try with_reducible rfl)); simp only [Act.put, puA, puZ, puS])); refine TkN.n ?_)
        (refine WalkN.tk [13, 14, 15] ?_; (iterate 3 ((refine TkN.c _ ?_ (by simp only [gtA, gtS, gtZ]; rfl) (by kernel_rfl) (by kernel_rfl) (by rfl) (fun W hW => ?_) ?_; rotate_left; · (go_simp; try with_reducible rfl)); simp only [Act.put, puA, puZ, puS])); refine TkN.n ?_)
        refine WalkN.done (by kernel_rfl) ?_
        have HBD := Lib.hid hbd
        clear h1 hBd hbd
        go_wp2_with fail
        go_ret2
        exact ⟨_, by rw [HT.out]; rfl, rfl, HBD.out⟩
    · have hneb := ba_size_ne hnb
      have HT := Lib.hid (show (decide ((⟨#[]⟩ : ByteArray).size = 0) && decide (b.size = 0) && decide (ps.length = 0)) = false from by first | rfl | (simp [hnb]; done) | (simp [hnb]; rfl))
      clear hnb
      go_enter Tryz.func118, Tryz.ntmps118
      go_wp2_with fail
      obtain ⟨wd, hwd⟩ : ∃ wd, wd = (w.alloc (.cells #[.int .i64 1, .string ⟨#[]⟩, .string b, .slice ao ps.length c] 98)).drew := ⟨_, rfl⟩
      have hBd : Blk wd w.heap.size #[.int .i64 1, .string ⟨#[]⟩, .string b, .slice ao ps.length c] 98 := by rw [hwd]; exact (Blk.made w #[.int .i64 1, .string ⟨#[]⟩, .string b, .slice ao ps.length c] 98).drew
      have hbd : Below w.heap.size w wd := by rw [hwd]; exact ((Below.refl _ _).alloc (Nat.le_refl _) _).drew
      refine region_walkN (Ext wd) (by rw [← hwd]; exact Ext.refl _) (by kernel_rfl) (by kernel_rfl) (fun _ _ d _ _ h => by cases d <;> exact h) ?_
      rw [← hwd]
      clear hwd hbk
      have h1 : ∀ W, Ext wd W → ∀ i, W.cell? ⟨w.heap.size, i, none⟩ = (#[.int .i64 1, .string ⟨#[]⟩, .string b, .slice ao ps.length c] : Array Value)[i]? := fun W h => (hBd.below h).cells
      (refine WalkN.tk [0, 1, 2, 3] ?_; (iterate 4 ((refine TkN.c _ ?_ (by simp only [gtA, gtS, gtZ]; rfl) (by kernel_rfl) (by kernel_rfl) (by rfl) (fun W hW => ?_) ?_; rotate_left; · (go_simp; try with_reducible rfl)); simp only [Act.put, puA, puZ, puS])); refine TkN.n ?_)
      (refine WalkN.tk [4, 5, 6] ?_; (iterate 3 ((refine TkN.c _ ?_ (by simp only [gtA, gtS, gtZ]; rfl) (by kernel_rfl) (by kernel_rfl) (by rfl) (fun W hW => ?_) ?_; rotate_left; · (go_simp; try with_reducible rfl)); simp only [Act.put, puA, puZ, puS])); refine TkN.n ?_)
      (refine WalkN.tk [7, 8] ?_; (iterate 2 ((refine TkN.c _ ?_ (by simp only [gtA, gtS, gtZ]; rfl) (by kernel_rfl) (by kernel_rfl) (by rfl) (fun W hW => ?_) ?_; rotate_left; · (go_simp; try with_reducible rfl)); simp only [Act.put, puA, puZ, puS])); refine TkN.n ?_)
      (refine WalkN.skip 9 _ (by simp only [gtA, gtS, gtZ]; rfl) (by kernel_rfl) (by kernel_rfl) (by rfl) ?_; simp only [Act.put, puA, puZ, puS]); (refine WalkN.skip 10 _ (by simp only [gtA, gtS, gtZ]; rfl) (by kernel_rfl) (by kernel_rfl) (by rfl) ?_; simp only [Act.put, puA, puZ, puS]); (refine WalkN.skip 11 _ (by simp only [gtA, gtS, gtZ]; rfl) (by kernel_rfl) (by kernel_rfl) (by rfl) ?_; simp only [Act.put, puA, puZ, puS]); (refine WalkN.skip 12 _ (by simp only [gtA, gtS, gtZ]; rfl) (by kernel_rfl) (by kernel_rfl) (by rfl) ?_; simp only [Act.put, puA, puZ, puS])
      (refine WalkN.tk [13, 14, 15] ?_; (iterate 3 ((refine TkN.c _ ?_ (by simp only [gtA, gtS, gtZ]; rfl) (by kernel_rfl) (by kernel_rfl) (by rfl) (fun W hW => ?_) ?_; rotate_left; · (go_simp; try with_reducible rfl)); simp only [Act.put, puA, puZ, puS])); refine TkN.n ?_)
      refine WalkN.done (by kernel_rfl) ?_
      have HBD := Lib.hid hbd
      clear h1 hBd hbd
      go_wp2_with fail
      go_ret2
      exact ⟨_, by rw [HT.out]; rfl, rfl, HBD.out⟩
  · have hnea := ba_size_ne hna
    have HT := Lib.hid (show (decide (a.size = 0) && decide (b.size = 0) && decide (ps.length = 0)) = false from by first | rfl | (simp [hna]; done) | (simp [hna]; rfl))
    clear hna
    go_enter Tryz.func118, Tryz.ntmps118
    go_wp2_with fail
    obtain ⟨wd, hwd⟩ : ∃ wd, wd = (w.alloc (.cells #[.int .i64 1, .string a, .string b, .slice ao ps.length c] 98)).drew := ⟨_, rfl⟩
    have hBd : Blk wd w.heap.size #[.int .i64 1, .string a, .string b, .slice ao ps.length c] 98 := by rw [hwd]; exact (Blk.made w #[.int .i64 1, .string a, .string b, .slice ao ps.length c] 98).drew
    have hbd : Below w.heap.size w wd := by rw [hwd]; exact ((Below.refl _ _).alloc (Nat.le_refl _) _).drew
    refine region_walkN (Ext wd) (by rw [← hwd]; exact Ext.refl _) (by kernel_rfl) (by kernel_rfl) (fun _ _ d _ _ h => by cases d <;> exact h) ?_
    rw [← hwd]
    clear hwd hbk
    have h1 : ∀ W, Ext wd W → ∀ i, W.cell? ⟨w.heap.size, i, none⟩ = (#[.int .i64 1, .string a, .string b, .slice ao ps.length c] : Array Value)[i]? := fun W h => (hBd.below h).cells
    (refine WalkN.tk [0, 1, 2, 3] ?_; (iterate 4 ((refine TkN.c _ ?_ (by simp only [gtA, gtS, gtZ]; rfl) (by kernel_rfl) (by kernel_rfl) (by rfl) (fun W hW => ?_) ?_; rotate_left; · (go_simp; try with_reducible rfl)); simp only [Act.put, puA, puZ, puS])); refine TkN.n ?_)
    (refine WalkN.skip 4 _ (by simp only [gtA, gtS, gtZ]; rfl) (by kernel_rfl) (by kernel_rfl) (by rfl) ?_; simp only [Act.put, puA, puZ, puS]); (refine WalkN.skip 5 _ (by simp only [gtA, gtS, gtZ]; rfl) (by kernel_rfl) (by kernel_rfl) (by rfl) ?_; simp only [Act.put, puA, puZ, puS]); (refine WalkN.skip 6 _ (by simp only [gtA, gtS, gtZ]; rfl) (by kernel_rfl) (by kernel_rfl) (by rfl) ?_; simp only [Act.put, puA, puZ, puS])
    (refine WalkN.tk [7, 8] ?_; (iterate 2 ((refine TkN.c _ ?_ (by simp only [gtA, gtS, gtZ]; rfl) (by kernel_rfl) (by kernel_rfl) (by rfl) (fun W hW => ?_) ?_; rotate_left; · (go_simp; try with_reducible rfl)); simp only [Act.put, puA, puZ, puS])); refine TkN.n ?_)
    (refine WalkN.skip 9 _ (by simp only [gtA, gtS, gtZ]; rfl) (by kernel_rfl) (by kernel_rfl) (by rfl) ?_; simp only [Act.put, puA, puZ, puS]); (refine WalkN.skip 10 _ (by simp only [gtA, gtS, gtZ]; rfl) (by kernel_rfl) (by kernel_rfl) (by rfl) ?_; simp only [Act.put, puA, puZ, puS]); (refine WalkN.skip 11 _ (by simp only [gtA, gtS, gtZ]; rfl) (by kernel_rfl) (by kernel_rfl) (by rfl) ?_; simp only [Act.put, puA, puZ, puS]); (refine WalkN.skip 12 _ (by simp only [gtA, gtS, gtZ]; rfl) (by kernel_rfl) (by kernel_rfl) (by rfl) ?_; simp only [Act.put, puA, puZ, puS])
    (refine WalkN.tk [13, 14, 15] ?_; (iterate 3 ((refine TkN.c _ ?_ (by simp only [gtA, gtS, gtZ]; rfl) (by kernel_rfl) (by kernel_rfl) (by rfl) (fun W hW => ?_) ?_; rotate_left; · (go_simp; try with_reducible rfl)); simp only [Act.put, puA, puZ, puS])); refine TkN.n ?_)
    refine WalkN.done (by kernel_rfl) ?_
    have HBD := Lib.hid hbd
    clear h1 hBd hbd
    go_wp2_with fail
    go_ret2
    exact ⟨_, by rw [HT.out]; rfl, rfl, HBD.out⟩
set_option maxRecDepth 100000 in
set_option maxHeartbeats 4000000 in
theorem text_leaf2 (a b : ByteArray) (ps : List RT) (d : Nat) (ao : Option Addr) (c : Nat) (w : World) (ha : a.size ≤ 140737488351232) : Calls Tryz.prog 118 #[.agg #[.int .i64 2, .string a, .string b, .slice ao ps.length c], .int .i64 d] w fun e w' => ∃ s : ByteArray, e = .returned (.tuple #[.string s, .bool (ownB a && decide (b.size = 0) && decide (ps.length = 0))]) ∧ s = a ∧ Below w.heap.size w w' := by
  have hbk := (Blk.made w #[.int .i64 2, .string a, .string b, .slice ao ps.length c] 98).cells
  have HOWa := Lib.hid (fun W => own_any a (by unfold maxLen; omega) W)
  clear ha
  cases hoa : ownB a with
  | true =>
    simp only [hoa] at HOWa
    by_cases hnb : b.size = 0
    · obtain rfl := ba_size_eq hnb
      clear hnb
      by_cases hlp : ps.length = 0
      · have hp0 : ((ps.length : Int) == 0) = true := by rw [beq_iff_eq]; omega
        have HT := Lib.hid (show (true && decide ((⟨#[]⟩ : ByteArray).size = 0) && decide (ps.length = 0)) = true from by first | rfl | (simp [hlp]; done) | (simp [hlp]; rfl))
        clear hlp
        go_enter Tryz.func118, Tryz.ntmps118
        go_wp2_with fail
        obtain ⟨wd, hwd⟩ : ∃ wd, wd = (w.alloc (.cells #[.int .i64 2, .string a, .string ⟨#[]⟩, .slice ao ps.length c] 98)).drew := ⟨_, rfl⟩
        have hBd : Blk wd w.heap.size #[.int .i64 2, .string a, .string ⟨#[]⟩, .slice ao ps.length c] 98 := by rw [hwd]; exact (Blk.made w #[.int .i64 2, .string a, .string ⟨#[]⟩, .slice ao ps.length c] 98).drew
        have hbd : Below w.heap.size w wd := by rw [hwd]; exact ((Below.refl _ _).alloc (Nat.le_refl _) _).drew
        refine region_walkN (Ext wd) (by rw [← hwd]; exact Ext.refl _) (by kernel_rfl) (by kernel_rfl) (fun _ _ d _ _ h => by cases d <;> exact h) ?_
        rw [← hwd]
        clear hwd hbk
        have h1 : ∀ W, Ext wd W → ∀ i, W.cell? ⟨w.heap.size, i, none⟩ = (#[.int .i64 2, .string a, .string ⟨#[]⟩, .slice ao ps.length c] : Array Value)[i]? := fun W h => (hBd.below h).cells
        (refine WalkN.tk [0, 1, 2, 3] ?_; (iterate 4 ((refine TkN.c _ ?_ (by simp only [gtA, gtS, gtZ]; rfl) (by kernel_rfl) (by kernel_rfl) (by rfl) (fun W hW => ?_) ?_; rotate_left; · (go_simp; try with_reducible rfl)); simp only [Act.put, puA, puZ, puS])); refine TkN.n ?_)
        refine WalkN.one 4 (by kernel_rfl) ?_
        refine ⟨_, (by simp only [gtA, gtS, gtZ]; rfl), by rfl, fun K hK => ?_⟩
        go_simp
        refine (HOWa.out _).mono ?_
        rintro e w2 ⟨rfl, h2⟩
        have h3 := h2.symm
        subst h3
        clear h2
        refine hK.out _ _ (Ext.refl _) ?_
        clear hK HOWa
        ((refine WalkN.take 5 _ ?_ (by simp only [gtA, gtS, gtZ]; rfl) (by kernel_rfl) (by kernel_rfl) (by rfl) (fun W hW => ?_) ?_; rotate_left; · (go_simp; try with_reducible rfl)); simp only [Act.put, puA, puZ, puS])
        (refine WalkN.tk [6, 7, 8] ?_; (iterate 3 ((refine TkN.c _ ?_ (by simp only [gtA, gtS, gtZ]; rfl) (by kernel_rfl) (by kernel_rfl) (by rfl) (fun W hW => ?_) ?_; rotate_left; · (go_simp; try with_reducible rfl)); simp only [Act.put, puA, puZ, puS])); refine TkN.n ?_)
        (refine WalkN.tk [9, 10] ?_; (iterate 2 ((refine TkN.c _ ?_ (by simp only [gtA, gtS, gtZ]; rfl) (by kernel_rfl) (by kernel_rfl) (by rfl) (fun W hW => ?_) ?_; rotate_left; · (go_simp; try with_reducible rfl)); simp only [Act.put, puA, puZ, puS])); refine TkN.n ?_)
        (refine WalkN.tk [11, 12, 13, 14] ?_; (iterate 4 ((refine TkN.c _ ?_ (by simp only [gtA, gtS, gtZ]; rfl) (by kernel_rfl) (by kernel_rfl) (by rfl) (fun W hW => ?_) ?_; rotate_left; · (go_simp; try with_reducible rfl)); simp only [Act.put, puA, puZ, puS])); refine TkN.n ?_)
        (refine WalkN.tk [15, 16, 17] ?_; (iterate 3 ((refine TkN.c _ ?_ (by simp only [gtA, gtS, gtZ]; rfl) (by kernel_rfl) (by kernel_rfl) (by rfl) (fun W hW => ?_) ?_; rotate_left; · (go_simp; try with_reducible rfl)); simp only [Act.put, puA, puZ, puS])); refine TkN.n ?_)
        refine WalkN.done (by kernel_rfl) ?_
        have HBD := Lib.hid hbd
        clear h1 hBd hbd
        go_wp2_with fail
        go_ret2
        exact ⟨_, by rw [HT.out]; rfl, rfl, HBD.out⟩
      · have hp0 : ((ps.length : Int) == 0) = false := by rw [beq_eq_false_iff_ne]; omega
        have HT := Lib.hid (show (true && decide ((⟨#[]⟩ : ByteArray).size = 0) && decide (ps.length = 0)) = false from by first | rfl | (simp [hlp]; done) | (simp [hlp]; rfl))
        clear hlp
        go_enter Tryz.func118, Tryz.ntmps118
        go_wp2_with fail
        obtain ⟨wd, hwd⟩ : ∃ wd, wd = (w.alloc (.cells #[.int .i64 2, .string a, .string ⟨#[]⟩, .slice ao ps.length c] 98)).drew := ⟨_, rfl⟩
        have hBd : Blk wd w.heap.size #[.int .i64 2, .string a, .string ⟨#[]⟩, .slice ao ps.length c] 98 := by rw [hwd]; exact (Blk.made w #[.int .i64 2, .string a, .string ⟨#[]⟩, .slice ao ps.length c] 98).drew
        have hbd : Below w.heap.size w wd := by rw [hwd]; exact ((Below.refl _ _).alloc (Nat.le_refl _) _).drew
        refine region_walkN (Ext wd) (by rw [← hwd]; exact Ext.refl _) (by kernel_rfl) (by kernel_rfl) (fun _ _ d _ _ h => by cases d <;> exact h) ?_
        rw [← hwd]
        clear hwd hbk
        have h1 : ∀ W, Ext wd W → ∀ i, W.cell? ⟨w.heap.size, i, none⟩ = (#[.int .i64 2, .string a, .string ⟨#[]⟩, .slice ao ps.length c] : Array Value)[i]? := fun W h => (hBd.below h).cells
        (refine WalkN.tk [0, 1, 2, 3] ?_; (iterate 4 ((refine TkN.c _ ?_ (by simp only [gtA, gtS, gtZ]; rfl) (by kernel_rfl) (by kernel_rfl) (by rfl) (fun W hW => ?_) ?_; rotate_left; · (go_simp; try with_reducible rfl)); simp only [Act.put, puA, puZ, puS])); refine TkN.n ?_)
        refine WalkN.one 4 (by kernel_rfl) ?_
        refine ⟨_, (by simp only [gtA, gtS, gtZ]; rfl), by rfl, fun K hK => ?_⟩
        go_simp
        refine (HOWa.out _).mono ?_
        rintro e w2 ⟨rfl, h2⟩
        have h3 := h2.symm
        subst h3
        clear h2
        refine hK.out _ _ (Ext.refl _) ?_
        clear hK HOWa
        ((refine WalkN.take 5 _ ?_ (by simp only [gtA, gtS, gtZ]; rfl) (by kernel_rfl) (by kernel_rfl) (by rfl) (fun W hW => ?_) ?_; rotate_left; · (go_simp; try with_reducible rfl)); simp only [Act.put, puA, puZ, puS])
        (refine WalkN.tk [6, 7, 8] ?_; (iterate 3 ((refine TkN.c _ ?_ (by simp only [gtA, gtS, gtZ]; rfl) (by kernel_rfl) (by kernel_rfl) (by rfl) (fun W hW => ?_) ?_; rotate_left; · (go_simp; try with_reducible rfl)); simp only [Act.put, puA, puZ, puS])); refine TkN.n ?_)
        (refine WalkN.tk [9, 10] ?_; (iterate 2 ((refine TkN.c _ ?_ (by simp only [gtA, gtS, gtZ]; rfl) (by kernel_rfl) (by kernel_rfl) (by rfl) (fun W hW => ?_) ?_; rotate_left; · (go_simp; try with_reducible rfl)); simp only [Act.put, puA, puZ, puS])); refine TkN.n ?_)
        (refine WalkN.tk [11, 12, 13, 14] ?_; (iterate 4 ((refine TkN.c _ ?_ (by simp only [gtA, gtS, gtZ]; rfl) (by kernel_rfl) (by kernel_rfl) (by rfl) (fun W hW => ?_) ?_; rotate_left; · (go_simp; try with_reducible rfl)); simp only [Act.put, puA, puZ, puS])); refine TkN.n ?_)
        (refine WalkN.tk [15, 16, 17] ?_; (iterate 3 ((refine TkN.c _ ?_ (by simp only [gtA, gtS, gtZ]; rfl) (by kernel_rfl) (by kernel_rfl) (by rfl) (fun W hW => ?_) ?_; rotate_left; · (go_simp; try with_reducible rfl)); simp only [Act.put, puA, puZ, puS])); refine TkN.n ?_)
        refine WalkN.done (by kernel_rfl) ?_
        have HBD := Lib.hid hbd
        clear h1 hBd hbd
        go_wp2_with fail
        go_ret2
        exact ⟨_, by rw [HT.out]; rfl, rfl, HBD.out⟩
    · have hneb := ba_size_ne hnb
      have HT := Lib.hid (show (true && decide (b.size = 0) && decide (ps.length = 0)) = false from by first | rfl | (simp [hnb]; done) | (simp [hnb]; rfl))
      clear hnb
      go_enter Tryz.func118, Tryz.ntmps118
      go_wp2_with fail
      obtain ⟨wd, hwd⟩ : ∃ wd, wd = (w.alloc (.cells #[.int .i64 2, .string a, .string b, .slice ao ps.length c] 98)).drew := ⟨_, rfl⟩
      have hBd : Blk wd w.heap.size #[.int .i64 2, .string a, .string b, .slice ao ps.length c] 98 := by rw [hwd]; exact (Blk.made w #[.int .i64 2, .string a, .string b, .slice ao ps.length c] 98).drew
      have hbd : Below w.heap.size w wd := by rw [hwd]; exact ((Below.refl _ _).alloc (Nat.le_refl _) _).drew
      refine region_walkN (Ext wd) (by rw [← hwd]; exact Ext.refl _) (by kernel_rfl) (by kernel_rfl) (fun _ _ d _ _ h => by cases d <;> exact h) ?_
      rw [← hwd]
      clear hwd hbk
      have h1 : ∀ W, Ext wd W → ∀ i, W.cell? ⟨w.heap.size, i, none⟩ = (#[.int .i64 2, .string a, .string b, .slice ao ps.length c] : Array Value)[i]? := fun W h => (hBd.below h).cells
      (refine WalkN.tk [0, 1, 2, 3] ?_; (iterate 4 ((refine TkN.c _ ?_ (by simp only [gtA, gtS, gtZ]; rfl) (by kernel_rfl) (by kernel_rfl) (by rfl) (fun W hW => ?_) ?_; rotate_left; · (go_simp; try with_reducible rfl)); simp only [Act.put, puA, puZ, puS])); refine TkN.n ?_)
      refine WalkN.one 4 (by kernel_rfl) ?_
      refine ⟨_, (by simp only [gtA, gtS, gtZ]; rfl), by rfl, fun K hK => ?_⟩
      go_simp
      refine (HOWa.out _).mono ?_
      rintro e w2 ⟨rfl, h2⟩
      have h3 := h2.symm
      subst h3
      clear h2
      refine hK.out _ _ (Ext.refl _) ?_
      clear hK HOWa
      ((refine WalkN.take 5 _ ?_ (by simp only [gtA, gtS, gtZ]; rfl) (by kernel_rfl) (by kernel_rfl) (by rfl) (fun W hW => ?_) ?_; rotate_left; · (go_simp; try with_reducible rfl)); simp only [Act.put, puA, puZ, puS])
      (refine WalkN.tk [6, 7, 8] ?_; (iterate 3 ((refine TkN.c _ ?_ (by simp only [gtA, gtS, gtZ]; rfl) (by kernel_rfl) (by kernel_rfl) (by rfl) (fun W hW => ?_) ?_; rotate_left; · (go_simp; try with_reducible rfl)); simp only [Act.put, puA, puZ, puS])); refine TkN.n ?_)
      (refine WalkN.tk [9, 10] ?_; (iterate 2 ((refine TkN.c _ ?_ (by simp only [gtA, gtS, gtZ]; rfl) (by kernel_rfl) (by kernel_rfl) (by rfl) (fun W hW => ?_) ?_; rotate_left; · (go_simp; try with_reducible rfl)); simp only [Act.put, puA, puZ, puS])); refine TkN.n ?_)
      (refine WalkN.skip 11 _ (by simp only [gtA, gtS, gtZ]; rfl) (by kernel_rfl) (by kernel_rfl) (by rfl) ?_; simp only [Act.put, puA, puZ, puS]); (refine WalkN.skip 12 _ (by simp only [gtA, gtS, gtZ]; rfl) (by kernel_rfl) (by kernel_rfl) (by rfl) ?_; simp only [Act.put, puA, puZ, puS]); (refine WalkN.skip 13 _ (by simp only [gtA, gtS, gtZ]; rfl) (by kernel_rfl) (by kernel_rfl) (by rfl) ?_; simp only [Act.put, puA, puZ, puS]); (refine WalkN.skip 14 _ (by simp only [gtA, gtS, gtZ]; rfl) (by kernel_rfl) (by kernel_rfl) (by rfl) ?_; simp only [Act.put, puA, puZ, puS])
      (refine WalkN.tk [15, 16, 17] ?_; (iterate 3 ((refine TkN.c _ ?_ (by simp only [gtA, gtS, gtZ]; rfl) (by kernel_rfl) (by kernel_rfl) (by rfl) (fun W hW => ?_) ?_; rotate_left; · (go_simp; try with_reducible rfl)); simp only [Act.put, puA, puZ, puS])); refine TkN.n ?_)
      refine WalkN.done (by kernel_rfl) ?_
      have HBD := Lib.hid hbd
      clear h1 hBd hbd
      go_wp2_with fail
      go_ret2
      exact ⟨_, by rw [HT.out]; rfl, rfl, HBD.out⟩
  | false =>
    simp only [hoa] at HOWa
    have HT := Lib.hid (show (false && decide (b.size = 0) && decide (ps.length = 0)) = false from by first | rfl | (simp; done) | (simp; rfl))
    go_enter Tryz.func118, Tryz.ntmps118
    go_wp2_with fail
    obtain ⟨wd, hwd⟩ : ∃ wd, wd = (w.alloc (.cells #[.int .i64 2, .string a, .string b, .slice ao ps.length c] 98)).drew := ⟨_, rfl⟩
    have hBd : Blk wd w.heap.size #[.int .i64 2, .string a, .string b, .slice ao ps.length c] 98 := by rw [hwd]; exact (Blk.made w #[.int .i64 2, .string a, .string b, .slice ao ps.length c] 98).drew
    have hbd : Below w.heap.size w wd := by rw [hwd]; exact ((Below.refl _ _).alloc (Nat.le_refl _) _).drew
    refine region_walkN (Ext wd) (by rw [← hwd]; exact Ext.refl _) (by kernel_rfl) (by kernel_rfl) (fun _ _ d _ _ h => by cases d <;> exact h) ?_
    rw [← hwd]
    clear hwd hbk
    have h1 : ∀ W, Ext wd W → ∀ i, W.cell? ⟨w.heap.size, i, none⟩ = (#[.int .i64 2, .string a, .string b, .slice ao ps.length c] : Array Value)[i]? := fun W h => (hBd.below h).cells
    (refine WalkN.tk [0, 1, 2, 3] ?_; (iterate 4 ((refine TkN.c _ ?_ (by simp only [gtA, gtS, gtZ]; rfl) (by kernel_rfl) (by kernel_rfl) (by rfl) (fun W hW => ?_) ?_; rotate_left; · (go_simp; try with_reducible rfl)); simp only [Act.put, puA, puZ, puS])); refine TkN.n ?_)
    refine WalkN.one 4 (by kernel_rfl) ?_
    refine ⟨_, (by simp only [gtA, gtS, gtZ]; rfl), by rfl, fun K hK => ?_⟩
    go_simp
    refine (HOWa.out _).mono ?_
    rintro e w2 ⟨rfl, h2⟩
    have h3 := h2.symm
    subst h3
    clear h2
    refine hK.out _ _ (Ext.refl _) ?_
    clear hK HOWa
    ((refine WalkN.take 5 _ ?_ (by simp only [gtA, gtS, gtZ]; rfl) (by kernel_rfl) (by kernel_rfl) (by rfl) (fun W hW => ?_) ?_; rotate_left; · (go_simp; try with_reducible rfl)); simp only [Act.put, puA, puZ, puS])
    (refine WalkN.skip 6 _ (by simp only [gtA, gtS, gtZ]; rfl) (by kernel_rfl) (by kernel_rfl) (by rfl) ?_; simp only [Act.put, puA, puZ, puS]); (refine WalkN.skip 7 _ (by simp only [gtA, gtS, gtZ]; rfl) (by kernel_rfl) (by kernel_rfl) (by rfl) ?_; simp only [Act.put, puA, puZ, puS]); (refine WalkN.skip 8 _ (by simp only [gtA, gtS, gtZ]; rfl) (by kernel_rfl) (by kernel_rfl) (by rfl) ?_; simp only [Act.put, puA, puZ, puS])
    (refine WalkN.tk [9, 10] ?_; (iterate 2 ((refine TkN.c _ ?_ (by simp only [gtA, gtS, gtZ]; rfl) (by kernel_rfl) (by kernel_rfl) (by rfl) (fun W hW => ?_) ?_; rotate_left; · (go_simp; try with_reducible rfl)); simp only [Act.put, puA, puZ, puS])); refine TkN.n ?_)
    (refine WalkN.skip 11 _ (by simp only [gtA, gtS, gtZ]; rfl) (by kernel_rfl) (by kernel_rfl) (by rfl) ?_; simp only [Act.put, puA, puZ, puS]); (refine WalkN.skip 12 _ (by simp only [gtA, gtS, gtZ]; rfl) (by kernel_rfl) (by kernel_rfl) (by rfl) ?_; simp only [Act.put, puA, puZ, puS]); (refine WalkN.skip 13 _ (by simp only [gtA, gtS, gtZ]; rfl) (by kernel_rfl) (by kernel_rfl) (by rfl) ?_; simp only [Act.put, puA, puZ, puS]); (refine WalkN.skip 14 _ (by simp only [gtA, gtS, gtZ]; rfl) (by kernel_rfl) (by kernel_rfl) (by rfl) ?_; simp only [Act.put, puA, puZ, puS])
    (refine WalkN.tk [15, 16, 17] ?_; (iterate 3 ((refine TkN.c _ ?_ (by simp only [gtA, gtS, gtZ]; rfl) (by kernel_rfl) (by kernel_rfl) (by rfl) (fun W hW => ?_) ?_; rotate_left; · (go_simp; try with_reducible rfl)); simp only [Act.put, puA, puZ, puS])); refine TkN.n ?_)
    refine WalkN.done (by kernel_rfl) ?_
    have HBD := Lib.hid hbd
    clear h1 hBd hbd
    go_wp2_with fail
    go_ret2
    exact ⟨_, by rw [HT.out]; rfl, rfl, HBD.out⟩
set_option maxRecDepth 100000 in
set_option maxHeartbeats 4000000 in
theorem text_leaf3 (a b : ByteArray) (ps : List RT) (d : Nat) (ao : Option Addr) (c : Nat) (w : World) (ha : a.size ≤ 140737488351232) (hb : b.size ≤ 140737488351232) : Calls Tryz.prog 118 #[.agg #[.int .i64 3, .string a, .string b, .slice ao ps.length c], .int .i64 d] w fun e w' => ∃ s : ByteArray, e = .returned (.tuple #[.string s, .bool (ownB a && ownB b && decide (ps.length = 0))]) ∧ s = (a ++ ⟨#[45, 62]⟩) ++ b ∧ Below w.heap.size w w' := by
  have hbk := (Blk.made w #[.int .i64 3, .string a, .string b, .slice ao ps.length c] 98).cells
  have HOWa := Lib.hid (fun W => own_any a (by unfold maxLen; omega) W)
  have HOWb := Lib.hid (fun W => own_any b (by unfold maxLen; omega) W)
  have hs1 : ¬ (9223372036854775807 < a.size + 2) := by omega
  have hs2 : ¬ (9223372036854775807 < a.size + 2 + b.size) := by omega
  clear ha hb
  cases hoa : ownB a with
  | true =>
    simp only [hoa] at HOWa
    cases hob : ownB b with
    | true =>
      simp only [hob] at HOWb
      by_cases hlp : ps.length = 0
      · have hp0 : ((ps.length : Int) == 0) = true := by rw [beq_iff_eq]; omega
        have HT := Lib.hid (show (true && true && decide (ps.length = 0)) = true from by first | rfl | (simp [hlp]; done) | (simp [hlp]; rfl))
        clear hlp
        go_enter Tryz.func118, Tryz.ntmps118
        go_wp2_with fail
        obtain ⟨wd, hwd⟩ : ∃ wd, wd = (w.alloc (.cells #[.int .i64 3, .string a, .string b, .slice ao ps.length c] 98)).drew := ⟨_, rfl⟩
        have hBd : Blk wd w.heap.size #[.int .i64 3, .string a, .string b, .slice ao ps.length c] 98 := by rw [hwd]; exact (Blk.made w #[.int .i64 3, .string a, .string b, .slice ao ps.length c] 98).drew
        have hbd : Below w.heap.size w wd := by rw [hwd]; exact ((Below.refl _ _).alloc (Nat.le_refl _) _).drew
        refine region_walkN (Ext wd) (by rw [← hwd]; exact Ext.refl _) (by kernel_rfl) (by kernel_rfl) (fun _ _ d _ _ h => by cases d <;> exact h) ?_
        rw [← hwd]
        clear hwd hbk
        have h1 : ∀ W, Ext wd W → ∀ i, W.cell? ⟨w.heap.size, i, none⟩ = (#[.int .i64 3, .string a, .string b, .slice ao ps.length c] : Array Value)[i]? := fun W h => (hBd.below h).cells
        (refine WalkN.tk [0, 1, 2, 3, 4, 5, 6, 7] ?_; (iterate 8 ((refine TkN.c _ ?_ (by simp only [gtA, gtS, gtZ]; rfl) (by kernel_rfl) (by kernel_rfl) (by rfl) (fun W hW => ?_) ?_; rotate_left; · (go_simp; try with_reducible rfl)); simp only [Act.put, puA, puZ, puS])); refine TkN.n ?_)
        refine WalkN.one 8 (by kernel_rfl) ?_
        refine ⟨_, (by simp only [gtA, gtS, gtZ]; rfl), by rfl, fun K hK => ?_⟩
        go_simp
        refine (HOWa.out _).mono ?_
        rintro e w2 ⟨rfl, h2⟩
        have h3 := h2.symm
        subst h3
        clear h2
        refine hK.out _ _ (Ext.refl _) ?_
        clear hK HOWa
        ((refine WalkN.take 9 _ ?_ (by simp only [gtA, gtS, gtZ]; rfl) (by kernel_rfl) (by kernel_rfl) (by rfl) (fun W hW => ?_) ?_; rotate_left; · (go_simp; try with_reducible rfl)); simp only [Act.put, puA, puZ, puS])
        (refine WalkN.tk [10, 11] ?_; (iterate 2 ((refine TkN.c _ ?_ (by simp only [gtA, gtS, gtZ]; rfl) (by kernel_rfl) (by kernel_rfl) (by rfl) (fun W hW => ?_) ?_; rotate_left; · (go_simp; try with_reducible rfl)); simp only [Act.put, puA, puZ, puS])); refine TkN.n ?_)
        refine WalkN.one 12 (by kernel_rfl) ?_
        refine ⟨_, (by simp only [gtA, gtS, gtZ]; rfl), by rfl, fun K hK => ?_⟩
        go_simp
        refine (HOWb.out _).mono ?_
        rintro e w2 ⟨rfl, h2⟩
        have h3 := h2.symm
        subst h3
        clear h2
        refine hK.out _ _ (Ext.refl _) ?_
        clear hK HOWb
        (refine WalkN.tk [13, 14] ?_; (iterate 2 ((refine TkN.c _ ?_ (by simp only [gtA, gtS, gtZ]; rfl) (by kernel_rfl) (by kernel_rfl) (by rfl) (fun W hW => ?_) ?_; rotate_left; · (go_simp; try with_reducible rfl)); simp only [Act.put, puA, puZ, puS])); refine TkN.n ?_)
        (refine WalkN.tk [15, 16, 17, 18] ?_; (iterate 4 ((refine TkN.c _ ?_ (by simp only [gtA, gtS, gtZ]; rfl) (by kernel_rfl) (by kernel_rfl) (by rfl) (fun W hW => ?_) ?_; rotate_left; · (go_simp; try with_reducible rfl)); simp only [Act.put, puA, puZ, puS])); refine TkN.n ?_)
        (refine WalkN.tk [19, 20, 21] ?_; (iterate 3 ((refine TkN.c _ ?_ (by simp only [gtA, gtS, gtZ]; rfl) (by kernel_rfl) (by kernel_rfl) (by rfl) (fun W hW => ?_) ?_; rotate_left; · (go_simp; try with_reducible rfl)); simp only [Act.put, puA, puZ, puS])); refine TkN.n ?_)
        refine WalkN.done (by kernel_rfl) ?_
        have HBD := Lib.hid hbd
        clear h1 hBd hbd
        go_wp2_with fail
        go_ret2
        exact ⟨_, by rw [HT.out]; rfl, rfl, HBD.out⟩
      · have hp0 : ((ps.length : Int) == 0) = false := by rw [beq_eq_false_iff_ne]; omega
        have HT := Lib.hid (show (true && true && decide (ps.length = 0)) = false from by first | rfl | (simp [hlp]; done) | (simp [hlp]; rfl))
        clear hlp
        go_enter Tryz.func118, Tryz.ntmps118
        go_wp2_with fail
        obtain ⟨wd, hwd⟩ : ∃ wd, wd = (w.alloc (.cells #[.int .i64 3, .string a, .string b, .slice ao ps.length c] 98)).drew := ⟨_, rfl⟩
        have hBd : Blk wd w.heap.size #[.int .i64 3, .string a, .string b, .slice ao ps.length c] 98 := by rw [hwd]; exact (Blk.made w #[.int .i64 3, .string a, .string b, .slice ao ps.length c] 98).drew
        have hbd : Below w.heap.size w wd := by rw [hwd]; exact ((Below.refl _ _).alloc (Nat.le_refl _) _).drew
        refine region_walkN (Ext wd) (by rw [← hwd]; exact Ext.refl _) (by kernel_rfl) (by kernel_rfl) (fun _ _ d _ _ h => by cases d <;> exact h) ?_
        rw [← hwd]
        clear hwd hbk
        have h1 : ∀ W, Ext wd W → ∀ i, W.cell? ⟨w.heap.size, i, none⟩ = (#[.int .i64 3, .string a, .string b, .slice ao ps.length c] : Array Value)[i]? := fun W h => (hBd.below h).cells
        (refine WalkN.tk [0, 1, 2, 3, 4, 5, 6, 7] ?_; (iterate 8 ((refine TkN.c _ ?_ (by simp only [gtA, gtS, gtZ]; rfl) (by kernel_rfl) (by kernel_rfl) (by rfl) (fun W hW => ?_) ?_; rotate_left; · (go_simp; try with_reducible rfl)); simp only [Act.put, puA, puZ, puS])); refine TkN.n ?_)
        refine WalkN.one 8 (by kernel_rfl) ?_
        refine ⟨_, (by simp only [gtA, gtS, gtZ]; rfl), by rfl, fun K hK => ?_⟩
        go_simp
        refine (HOWa.out _).mono ?_
        rintro e w2 ⟨rfl, h2⟩
        have h3 := h2.symm
        subst h3
        clear h2
        refine hK.out _ _ (Ext.refl _) ?_
        clear hK HOWa
        ((refine WalkN.take 9 _ ?_ (by simp only [gtA, gtS, gtZ]; rfl) (by kernel_rfl) (by kernel_rfl) (by rfl) (fun W hW => ?_) ?_; rotate_left; · (go_simp; try with_reducible rfl)); simp only [Act.put, puA, puZ, puS])
        (refine WalkN.tk [10, 11] ?_; (iterate 2 ((refine TkN.c _ ?_ (by simp only [gtA, gtS, gtZ]; rfl) (by kernel_rfl) (by kernel_rfl) (by rfl) (fun W hW => ?_) ?_; rotate_left; · (go_simp; try with_reducible rfl)); simp only [Act.put, puA, puZ, puS])); refine TkN.n ?_)
        refine WalkN.one 12 (by kernel_rfl) ?_
        refine ⟨_, (by simp only [gtA, gtS, gtZ]; rfl), by rfl, fun K hK => ?_⟩
        go_simp
        refine (HOWb.out _).mono ?_
        rintro e w2 ⟨rfl, h2⟩
        have h3 := h2.symm
        subst h3
        clear h2
        refine hK.out _ _ (Ext.refl _) ?_
        clear hK HOWb
        (refine WalkN.tk [13, 14] ?_; (iterate 2 ((refine TkN.c _ ?_ (by simp only [gtA, gtS, gtZ]; rfl) (by kernel_rfl) (by kernel_rfl) (by rfl) (fun W hW => ?_) ?_; rotate_left; · (go_simp; try with_reducible rfl)); simp only [Act.put, puA, puZ, puS])); refine TkN.n ?_)
        (refine WalkN.tk [15, 16, 17, 18] ?_; (iterate 4 ((refine TkN.c _ ?_ (by simp only [gtA, gtS, gtZ]; rfl) (by kernel_rfl) (by kernel_rfl) (by rfl) (fun W hW => ?_) ?_; rotate_left; · (go_simp; try with_reducible rfl)); simp only [Act.put, puA, puZ, puS])); refine TkN.n ?_)
        (refine WalkN.tk [19, 20, 21] ?_; (iterate 3 ((refine TkN.c _ ?_ (by simp only [gtA, gtS, gtZ]; rfl) (by kernel_rfl) (by kernel_rfl) (by rfl) (fun W hW => ?_) ?_; rotate_left; · (go_simp; try with_reducible rfl)); simp only [Act.put, puA, puZ, puS])); refine TkN.n ?_)
        refine WalkN.done (by kernel_rfl) ?_
        have HBD := Lib.hid hbd
        clear h1 hBd hbd
        go_wp2_with fail
        go_ret2
        exact ⟨_, by rw [HT.out]; rfl, rfl, HBD.out⟩
    | false =>
      simp only [hob] at HOWb
      have HT := Lib.hid (show (true && false && decide (ps.length = 0)) = false from by first | rfl | (simp; done) | (simp; rfl))
      go_enter Tryz.func118, Tryz.ntmps118
      go_wp2_with fail
      obtain ⟨wd, hwd⟩ : ∃ wd, wd = (w.alloc (.cells #[.int .i64 3, .string a, .string b, .slice ao ps.length c] 98)).drew := ⟨_, rfl⟩
      have hBd : Blk wd w.heap.size #[.int .i64 3, .string a, .string b, .slice ao ps.length c] 98 := by rw [hwd]; exact (Blk.made w #[.int .i64 3, .string a, .string b, .slice ao ps.length c] 98).drew
      have hbd : Below w.heap.size w wd := by rw [hwd]; exact ((Below.refl _ _).alloc (Nat.le_refl _) _).drew
      refine region_walkN (Ext wd) (by rw [← hwd]; exact Ext.refl _) (by kernel_rfl) (by kernel_rfl) (fun _ _ d _ _ h => by cases d <;> exact h) ?_
      rw [← hwd]
      clear hwd hbk
      have h1 : ∀ W, Ext wd W → ∀ i, W.cell? ⟨w.heap.size, i, none⟩ = (#[.int .i64 3, .string a, .string b, .slice ao ps.length c] : Array Value)[i]? := fun W h => (hBd.below h).cells
      (refine WalkN.tk [0, 1, 2, 3, 4, 5, 6, 7] ?_; (iterate 8 ((refine TkN.c _ ?_ (by simp only [gtA, gtS, gtZ]; rfl) (by kernel_rfl) (by kernel_rfl) (by rfl) (fun W hW => ?_) ?_; rotate_left; · (go_simp; try with_reducible rfl)); simp only [Act.put, puA, puZ, puS])); refine TkN.n ?_)
      refine WalkN.one 8 (by kernel_rfl) ?_
      refine ⟨_, (by simp only [gtA, gtS, gtZ]; rfl), by rfl, fun K hK => ?_⟩
      go_simp
      refine (HOWa.out _).mono ?_
      rintro e w2 ⟨rfl, h2⟩
      have h3 := h2.symm
      subst h3
      clear h2
      refine hK.out _ _ (Ext.refl _) ?_
      clear hK HOWa
      ((refine WalkN.take 9 _ ?_ (by simp only [gtA, gtS, gtZ]; rfl) (by kernel_rfl) (by kernel_rfl) (by rfl) (fun W hW => ?_) ?_; rotate_left; · (go_simp; try with_reducible rfl)); simp only [Act.put, puA, puZ, puS])
      (refine WalkN.tk [10, 11] ?_; (iterate 2 ((refine TkN.c _ ?_ (by simp only [gtA, gtS, gtZ]; rfl) (by kernel_rfl) (by kernel_rfl) (by rfl) (fun W hW => ?_) ?_; rotate_left; · (go_simp; try with_reducible rfl)); simp only [Act.put, puA, puZ, puS])); refine TkN.n ?_)
      refine WalkN.one 12 (by kernel_rfl) ?_
      refine ⟨_, (by simp only [gtA, gtS, gtZ]; rfl), by rfl, fun K hK => ?_⟩
      go_simp
      refine (HOWb.out _).mono ?_
      rintro e w2 ⟨rfl, h2⟩
      have h3 := h2.symm
      subst h3
      clear h2
      refine hK.out _ _ (Ext.refl _) ?_
      clear hK HOWb
      (refine WalkN.tk [13, 14] ?_; (iterate 2 ((refine TkN.c _ ?_ (by simp only [gtA, gtS, gtZ]; rfl) (by kernel_rfl) (by kernel_rfl) (by rfl) (fun W hW => ?_) ?_; rotate_left; · (go_simp; try with_reducible rfl)); simp only [Act.put, puA, puZ, puS])); refine TkN.n ?_)
      (refine WalkN.skip 15 _ (by simp only [gtA, gtS, gtZ]; rfl) (by kernel_rfl) (by kernel_rfl) (by rfl) ?_; simp only [Act.put, puA, puZ, puS]); (refine WalkN.skip 16 _ (by simp only [gtA, gtS, gtZ]; rfl) (by kernel_rfl) (by kernel_rfl) (by rfl) ?_; simp only [Act.put, puA, puZ, puS]); (refine WalkN.skip 17 _ (by simp only [gtA, gtS, gtZ]; rfl) (by kernel_rfl) (by kernel_rfl) (by rfl) ?_; simp only [Act.put, puA, puZ, puS]); (refine WalkN.skip 18 _ (by simp only [gtA, gtS, gtZ]; rfl) (by kernel_rfl) (by kernel_rfl) (by rfl) ?_; simp only [Act.put, puA, puZ, puS])
      (refine WalkN.tk [19, 20, 21] ?_; (iterate 3 ((refine TkN.c _ ?_ (by simp only [gtA, gtS, gtZ]; rfl) (by kernel_rfl) (by kernel_rfl) (by rfl) (fun W hW => ?_) ?_; rotate_left; · (go_simp; try with_reducible rfl)); simp only [Act.put, puA, puZ, puS])); refine TkN.n ?_)
      refine WalkN.done (by kernel_rfl) ?_
      have HBD := Lib.hid hbd
      clear h1 hBd hbd
      go_wp2_with fail
      go_ret2
      exact ⟨_, by rw [HT.out]; rfl, rfl, HBD.out⟩
  | false =>
    simp only [hoa] at HOWa
    have HT := Lib.hid (show (false && ownB b && decide (ps.length = 0)) = false from by first | rfl | (simp; done) | (simp; rfl))
    go_enter Tryz.func118, Tryz.ntmps118
    go_wp2_with fail
    obtain ⟨wd, hwd⟩ : ∃ wd, wd = (w.alloc (.cells #[.int .i64 3, .string a, .string b, .slice ao ps.length c] 98)).drew := ⟨_, rfl⟩
    have hBd : Blk wd w.heap.size #[.int .i64 3, .string a, .string b, .slice ao ps.length c] 98 := by rw [hwd]; exact (Blk.made w #[.int .i64 3, .string a, .string b, .slice ao ps.length c] 98).drew
    have hbd : Below w.heap.size w wd := by rw [hwd]; exact ((Below.refl _ _).alloc (Nat.le_refl _) _).drew
    refine region_walkN (Ext wd) (by rw [← hwd]; exact Ext.refl _) (by kernel_rfl) (by kernel_rfl) (fun _ _ d _ _ h => by cases d <;> exact h) ?_
    rw [← hwd]
    clear hwd hbk
    have h1 : ∀ W, Ext wd W → ∀ i, W.cell? ⟨w.heap.size, i, none⟩ = (#[.int .i64 3, .string a, .string b, .slice ao ps.length c] : Array Value)[i]? := fun W h => (hBd.below h).cells
    (refine WalkN.tk [0, 1, 2, 3, 4, 5, 6, 7] ?_; (iterate 8 ((refine TkN.c _ ?_ (by simp only [gtA, gtS, gtZ]; rfl) (by kernel_rfl) (by kernel_rfl) (by rfl) (fun W hW => ?_) ?_; rotate_left; · (go_simp; try with_reducible rfl)); simp only [Act.put, puA, puZ, puS])); refine TkN.n ?_)
    refine WalkN.one 8 (by kernel_rfl) ?_
    refine ⟨_, (by simp only [gtA, gtS, gtZ]; rfl), by rfl, fun K hK => ?_⟩
    go_simp
    refine (HOWa.out _).mono ?_
    rintro e w2 ⟨rfl, h2⟩
    have h3 := h2.symm
    subst h3
    clear h2
    refine hK.out _ _ (Ext.refl _) ?_
    clear hK HOWa
    ((refine WalkN.take 9 _ ?_ (by simp only [gtA, gtS, gtZ]; rfl) (by kernel_rfl) (by kernel_rfl) (by rfl) (fun W hW => ?_) ?_; rotate_left; · (go_simp; try with_reducible rfl)); simp only [Act.put, puA, puZ, puS])
    (refine WalkN.skip 10 _ (by simp only [gtA, gtS, gtZ]; rfl) (by kernel_rfl) (by kernel_rfl) (by rfl) ?_; simp only [Act.put, puA, puZ, puS]); (refine WalkN.skip 11 _ (by simp only [gtA, gtS, gtZ]; rfl) (by kernel_rfl) (by kernel_rfl) (by rfl) ?_; simp only [Act.put, puA, puZ, puS]); (refine WalkN.skip 12 _ (by simp only [gtA, gtS, gtZ]; rfl) (by kernel_rfl) (by kernel_rfl) (by rfl) ?_; simp only [Act.put, puA, puZ, puS])
    (refine WalkN.tk [13, 14] ?_; (iterate 2 ((refine TkN.c _ ?_ (by simp only [gtA, gtS, gtZ]; rfl) (by kernel_rfl) (by kernel_rfl) (by rfl) (fun W hW => ?_) ?_; rotate_left; · (go_simp; try with_reducible rfl)); simp only [Act.put, puA, puZ, puS])); refine TkN.n ?_)
    (refine WalkN.skip 15 _ (by simp only [gtA, gtS, gtZ]; rfl) (by kernel_rfl) (by kernel_rfl) (by rfl) ?_; simp only [Act.put, puA, puZ, puS]); (refine WalkN.skip 16 _ (by simp only [gtA, gtS, gtZ]; rfl) (by kernel_rfl) (by kernel_rfl) (by rfl) ?_; simp only [Act.put, puA, puZ, puS]); (refine WalkN.skip 17 _ (by simp only [gtA, gtS, gtZ]; rfl) (by kernel_rfl) (by kernel_rfl) (by rfl) ?_; simp only [Act.put, puA, puZ, puS]); (refine WalkN.skip 18 _ (by simp only [gtA, gtS, gtZ]; rfl) (by kernel_rfl) (by kernel_rfl) (by rfl) ?_; simp only [Act.put, puA, puZ, puS])
    (refine WalkN.tk [19, 20, 21] ?_; (iterate 3 ((refine TkN.c _ ?_ (by simp only [gtA, gtS, gtZ]; rfl) (by kernel_rfl) (by kernel_rfl) (by rfl) (fun W hW => ?_) ?_; rotate_left; · (go_simp; try with_reducible rfl)); simp only [Act.put, puA, puZ, puS])); refine TkN.n ?_)
    refine WalkN.done (by kernel_rfl) ?_
    have HBD := Lib.hid hbd
    clear h1 hBd hbd
    go_wp2_with fail
    go_ret2
    exact ⟨_, by rw [HT.out]; rfl, rfl, HBD.out⟩
end Go.Proofs.YtjdigpfipmckhaaGreat
