/- The walks of cmp.Compare, cmp.Or, edit.order and sentryref16.Less: how tables stand in order. No condition: lemmas. -/
import Derived.Test.YtkllfdfipkcddaaEditA
namespace Go.Proofs.Ytkllfdfipkcddaa
open Go Go.RowKit

/-- Is a text less than another? -/
def ltS (a b : ByteArray) : Bool := Op.bytesLess a.toList b.toList
def cmpI (a b : Int) : Int := if a < b then -1 else if b < a then 1 else 0
def cmpS (a b : ByteArray) : Int := if ltS a b then -1 else if a = b then 0 else 1

set_option maxHeartbeats 400000 in
theorem cmpI_any (a b : Int) (w : World) : Calls Try.prog 47 #[.int .i64 a, .int .i64 b] w fun e w' => e = .returned (.int .i64 (cmpI a b)) ∧ w = w' := by
  have hor : a < b ∨ a = b ∨ b < a := by omega
  rcases hor with h | rfl | h
  · have HC := Lib.hid (show cmpI a b = -1 from by simp [cmpI, h])
    go_enter Try.func47, Try.ntmps47
    go_wp2
    go_ret
    exact ⟨by rw [HC.out]; rfl, rfl⟩
  · have HC := Lib.hid (show cmpI a a = 0 from by simp [cmpI])
    go_enter Try.func47, Try.ntmps47
    go_wp2
    go_ret
    exact ⟨by rw [HC.out]; rfl, rfl⟩
  · have h' : ¬ a < b := by omega
    have HC := Lib.hid (show cmpI a b = 1 from by simp [cmpI, h, h'])
    clear h'
    have h2 : b ≤ a := by omega
    go_enter Try.func47, Try.ntmps47
    go_wp2
    go_ret
    exact ⟨by rw [HC.out]; rfl, rfl⟩

set_option maxHeartbeats 400000 in
theorem cmpS_any (a b : ByteArray) (w : World) : Calls Try.prog 49 #[.string a, .string b] w fun e w' => e = .returned (.int .i64 (cmpS a b)) ∧ w = w' := by
  by_cases hl : ltS a b = true
  · have HC := Lib.hid (show cmpS a b = -1 from by simp [cmpS, hl])
    unfold ltS at hl
    go_enter Try.func49, Try.ntmps49
    go_wp2
    go_ret
    exact ⟨by rw [HC.out]; rfl, rfl⟩
  · have hl : ltS a b = false := by simpa using hl
    by_cases he : a = b
    · subst he
      have HC := Lib.hid (show cmpS a a = 0 from by simp [cmpS, hl])
      have h1 : Op.bytesLess a.toList a.toList = false := hl
      clear hl
      go_enter Try.func49, Try.ntmps49
      go_wp2
      go_ret
      exact ⟨by rw [HC.out]; rfl, rfl⟩
    · have HC := Lib.hid (show cmpS a b = 1 from by simp [cmpS, hl, he])
      have h1 : Op.bytesLess a.toList b.toList = false := hl
      have h2 := ba_beq' he
      rw [← ByteArray.toList_eq, ← ByteArray.toList_eq] at h2
      clear hl he
      go_enter Try.func49, Try.ntmps49
      go_wp2
      go_ret
      exact ⟨by rw [HC.out]; rfl, rfl⟩

/-- The first of two that is not 0. -/
def orI (a b : Int) : Int := if a = 0 then b else a

set_option maxHeartbeats 400000 in
theorem or_any (a b : Int) (B off cap : Nat) (w : World) (h0 : w.cell? ⟨B, off, none⟩ = some (.int .i64 a)) (h1 : w.cell? ⟨B, off + 1, none⟩ = some (.int .i64 b)) :
    Calls Try.prog 48 #[.slice (some ⟨B, off, none⟩) 2 cap] w fun e w' => e = .returned (.int .i64 (orI a b)) ∧ w = w' := by
  by_cases ha : a = 0
  · by_cases hb : b = 0
    · have HC := Lib.hid (show orI a b = 0 from by simp [orI, ha, hb])
      subst ha
      subst hb
      go_enter Try.func48, Try.ntmps48
      go_wp2
      go_loop [8] (fun i => i = .int .i64 0 ∨ i = .int .i64 1 ∨ i = .int .i64 2) (fun i => 2 - (intOf i).toNat)
      case atStart => exact .inl rfl
      case round =>
        rcases hrel with rfl | rfl | rfl
        · go_wp2
          go_round
          case rel => exact .inr (.inl rfl)
          case measure => decide
        · go_wp2
          go_round
          case rel => exact .inr (.inr rfl)
          case measure => decide
        · go_wp2
          go_ret
          exact ⟨by rw [HC.out]; rfl, rfl⟩
    · have HC := Lib.hid (show orI a b = b from by simp [orI, ha])
      subst ha
      have hb2 : (b != 0) = true := by simpa using hb
      clear hb
      go_enter Try.func48, Try.ntmps48
      go_wp2
      go_loop [8] (fun i => i = .int .i64 0 ∨ i = .int .i64 1) (fun i => 2 - (intOf i).toNat)
      case atStart => exact .inl rfl
      case round =>
        rcases hrel with rfl | rfl
        · go_wp2
          go_round
          case rel => exact .inr rfl
          case measure => decide
        · go_wp2
          go_ret
          exact ⟨by rw [HC.out]; rfl, rfl⟩
  · have HC := Lib.hid (show orI a b = a from by simp [orI, ha])
    have ha2 : (a != 0) = true := by simpa using ha
    clear ha
    go_enter Try.func48, Try.ntmps48
    go_wp2
    go_loop [8] (fun i => i = .int .i64 0) (fun i => 2 - (intOf i).toNat)
    case atStart => exact rfl
    case round =>
      subst hrel
      go_wp2
      go_ret
      exact ⟨by rw [HC.out]; rfl, rfl⟩

/-- How two tables stand. -/
def ordT (a b : Tab) : Int := if cmpI a.lvl b.lvl ≠ 0 then cmpI a.lvl b.lvl else if a.lvl = 0 then cmpI a.num b.num else orI (cmpS a.first b.first) (cmpI a.num b.num)

theorem or2 (a b : Int) (g : Nat) (W : World) (hg : W.heap.size = g) : Calls Try.prog 48 #[.slice (some ⟨g, 0, none⟩) 2 2] (W.alloc (.cells #[.int .i64 a, .int .i64 b] 3)) fun e w' =>
    e = .returned (.int .i64 (orI a b)) ∧ W.alloc (.cells #[.int .i64 a, .int .i64 b] 3) = w' := by
  subst hg
  exact or_any a b _ 0 2 _ ((Blk.made W _ _).cells 0) ((Blk.made W _ _).cells 1)

set_option maxRecDepth 100000 in
set_option maxHeartbeats 800000 in
theorem order_any (a b : Tab) (w : World) : Calls Try.prog 21 #[tV a, tV b] w fun e w' => e = .returned (.int .i64 (ordT a b)) ∧ Gr w w' := by
  obtain ⟨an, al, asz, af, ala⟩ := a
  obtain ⟨bn, bl, bsz, bf, bla⟩ := b
  unfold tV
  dsimp only
  have h1 := cmpI_any al bl
  have h2 := cmpI_any an bn
  have h3 := cmpS_any af bf
  by_cases hc : cmpI al bl = 0
  · by_cases hl : al = 0
    · have HO := Lib.hid (show ordT ⟨an, al, asz, af, ala⟩ ⟨bn, bl, bsz, bf, bla⟩ = orI (cmpI al bl) (cmpI an bn) from by subst hl; simp [ordT, hc, orI])
      rw [hc] at h1 HO
      subst hl
      generalize cmpI an bn = q at *
      clear h3 hc
      go_enter Try.func21, Try.ntmps21
      go_wp2_with fail
      refine (h1 _).mono ?_
      rintro e w' ⟨rfl, rfl⟩
      go_wp2_with fail
      refine (h2 _).mono ?_
      rintro e w' ⟨rfl, rfl⟩
      go_wp2_with fail
      refine (or2 0 q _ _ (by simp)).mono ?_
      rintro e w' ⟨rfl, rfl⟩
      go_wp2
      go_ret
      exact ⟨by rw [HO.out]; rfl, (((Gr.refl w).alloc _).alloc _).alloc _⟩
    · have HO := Lib.hid (show ordT ⟨an, al, asz, af, ala⟩ ⟨bn, bl, bsz, bf, bla⟩ = orI (cmpS af bf) (cmpI an bn) from by simp [ordT, hc, hl])
      rw [hc] at h1
      have hl2 : (al == 0) = false := by simpa using hl
      generalize cmpI an bn = q at *
      generalize cmpS af bf = s at *
      clear hc hl
      go_enter Try.func21, Try.ntmps21
      go_wp2_with fail
      refine (h1 _).mono ?_
      rintro e w' ⟨rfl, rfl⟩
      go_wp2_with fail
      generalize hw0 : World.alloc _ _ = w0
      have hA : ∀ W, Ext w0 W → ∀ i, W.cell? ⟨w.heap.size, i, none⟩ = (#[Value.int .i64 an, .int .i64 al, .int .i64 asz, .string af, .string ala] : Array Value)[i]? := fun W h => Blk.cells (Blk.below (hw0 ▸ (Blk.made w #[Value.int .i64 an, .int .i64 al, .int .i64 asz, .string af, .string ala] 38).alloc _) h)
      have hB : ∀ W, Ext w0 W → ∀ i, W.cell? ⟨w.heap.size + 1, i, none⟩ = (#[Value.int .i64 bn, .int .i64 bl, .int .i64 bsz, .string bf, .string bla] : Array Value)[i]? := fun W h => Blk.cells (Blk.below (hw0 ▸ Blk.made' (w := w.alloc (.cells #[Value.int .i64 an, .int .i64 al, .int .i64 asz, .string af, .string ala] 38)) (B := w.heap.size + 1) (by simp) #[Value.int .i64 bn, .int .i64 bl, .int .i64 bsz, .string bf, .string bla] 38) h)
      have HG := Lib.hid (show Gr w w0 from hw0 ▸ ((Gr.refl w).alloc _).alloc _)
      have hE : Ext w0 w0.drew := Ext.drew w0
      clear hw0
      refine region_walk [(0, true), (1, true), (2, true), (3, true), (5, true), (6, true), (7, true), (8, true), (4, false), (9, false), (10, false), (11, false), (12, true)] (by kernel_rfl) (by kernel_rfl) (by kernel_rfl) rfl (fun _ _ d _ _ h => by cases d <;> exact h) ?_
      iterate 8 ((refine Walk.take _ ?_ (by simp only [List.getElem?_toArray, List.getElem?_cons_succ, List.getElem?_cons_zero]; rfl) (by rfl) (fun W hW => ?_) ?_; rotate_left; · (have hE0 := hE.trans hW; go_simp; try with_reducible rfl)); simp only [Act.put, List.setIfInBounds_toArray, List.set_cons_zero, List.set_cons_succ])
      refine Walk.make _ (by simp only [List.getElem?_toArray, List.getElem?_cons_succ, List.getElem?_cons_zero]; rfl) (by rfl) (fun K hK => ?_); go_simp
      refine (h3 _).mono ?_
      rintro e w' ⟨rfl, rfl⟩
      refine hK.out _ _ (Ext.refl _) ?_
      clear hK
      refine Walk.make _ (by simp only [List.getElem?_toArray, List.getElem?_cons_succ, List.getElem?_cons_zero]; rfl) (by rfl) (fun K hK => ?_); go_simp
      refine (h2 _).mono ?_
      rintro e w' ⟨rfl, rfl⟩
      refine hK.out _ _ (Ext.refl _) ?_
      clear hK
      refine Walk.make _ (by simp only [List.getElem?_toArray, List.getElem?_cons_succ, List.getElem?_cons_zero]; rfl) (by rfl) (fun K hK => ?_); go_simp
      refine hK.out _ _ (Ext.alloc _ _) ?_
      have hE := hE.trans (Ext.alloc w0.drew (.cells #[.int .i64 s, .int .i64 q] 3))
      clear hK
      refine Walk.make _ (by simp only [List.getElem?_toArray, List.getElem?_cons_succ, List.getElem?_cons_zero]; rfl) (by rfl) (fun K hK => ?_); go_simp
      refine (or2 s q w0.heap.size w0.drew rfl).mono ?_
      rintro e w' ⟨rfl, rfl⟩
      refine hK.out _ _ (Ext.refl _) ?_
      clear hK
      iterate 1 ((refine Walk.take _ ?_ (by simp only [List.getElem?_toArray, List.getElem?_cons_succ, List.getElem?_cons_zero]; rfl) (by rfl) (fun W hW => ?_) ?_; rotate_left; · (have hE0 := hE.trans hW; go_simp; try with_reducible rfl)); simp only [Act.put, List.setIfInBounds_toArray, List.set_cons_zero, List.set_cons_succ])
      unfold Walk
      go_wp2
      go_ret
      exact ⟨by rw [HO.out]; rfl, HG.out.drew.alloc _⟩
  · have HO := Lib.hid (show ordT ⟨an, al, asz, af, ala⟩ ⟨bn, bl, bsz, bf, bla⟩ = orI (cmpI al bl) (cmpI an bn) from by simp [ordT, hc, orI])
    generalize cmpI al bl = c at *
    have hc2 : (c != 0) = true := by simpa using hc
    generalize cmpI an bn = q at *
    clear h3 hc
    go_enter Try.func21, Try.ntmps21
    go_wp2_with fail
    refine (h1 _).mono ?_
    rintro e w' ⟨rfl, rfl⟩
    go_wp2_with fail
    refine (h2 _).mono ?_
    rintro e w' ⟨rfl, rfl⟩
    go_wp2_with fail
    refine (or2 c q _ _ (by simp)).mono ?_
    rintro e w' ⟨rfl, rfl⟩
    go_wp2
    go_ret
    exact ⟨by rw [HO.out]; rfl, (((Gr.refl w).alloc _).alloc _).alloc _⟩

end Go.Proofs.Ytkllfdfipkcddaa
