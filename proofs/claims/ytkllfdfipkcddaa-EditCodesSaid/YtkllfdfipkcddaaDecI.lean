/- The walk of the document's SameEdit, at equal edits. No condition: lemmas. -/
import Derived.Test.YtkllfdfipkcddaaDecD
namespace Go.Proofs.Ytkllfdfipkcddaa
open Go Go.RowKit

set_option maxRecDepth 100000 in
set_option maxHeartbeats 1600000 in
theorem sameE_ok (av dv au du : Value) (x : Edi) (w : World) (ha : Sl (· < w.heap.size) w 5 av (tcs x.add)) (hd : Sl (· < w.heap.size) w 1 dv (ic x.drop)) (ka : Sl (· < w.heap.size) w 5 au (tcs x.add)) (kd : Sl (· < w.heap.size) w 1 du (ic x.drop)) :
    Calls Try.prog 17 #[eV av dv x, eV au du x] w (Ret (.bool true) w) := by
  obtain ⟨add, drop, fl, hh, lg, nx⟩ := x
  unfold eV
  dsimp only at *
  have hb0 : Below w.heap.size w ((w.alloc (.cells #[av, dv, .int .u64 fl, .int .u64 hh, .int .i64 lg, .int .i64 nx] 28)).alloc (.cells #[au, du, .int .u64 fl, .int .u64 hh, .int .i64 lg, .int .i64 nx] 28)) :=
    ((Below.refl _ _).alloc (Nat.le_refl _) _).alloc (by simp) _
  have hA := (Blk.made w #[av, dv, .int .u64 fl, .int .u64 hh, .int .i64 lg, .int .i64 nx] 28).alloc (.cells #[au, du, .int .u64 fl, .int .u64 hh, .int .i64 lg, .int .i64 nx] 28)
  have hB := Blk.made' (w := w.alloc (.cells #[av, dv, .int .u64 fl, .int .u64 hh, .int .i64 lg, .int .i64 nx] 28)) (B := w.heap.size + 1) (by simp) #[au, du, .int .u64 fl, .int .u64 hh, .int .i64 lg, .int .i64 nx] 28
  have HC := Lib.hid (sameT_ok av au add _ (ha.up hb0) (ka.up hb0))
  obtain ⟨aao, acp, rfl, _, _, _⟩ := ha.tabs
  obtain ⟨bao, bcp, rfl, _, _, _⟩ := ka.tabs
  obtain ⟨dao, dcp, rfl, hdc, hdm, hdcell⟩ := hd.ints
  obtain ⟨eao, ecp, rfl, hec, hem, hecell⟩ := kd.ints
  have HD := Lib.hid hdcell
  have HE := Lib.hid hecell
  have hAc := hA.cells
  have hBc := hB.cells
  clear ha hd ka kd hdcell hecell
  go_enter Try.func17, Try.ntmps17
  go_wp2_with fail
  refine HC.out.mono ?_
  rintro e w2 ⟨rfl, hb2⟩
  have hA2 := hA.below hb2
  have hB2 := hB.below hb2
  have hca := hA2.cells
  have hcb := hB2.cells
  have hb02 := hb0.trans (hb2.mono hb0.size)
  clear hAc hBc hA hB HC
  go_wp2_with fail
  go_loopw [52] (fun ii wr => ∃ i : Nat, i ≤ drop.length ∧ ii = .int .i64 i ∧ Below w.heap.size w wr ∧ Blk wr w.heap.size #[.slice aao add.length acp, .slice dao drop.length dcp, .int .u64 fl, .int .u64 hh, .int .i64 lg, .int .i64 nx] 28 ∧ Blk wr (w.heap.size + 1) #[.slice bao add.length bcp, .slice eao drop.length ecp, .int .u64 fl, .int .u64 hh, .int .i64 lg, .int .i64 nx] 28) (fun ii _ => drop.length - (intOf ii).toNat)
  case atStart => exact ⟨0, by omega, rfl, hb02, hA2, hB2⟩
  case round =>
    obtain ⟨i, hi, rfl, hbel, hAr, hBr⟩ := hrel
    clear hca hcb hA2 hB2 hb02
    by_cases hlt : i < drop.length
    · obtain ⟨b, off, rfl, hb, hc⟩ := HD.out (by omega)
      obtain ⟨b', off', rfl, hb', hc'⟩ := HE.out (by omega)
      have c0 := (hbel.cell (p := ⟨b, off + i, none⟩) hb).trans (hc i hlt)
      have c1 := (hbel.cell (p := ⟨b', off' + i, none⟩) hb').trans (hc' i hlt)
      have hbd : b < wr.heap.size := Nat.lt_of_lt_of_le hb hbel.size
      have hbd' : b' < wr.heap.size := Nat.lt_of_lt_of_le hb' hbel.size
      clear hc hc'
      generalize drop[i] = z at *
      go_wp2_with fail
      obtain ⟨wd, hwd⟩ : ∃ wd, wd = wr.drew := ⟨_, rfl⟩
      have hAd := hAr.drew
      have hBd := hBr.drew
      have hbe := hbel.drew
      have d0 : wr.drew.cell? ⟨b, off + i, none⟩ = _ := c0
      have d1 : wr.drew.cell? ⟨b', off' + i, none⟩ = _ := c1
      rw [← hwd] at hAd hBd hbe d0 d1
      refine region_walkN (Ext wd) (by rw [← hwd]; exact Ext.refl _) (by kernel_rfl) (by kernel_rfl) (fun _ _ d _ _ h => by cases d <;> exact h) ?_
      rw [← hwd]
      clear hwd c0 c1 hAr hBr hbel
      have h1 : ∀ W, Ext wd W → ∀ i, W.cell? ⟨w.heap.size, i, none⟩ = (#[.slice aao add.length acp, .slice (some ⟨b, off, none⟩) drop.length dcp, .int .u64 fl, .int .u64 hh, .int .i64 lg, .int .i64 nx] : Array Value)[i]? := fun W h => (hAd.below h).cells
      have h2 : ∀ W, Ext wd W → ∀ i, W.cell? ⟨w.heap.size + 1, i, none⟩ = (#[.slice bao add.length bcp, .slice (some ⟨b', off', none⟩) drop.length ecp, .int .u64 fl, .int .u64 hh, .int .i64 lg, .int .i64 nx] : Array Value)[i]? := fun W h => (hBd.below h).cells
      have h3 : ∀ W, Ext wd W → W.cell? ⟨b, off + i, none⟩ = some (.int .i64 z) := fun W h => h.cell d0
      have h4 : ∀ W, Ext wd W → W.cell? ⟨b', off' + i, none⟩ = some (.int .i64 z) := fun W h => h.cell d1
      ((refine WalkN.take 0 _ ?_ (by simp only [List.getElem?_toArray, List.getElem?_cons_zero]; rfl) (by kernel_rfl) (by kernel_rfl) (by rfl) (fun W hW => ?_) ?_; rotate_left; · (go_simp; try with_reducible rfl)); simp only [Act.put, List.setIfInBounds_toArray, List.set_cons_zero, List.set_cons_succ]); ((refine WalkN.take 1 _ ?_ (by simp only [List.getElem?_toArray, List.getElem?_cons_succ, List.getElem?_cons_zero]; rfl) (by kernel_rfl) (by kernel_rfl) (by rfl) (fun W hW => ?_) ?_; rotate_left; · (go_simp; try with_reducible rfl)); simp only [Act.put, List.setIfInBounds_toArray, List.set_cons_zero, List.set_cons_succ]); ((refine WalkN.take 2 _ ?_ (by simp only [List.getElem?_toArray, List.getElem?_cons_succ, List.getElem?_cons_zero]; rfl) (by kernel_rfl) (by kernel_rfl) (by rfl) (fun W hW => ?_) ?_; rotate_left; · (go_simp; try with_reducible rfl)); simp only [Act.put, List.setIfInBounds_toArray, List.set_cons_zero, List.set_cons_succ]); ((refine WalkN.take 3 _ ?_ (by simp only [List.getElem?_toArray, List.getElem?_cons_succ, List.getElem?_cons_zero]; rfl) (by kernel_rfl) (by kernel_rfl) (by rfl) (fun W hW => ?_) ?_; rotate_left; · (go_simp; try with_reducible rfl)); simp only [Act.put, List.setIfInBounds_toArray, List.set_cons_zero, List.set_cons_succ]); ((refine WalkN.take 4 _ ?_ (by simp only [List.getElem?_toArray, List.getElem?_cons_succ, List.getElem?_cons_zero]; rfl) (by kernel_rfl) (by kernel_rfl) (by rfl) (fun W hW => ?_) ?_; rotate_left; · (go_simp; try with_reducible rfl)); simp only [Act.put, List.setIfInBounds_toArray, List.set_cons_zero, List.set_cons_succ]); ((refine WalkN.take 5 _ ?_ (by simp only [List.getElem?_toArray, List.getElem?_cons_succ, List.getElem?_cons_zero]; rfl) (by kernel_rfl) (by kernel_rfl) (by rfl) (fun W hW => ?_) ?_; rotate_left; · (go_simp; try with_reducible rfl)); simp only [Act.put, List.setIfInBounds_toArray, List.set_cons_zero, List.set_cons_succ]); ((refine WalkN.take 6 _ ?_ (by simp only [List.getElem?_toArray, List.getElem?_cons_succ, List.getElem?_cons_zero]; rfl) (by kernel_rfl) (by kernel_rfl) (by rfl) (fun W hW => ?_) ?_; rotate_left; · (go_simp; try with_reducible rfl)); simp only [Act.put, List.setIfInBounds_toArray, List.set_cons_zero, List.set_cons_succ]); ((refine WalkN.take 7 _ ?_ (by simp only [List.getElem?_toArray, List.getElem?_cons_succ, List.getElem?_cons_zero]; rfl) (by kernel_rfl) (by kernel_rfl) (by rfl) (fun W hW => ?_) ?_; rotate_left; · (go_simp; try with_reducible rfl)); simp only [Act.put, List.setIfInBounds_toArray, List.set_cons_zero, List.set_cons_succ]); ((refine WalkN.take 8 _ ?_ (by simp only [List.getElem?_toArray, List.getElem?_cons_succ, List.getElem?_cons_zero]; rfl) (by kernel_rfl) (by kernel_rfl) (by rfl) (fun W hW => ?_) ?_; rotate_left; · (go_simp; try with_reducible rfl)); simp only [Act.put, List.setIfInBounds_toArray, List.set_cons_zero, List.set_cons_succ]); ((refine WalkN.take 9 _ ?_ (by simp only [List.getElem?_toArray, List.getElem?_cons_succ, List.getElem?_cons_zero]; rfl) (by kernel_rfl) (by kernel_rfl) (by rfl) (fun W hW => ?_) ?_; rotate_left; · (go_simp; try with_reducible rfl)); simp only [Act.put, List.setIfInBounds_toArray, List.set_cons_zero, List.set_cons_succ]); ((refine WalkN.take 10 _ ?_ (by simp only [List.getElem?_toArray, List.getElem?_cons_succ, List.getElem?_cons_zero]; rfl) (by kernel_rfl) (by kernel_rfl) (by rfl) (fun W hW => ?_) ?_; rotate_left; · (go_simp; try with_reducible rfl)); simp only [Act.put, List.setIfInBounds_toArray, List.set_cons_zero, List.set_cons_succ])
      clear h1 h2 h3 h4
      refine WalkN.done (by kernel_rfl) ?_
      go_wp2
      go_roundw
      case rel => exact ⟨i + 1, by omega, by go_num, hbe, hAd, hBd⟩
      case measure => simp [intOf]; omega
    · obtain rfl : i = drop.length := by omega
      go_wp2
      go_ret
      exact ⟨rfl, hbel⟩

end Go.Proofs.Ytkllfdfipkcddaa
