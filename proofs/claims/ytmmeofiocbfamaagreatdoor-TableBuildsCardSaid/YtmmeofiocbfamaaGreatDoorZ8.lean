/- frame's Next. The filter of keys: the plain law. bloom's Hash, start, many. No condition: lemmas. -/
import Derived.Test.YtmmeofiocbfamaaGreatDoorZ7
import Derived.Test.YtmmeofiocbfamaaGreatDoorZ2
import Derived.Test.YtmmeofiocbfamaaGreatDoorZ0
namespace Go.Proofs.YtmmeofiocbfamaaGreatDoor
open Go Go.RowKit

theorem bc_take (l : List UInt8) (k : Nat) : (bc l).take k = bc (l.take k) := by unfold bc; rw [List.map_take]
theorem bc_drop (l : List UInt8) (k : Nat) : (bc l).drop k = bc (l.drop k) := by unfold bc; rw [List.map_drop]

set_option maxRecDepth 100000 in
set_option maxHeartbeats 1000000 in
theorem nextF_any (v : Value) (bs : List UInt8) (w : World) (h : Sl (· < w.heap.size) w 1 v (bc bs)) (hl : bs.length ≤ 10000000) :
    Calls Tryz.prog 71 #[v] w fun e w' => ∃ v', e = .returned (.tuple #[v', .int .i64 (nextB bs).2.1, .int .i64 (nextB bs).2.2]) ∧ Sl (fun b => w.heap.size ≤ b ∧ b < w'.heap.size) w' 1 v' (bc (nextB bs).1) ∧ Ext w w' := by
  have HS := Lib.hid h
  obtain ⟨ao, c, rfl, hlc, hcm, -, hcell⟩ := Sl.bytes h
  by_cases h8 : bs.length < 8
  · have HR := Lib.hid (show nextB bs = ([], 0, 7) from by unfold nextB; rw [if_pos (.inl h8)])
    clear h hcell
    go_enter Tryz.func71, Tryz.ntmps71
    go_wp2_with fail
    go_ret3
    rw [HR.out]
    exact ⟨_, rfl, Sl.nil _ _ _, Ext.refl _⟩
  · obtain ⟨b, off, rfl, hb, -⟩ := hcell (by omega)
    have h8' : (8 : Int) ≤ (bs.length : Int) := by omega
    have HG1 := Lib.hid (get_frame _ bs w h (by omega))
    have HG4 := Lib.hid (get4_lt bs)
    clear h hcell
    by_cases hg : bs.length - 8 < get4 bs
    · have HR := Lib.hid (show nextB bs = ([], 0, 7) from by unfold nextB; rw [if_pos (.inr hg)])
      have hgi : ((bs.length : Int) - 8) < (get4 bs : Int) := by omega
      generalize get4 bs = g at *
      go_enter Tryz.func71, Tryz.ntmps71
      go_wp2_with fail
      refine HG1.out.mono ?_
      rintro e w1 ⟨rfl, hb1⟩
      have hg4 := HG4.out
      have HX1 := Lib.hid (show Ext w w1 from hb1)
      clear HG1 hb1
      go_wp2_with fail
      go_ret3
      rw [HR.out]
      exact ⟨_, rfl, Sl.nil _ _ _, HX1.out⟩
    · have hgi : ¬ (((bs.length : Int) - 8) < (get4 bs : Int)) := by omega
      have HR := Lib.hid (show nextB bs = if sumB ((bs.drop 8).take (get4 bs)) ≠ get4 (bs.drop 4) then ([], 0, 8) else ((bs.drop 8).take (get4 bs), 8 + get4 bs, 0) from by unfold nextB; rw [if_neg (by omega)])
      have HGL := Lib.hid (show get4 bs ≤ bs.length - 8 from by omega)
      have HG2 := Lib.hid (fun W (hW : Ext w W) => get_frame _ bs W (HS.out.up hW) (by omega))
      generalize get4 bs = g at *
      go_enter Tryz.func71, Tryz.ntmps71
      go_wp2_with fail
      refine HG1.out.mono ?_
      rintro e w1 ⟨rfl, hb1⟩
      have hg4 := HG4.out
      have HX1 := Lib.hid (show Ext w w1 from hb1)
      clear HG1 hb1
      have HG3 := Lib.hid (HG2.out w1 HX1.out)
      go_wp2_with fail
      refine HG3.out.mono ?_
      rintro e w2 ⟨rfl, hb2⟩
      have HX2 := Lib.hid (show Ext w w2 from HX1.out.trans hb2)
      have hs1 : (8 : Int) + (g : Int) ≤ (c : Int) := by have := HGL.out; omega
      have hs2 : (8 : Int) ≤ (8 : Int) + (g : Int) := by omega
      have hs3 : (4 : Int) ≤ (bs.length : Int) := by omega
      clear HG3 hb2
      have HLL := Lib.hid (show 8 ≤ bs.length ∧ bs.length ≤ c ∧ c ≤ 9223372036854775807 ∧ bs.length ≤ 10000000 ∧ g < 4294967296 from by have := HG4.out; omega)
      have hgb : g ≤ 10000000 := by have := HGL.out; omega
      clear hs3 hgi hg4 hg h8' hlc hcm hl h8
      by_cases hc8 : c = 8
      · subst hc8
        obtain rfl : g = 0 := by have := HGL.out; have := HLL.out; omega
        clear hs1 hs2 hgb
        simp only [List.take_zero] at HR
        have HP5 := Lib.hid (show Sl (· < w.heap.size) w 1 (.slice (some ⟨b, off, none⟩) 0 0) (bc ([] : List UInt8)) from by
          have := (HS.out.tailK (ao' := (some ⟨b, off, none⟩)) 8 (by have := HLL.out; omega) (by intro h; first | exact absurd rfl h | (simp [Addr.add_lit]))).take 0 (by have := HGL.out; omega)
          (simpa [bc] using this))
        have HP4 := Lib.hid (show Sl (· < w.heap.size) w 1 (.slice (some ⟨b, off + 4, none⟩) (bs.length - 4) (8 - 4)) (bc (bs.drop 4)) from by
          have := HS.out.tailK (ao' := some ⟨b, off + 4, none⟩) 4 (by have := HLL.out; omega) (fun _ => by simp [Addr.add_lit])
          rwa [bc_drop] at this)
        have hc4 : ¬ (8 = 4) := by have := HLL.out; omega
        go_wp2_with fail
        obtain ⟨wd, hwd⟩ : ∃ wd, wd = w2.drew := ⟨_, rfl⟩
        have HXd := Lib.hid (show Ext w wd from by rw [hwd]; exact HX2.out.trans (Ext.drew w2))
        have hE := Lib.hid (Ext.refl wd)
        refine region_walkN (Ext wd) (by rw [← hwd]; exact Ext.refl _) (by kernel_rfl) (by kernel_rfl) (fun _ _ d _ _ h => by cases d <;> exact h) ?_
        rw [← hwd]
        clear hwd
        have hs3 : (4 : Int) ≤ (bs.length : Int) := by have := HLL.out; omega
        ((refine WalkN.take 0 _ ?_ (by simp only [List.getElem?_toArray, List.getElem?_cons_zero]; rfl) (by kernel_rfl) (by kernel_rfl) (by rfl) (fun W hW => ?_) ?_; rotate_left; · (go_simp; try with_reducible rfl)); simp only [Act.put, List.setIfInBounds_toArray, List.set_cons_zero, List.set_cons_succ]); ((refine WalkN.take 2 _ ?_ (by simp only [List.getElem?_toArray, List.getElem?_cons_succ, List.getElem?_cons_zero]; rfl) (by kernel_rfl) (by kernel_rfl) (by rfl) (fun W hW => ?_) ?_; rotate_left; · (go_simp; try with_reducible rfl)); simp only [Act.put, List.setIfInBounds_toArray, List.set_cons_zero, List.set_cons_succ]); ((refine WalkN.take 3 _ ?_ (by simp only [List.getElem?_toArray, List.getElem?_cons_succ, List.getElem?_cons_zero]; rfl) (by kernel_rfl) (by kernel_rfl) (by rfl) (fun W hW => ?_) ?_; rotate_left; · (go_simp; try with_reducible rfl)); simp only [Act.put, List.setIfInBounds_toArray, List.set_cons_zero, List.set_cons_succ])
        clear hs3
        refine WalkN.one 1 (by kernel_rfl) ?_
        refine ⟨_, (by simp only [List.getElem?_toArray, List.getElem?_cons_succ, List.getElem?_cons_zero]; rfl), by rfl, fun K hK => ?_⟩
        go_simp
        refine (sum_any (S := (· < w.heap.size)) _ ([] : List UInt8) wd (fun b (hb : b < w.heap.size) => Nat.lt_of_lt_of_le hb (HXd.out.trans hE.out).size) (HP5.out.same (Same.below (HXd.out.trans hE.out)))).mono ?_
        rintro e u1 ⟨rfl, hb0⟩
        have hX0 : Ext wd u1 := Ext.trans hE.out hb0
        refine hK.out _ _ hX0 ?_
        clear hK hb0
        have hE := Lib.hid hX0
        clear hX0
        refine WalkN.one 4 (by kernel_rfl) ?_
        refine ⟨_, (by simp only [List.getElem?_toArray, List.getElem?_cons_succ, List.getElem?_cons_zero]; rfl), by rfl, fun K hK => ?_⟩
        go_simp
        refine (get_frame _ (bs.drop 4) u1 (HP4.out.same (Same.below (HXd.out.trans hE.out))) (by have := HLL.out; rw [List.length_drop]; omega)).mono ?_
        rintro e u2 ⟨rfl, hb1⟩
        have hX1 : Ext wd u2 := Ext.trans hE.out hb1
        refine hK.out _ _ hX1 ?_
        clear hK hb1
        have hE := Lib.hid hX1
        clear hX1
        refine WalkN.one 5 (by kernel_rfl) ?_
        refine ⟨_, (by simp only [List.getElem?_toArray, List.getElem?_cons_succ, List.getElem?_cons_zero]; rfl), by rfl, fun K hK => ?_⟩
        go_simp
        refine hK.out _ _ hE.out ?_
        clear hK
        obtain ⟨u3, rfl⟩ : ∃ x, x = u2 := ⟨_, rfl⟩
        refine WalkN.done (by kernel_rfl) ?_
        generalize u3 = w5 at *
        have HX5 := Lib.hid (show Ext w w5 from HXd.out.trans hE.out)
        clear hE
        by_cases hsm : sumB ([] : List UInt8) = get4 (bs.drop 4)
        · have HR2 := Lib.hid (show nextB bs = ((bs.drop 8).take 0, 8 + 0, 0) from by rw [HR.out]; exact if_neg (fun h => h hsm))
          have HCL := Lib.hid (clone8_any (S := (· < w.heap.size)) _ ([] : List UInt8) w5 (fun b (hb : b < w.heap.size) => Nat.lt_of_lt_of_le hb HX5.out.size) (HP5.out.same (Same.below HX5.out)) (by have := HLL.out; simp))
          rw [hsm]
          clear hsm
          have hne : (((get4 (bs.drop 4) : Nat) : Int) != ((get4 (bs.drop 4) : Nat) : Int)) = false := by simp
          generalize get4 (bs.drop 4) = g4 at *
          go_wp2_with fail
          refine HCL.out.mono ?_
          rintro e w6 ⟨v6, rfl, hs6, hb6⟩
          have HX6 := Lib.hid (show Ext w w6 from HX5.out.trans hb6)
          have HS6 := Lib.hid (hs6.mono (T := fun b => w.heap.size ≤ b ∧ b < w6.heap.size) fun b hb => ⟨Nat.le_trans HX5.out.size hb.1, hb.2⟩)
          obtain ⟨ao6, n6, c6, rfl, -, -, -⟩ := hs6.len
          clear hs6 hb6 HCL
          go_wp2_with fail
          go_ret3
          rw [HR2.out]
          exact ⟨_, by first | rfl | (simp; omega), HS6.out, HX6.out⟩
        · have HR2 := Lib.hid (show nextB bs = ([], 0, 8) from by rw [HR.out]; exact if_pos hsm)
          have hne : (((sumB ([] : List UInt8) : Nat) : Int) != ((get4 (bs.drop 4) : Nat) : Int)) = true := by rw [bne_iff_ne]; omega
          clear hsm
          go_wp2_with fail
          go_ret3
          rw [HR2.out]
          exact ⟨_, rfl, Sl.nil _ _ _, HX5.out⟩
      · have HP5 := Lib.hid (show Sl (· < w.heap.size) w 1 (.slice (some ⟨b, off + 8, none⟩) g (c - 8)) (bc ((bs.drop 8).take g)) from by
          have := (HS.out.tailK (ao' := (some ⟨b, off + 8, none⟩)) 8 (by have := HLL.out; omega) (by intro h; first | exact absurd rfl h | (simp [Addr.add_lit]))).take g (by have := HGL.out; omega)
          rwa [bc_drop, Nat.mul_one, bc_take] at this)
        have HP4 := Lib.hid (show Sl (· < w.heap.size) w 1 (.slice (some ⟨b, off + 4, none⟩) (bs.length - 4) (c - 4)) (bc (bs.drop 4)) from by
          have := HS.out.tailK (ao' := some ⟨b, off + 4, none⟩) 4 (by have := HLL.out; omega) (fun _ => by simp [Addr.add_lit])
          rwa [bc_drop] at this)
        have hc4 : ¬ (c = 4) := by have := HLL.out; omega
        go_wp2_with fail
        obtain ⟨wd, hwd⟩ : ∃ wd, wd = w2.drew := ⟨_, rfl⟩
        have HXd := Lib.hid (show Ext w wd from by rw [hwd]; exact HX2.out.trans (Ext.drew w2))
        have hE := Lib.hid (Ext.refl wd)
        refine region_walkN (Ext wd) (by rw [← hwd]; exact Ext.refl _) (by kernel_rfl) (by kernel_rfl) (fun _ _ d _ _ h => by cases d <;> exact h) ?_
        rw [← hwd]
        clear hwd
        have hs3 : (4 : Int) ≤ (bs.length : Int) := by have := HLL.out; omega
        ((refine WalkN.take 0 _ ?_ (by simp only [List.getElem?_toArray, List.getElem?_cons_zero]; rfl) (by kernel_rfl) (by kernel_rfl) (by rfl) (fun W hW => ?_) ?_; rotate_left; · (go_simp; try with_reducible rfl)); simp only [Act.put, List.setIfInBounds_toArray, List.set_cons_zero, List.set_cons_succ]); ((refine WalkN.take 2 _ ?_ (by simp only [List.getElem?_toArray, List.getElem?_cons_succ, List.getElem?_cons_zero]; rfl) (by kernel_rfl) (by kernel_rfl) (by rfl) (fun W hW => ?_) ?_; rotate_left; · (go_simp; try with_reducible rfl)); simp only [Act.put, List.setIfInBounds_toArray, List.set_cons_zero, List.set_cons_succ]); ((refine WalkN.take 3 _ ?_ (by simp only [List.getElem?_toArray, List.getElem?_cons_succ, List.getElem?_cons_zero]; rfl) (by kernel_rfl) (by kernel_rfl) (by rfl) (fun W hW => ?_) ?_; rotate_left; · (go_simp; try with_reducible rfl)); simp only [Act.put, List.setIfInBounds_toArray, List.set_cons_zero, List.set_cons_succ])
        clear hs3
        refine WalkN.one 1 (by kernel_rfl) ?_
        refine ⟨_, (by simp only [List.getElem?_toArray, List.getElem?_cons_succ, List.getElem?_cons_zero]; rfl), by rfl, fun K hK => ?_⟩
        go_simp
        refine (sum_any (S := (· < w.heap.size)) _ ((bs.drop 8).take g) wd (fun b (hb : b < w.heap.size) => Nat.lt_of_lt_of_le hb (HXd.out.trans hE.out).size) (HP5.out.same (Same.below (HXd.out.trans hE.out)))).mono ?_
        rintro e u1 ⟨rfl, hb0⟩
        have hX0 : Ext wd u1 := Ext.trans hE.out hb0
        refine hK.out _ _ hX0 ?_
        clear hK hb0
        have hE := Lib.hid hX0
        clear hX0
        refine WalkN.one 4 (by kernel_rfl) ?_
        refine ⟨_, (by simp only [List.getElem?_toArray, List.getElem?_cons_succ, List.getElem?_cons_zero]; rfl), by rfl, fun K hK => ?_⟩
        go_simp
        refine (get_frame _ (bs.drop 4) u1 (HP4.out.same (Same.below (HXd.out.trans hE.out))) (by have := HLL.out; rw [List.length_drop]; omega)).mono ?_
        rintro e u2 ⟨rfl, hb1⟩
        have hX1 : Ext wd u2 := Ext.trans hE.out hb1
        refine hK.out _ _ hX1 ?_
        clear hK hb1
        have hE := Lib.hid hX1
        clear hX1
        refine WalkN.one 5 (by kernel_rfl) ?_
        refine ⟨_, (by simp only [List.getElem?_toArray, List.getElem?_cons_succ, List.getElem?_cons_zero]; rfl), by rfl, fun K hK => ?_⟩
        go_simp
        refine hK.out _ _ hE.out ?_
        clear hK
        obtain ⟨u3, rfl⟩ : ∃ x, x = u2 := ⟨_, rfl⟩
        refine WalkN.done (by kernel_rfl) ?_
        generalize u3 = w5 at *
        have HX5 := Lib.hid (show Ext w w5 from HXd.out.trans hE.out)
        clear hE
        by_cases hsm : sumB ((bs.drop 8).take g) = get4 (bs.drop 4)
        · have HR2 := Lib.hid (show nextB bs = ((bs.drop 8).take g, 8 + g, 0) from by rw [HR.out]; exact if_neg (fun h => h hsm))
          have HCL := Lib.hid (clone8_any (S := (· < w.heap.size)) _ ((bs.drop 8).take g) w5 (fun b (hb : b < w.heap.size) => Nat.lt_of_lt_of_le hb HX5.out.size) (HP5.out.same (Same.below HX5.out)) (by have := HLL.out; rw [List.length_take, List.length_drop]; omega))
          rw [hsm]
          clear hsm
          have hne : (((get4 (bs.drop 4) : Nat) : Int) != ((get4 (bs.drop 4) : Nat) : Int)) = false := by simp
          generalize get4 (bs.drop 4) = g4 at *
          go_wp2_with fail
          refine HCL.out.mono ?_
          rintro e w6 ⟨v6, rfl, hs6, hb6⟩
          have HX6 := Lib.hid (show Ext w w6 from HX5.out.trans hb6)
          have HS6 := Lib.hid (hs6.mono (T := fun b => w.heap.size ≤ b ∧ b < w6.heap.size) fun b hb => ⟨Nat.le_trans HX5.out.size hb.1, hb.2⟩)
          obtain ⟨ao6, n6, c6, rfl, -, -, -⟩ := hs6.len
          clear hs6 hb6 HCL
          go_wp2_with fail
          go_ret3
          rw [HR2.out]
          exact ⟨_, by first | rfl | (simp; omega), HS6.out, HX6.out⟩
        · have HR2 := Lib.hid (show nextB bs = ([], 0, 8) from by rw [HR.out]; exact if_pos hsm)
          have hne : (((sumB ((bs.drop 8).take g) : Nat) : Int) != ((get4 (bs.drop 4) : Nat) : Int)) = true := by rw [bne_iff_ne]; omega
          clear hsm
          go_wp2_with fail
          go_ret3
          rw [HR2.out]
          exact ⟨_, rfl, Sl.nil _ _ _, HX5.out⟩

end Go.Proofs.YtmmeofiocbfamaaGreatDoor
namespace Go.Proofs.YtmmeofiocbfamaaGreatDoor
open Go

/-- A key's place number i among so many bits. -/
def stepD (key : List UInt8) : Nat := if hashB key / 4294967296 % 2 = 0 then hashB key / 4294967296 + 1 else hashB key / 4294967296
def plcN (key : List UInt8) (bits i : Nat) : Nat := (hashB key % 4294967296 + i * stepD key) % bits
def setB (l : List UInt8) (k : Nat) : List UInt8 := l.set (k / 8) (UInt8.ofNat ((l.getD (k / 8) 0).toNat ||| 2 ^ (k % 8)))
def hasB (l : List UInt8) (k : Nat) : Bool := (l.getD (k / 8) 0).toNat.testBit (k % 8)
def manyN (b : Nat) : Nat := min (max (69 * b / 100) 1) 30
def bitsN (b : Int) : Nat := (min (max b 1) 40).toNat
def fillK (n m : Nat) (l : List UInt8) (key : List UInt8) : List UInt8 := (List.range m).foldl (fun l i => setB l (plcN key (8 * n) i)) l
def bloomN (len b : Nat) : Nat := (max (len * b) 64 + 7) / 8
/-- The filter of keys. -/
def bloomB (keys : List (List UInt8)) (b : Int) : List UInt8 :=
  keys.foldl (fillK (bloomN keys.length (bitsN b)) (manyN (bitsN b))) (List.replicate (bloomN keys.length (bitsN b)) 0) ++ [UInt8.ofNat (manyN (bitsN b))]
def mayB (f key : List UInt8) : Bool :=
  if f.length < 9 ∨ (f.getD (f.length - 1) 0).toNat = 0 ∨ 30 < (f.getD (f.length - 1) 0).toNat then true
  else (List.range (f.getD (f.length - 1) 0).toNat).all fun i => hasB f (plcN key (8 * (f.length - 1)) i)
theorem setB_length (l : List UInt8) (k : Nat) : (setB l k).length = l.length := by unfold setB; rw [List.length_set]
theorem or_lt8 (a k : Nat) (h : a < 256) : a ||| 2 ^ (k % 8) < 256 := by
  have : 2 ^ (k % 8) < 2 ^ 8 := Nat.pow_lt_pow_right (by omega) (by omega)
  exact Nat.or_lt_two_pow (n := 8) h this
theorem setB_has (l : List UInt8) (k : Nat) (h : k / 8 < l.length) : hasB (setB l k) k = true := by
  unfold hasB setB
  rw [List.getD_eq_getElem?_getD, List.getElem?_set_self (by simpa using h)]
  have h2 : (l.getD (k / 8) 0).toNat ||| 2 ^ (k % 8) < 256 := or_lt8 _ _ (UInt8.toNat_lt _)
  simp only [Option.getD_some]
  rw [show (UInt8.ofNat ((l.getD (k / 8) 0).toNat ||| 2 ^ (k % 8))).toNat = (l.getD (k / 8) 0).toNat ||| 2 ^ (k % 8) from by simp only [UInt8.toNat_ofNat']; exact Nat.mod_eq_of_lt h2, Nat.testBit_or, Nat.testBit_two_pow_self, Bool.or_true]
theorem setB_keep (l : List UInt8) (k j : Nat) (h : hasB l j = true) : hasB (setB l k) j = true := by
  unfold hasB setB at *
  by_cases hkj : k / 8 = j / 8
  · by_cases hl : k / 8 < l.length
    · rw [List.getD_eq_getElem?_getD, ← hkj, List.getElem?_set_self (by simpa using hl)]
      have h2 : (l.getD (k / 8) 0).toNat ||| 2 ^ (k % 8) < 256 := or_lt8 _ _ (UInt8.toNat_lt _)
      simp only [Option.getD_some]
      rw [show (UInt8.ofNat ((l.getD (k / 8) 0).toNat ||| 2 ^ (k % 8))).toNat = (l.getD (k / 8) 0).toNat ||| 2 ^ (k % 8) from by simp only [UInt8.toNat_ofNat']; exact Nat.mod_eq_of_lt h2, Nat.testBit_or, hkj, h, Bool.true_or]
    · rw [List.set_eq_of_length_le (by omega)]; exact h
  · rw [List.getD_eq_getElem?_getD, List.getElem?_set_ne hkj, ← List.getD_eq_getElem?_getD]; exact h
theorem foldB_length {α : Type} (f : α → Nat) : ∀ (r : List α) (l : List UInt8), (r.foldl (fun l i => setB l (f i)) l).length = l.length
  | [], _ => rfl
  | a :: r, l => by rw [List.foldl_cons, foldB_length f r, setB_length]
theorem foldB_keep {α : Type} (f : α → Nat) (j : Nat) : ∀ (r : List α) (l : List UInt8), hasB l j = true → hasB (r.foldl (fun l i => setB l (f i)) l) j = true
  | [], _, h => h
  | a :: r, l, h => by rw [List.foldl_cons]; exact foldB_keep f j r _ (setB_keep l _ j h)
theorem foldB_has {α : Type} (f : α → Nat) : ∀ (r : List α) (l : List UInt8) (a : α), a ∈ r → (∀ x ∈ r, f x / 8 < l.length) → hasB (r.foldl (fun l i => setB l (f i)) l) (f a) = true
  | [], _, _, h, _ => by cases h
  | b :: r, l, a, h, hl => by
    rw [List.foldl_cons]
    rcases List.mem_cons.1 h with rfl | h
    · exact foldB_keep f _ r _ (setB_has l _ (hl a List.mem_cons_self))
    · exact foldB_has f r _ a h fun x hx => by rw [setB_length]; exact hl x (List.mem_cons_of_mem _ hx)
theorem fillK_length (n m : Nat) (l key : List UInt8) : (fillK n m l key).length = l.length := foldB_length _ _ _
theorem fillL_length (n m : Nat) : ∀ (ks : List (List UInt8)) (l : List UInt8), (ks.foldl (fillK n m) l).length = l.length
  | [], _ => rfl
  | k :: ks, l => by rw [List.foldl_cons, fillL_length n m ks, fillK_length]
theorem fillL_keep (n m j : Nat) : ∀ (ks : List (List UInt8)) (l : List UInt8), hasB l j = true → hasB (ks.foldl (fillK n m) l) j = true
  | [], _, h => h
  | k :: ks, l, h => by rw [List.foldl_cons]; exact fillL_keep n m j ks _ (foldB_keep _ j _ _ h)
theorem plcN_lt (key : List UInt8) (n i : Nat) (h : 0 < n) : plcN key (8 * n) i / 8 < n := by
  unfold plcN
  have := Nat.mod_lt (hashB key % 4294967296 + i * stepD key) (show 0 < 8 * n by omega)
  omega
theorem fillL_has (n m : Nat) (hn : 0 < n) : ∀ (ks : List (List UInt8)) (l : List UInt8) (k : List UInt8) (i : Nat), l.length = n → k ∈ ks → i < m → hasB (ks.foldl (fillK n m) l) (plcN k (8 * n) i) = true
  | [], _, _, _, _, h, _ => by cases h
  | a :: ks, l, k, i, hl, h, hi => by
    rw [List.foldl_cons]
    rcases List.mem_cons.1 h with rfl | h
    · exact fillL_keep n m _ ks _ (foldB_has (fun i => plcN k (8 * n) i) (List.range m) l i (List.mem_range.2 hi) fun x _ => by rw [hl]; exact plcN_lt k n x hn)
    · exact fillL_has n m hn ks _ k i (by rw [fillK_length]; exact hl) h hi
theorem manyN_bound (b : Nat) : 1 ≤ manyN b ∧ manyN b ≤ 30 := by unfold manyN; omega
theorem bloomN_pos (len b : Nat) : 8 ≤ bloomN len b := by unfold bloomN; omega
theorem hasB_app (l r : List UInt8) (k : Nat) (h : k / 8 < l.length) : hasB (l ++ r) k = hasB l k := by
  unfold hasB
  rw [List.getD_eq_getElem?_getD, List.getElem?_append_left h, ← List.getD_eq_getElem?_getD]
/-- What is in the filter may be in it. -/
theorem may_bloom (ks : List (List UInt8)) (b : Int) (k : List UInt8) (h : k ∈ ks) : mayB (bloomB ks b) k = true := by
  unfold mayB bloomB
  generalize hm : manyN (bitsN b) = m
  generalize hn : bloomN ks.length (bitsN b) = n
  have hmb : 1 ≤ m ∧ m ≤ 30 := hm ▸ manyN_bound _
  have hnb : 8 ≤ n := hn ▸ bloomN_pos _ _
  have hlen : (ks.foldl (fillK n m) (List.replicate n 0)).length = n := by rw [fillL_length, List.length_replicate]
  rw [List.length_append, hlen, List.length_singleton, Nat.add_sub_cancel]
  have hlast : ((ks.foldl (fillK n m) (List.replicate n 0)) ++ [UInt8.ofNat m]).getD n 0 = UInt8.ofNat m := by
    rw [List.getD_eq_getElem?_getD, List.getElem?_append_right (by omega), hlen, Nat.sub_self]; rfl
  rw [hlast, show (UInt8.ofNat m).toNat = m from by simp only [UInt8.toNat_ofNat']; omega, if_neg (by omega), List.all_eq_true]
  intro i hi
  rw [hasB_app _ _ _ (by rw [hlen]; exact plcN_lt k n i (by omega))]
  exact fillL_has n m (by omega) ks _ k i (by rw [List.length_replicate]) h (List.mem_range.1 hi)

end Go.Proofs.YtmmeofiocbfamaaGreatDoor
namespace Go.Proofs.YtmmeofiocbfamaaGreatDoor
open Go Go.RowKit

theorem hashF_snoc (h : Nat) {l : List UInt8} {i : Nat} (hi : i < l.length) : hashF h (l.take (i + 1)) = hashS (hashF h (l.take i)) l[i] := by
  unfold hashF
  rw [List.take_succ_eq_append_getElem hi, List.foldl_append, List.foldl_cons, List.foldl_nil]
theorem hashS_form {h : Nat} (hh : h < 18446744073709551616) (c : UInt8) : IntKind.u64.wrap (bits .xor .u64 (h : Int) (IntKind.u64.wrap (c.toNat : Int)) * 1099511628211) = ((hashS h c : Nat) : Int) := by
  have hc := c.toNat_lt
  have e : ∀ n : Int, IntKind.u64.wrap n = n % 18446744073709551616 := fun n => by simp [IntKind.wrap, IntKind.bits, IntKind.signed]
  have e1 : IntKind.u64.wrap (c.toNat : Int) = (c.toNat : Int) := by rw [e]; omega
  rw [e1, u64_xor_nat h c.toNat hh (by omega), e]
  unfold hashS
  omega

set_option maxRecDepth 100000 in
set_option maxHeartbeats 1000000 in
theorem hash_any (s : ByteArray) (w : World) (hs : s.size ≤ 1000000000) :
    Calls Tryz.prog 85 #[.string s] w fun e w' => e = .returned (.int .u64 (hashB s.data.toList)) ∧ w' = w := by
  have hsz : s.data.toList.length = s.size := Array.length_toList
  go_enter Tryz.func85, Tryz.ntmps85
  go_wp2_with fail
  go_loopw [3, 7] (fun hv iv wr => ∃ i : Nat, i ≤ s.size ∧ iv = .int .i64 i ∧ hv = .int .u64 (hashF 14695981039346656037 (s.data.toList.take i)) ∧ wr = w) (fun _ iv _ => s.size - (intOf iv).toNat)
  case atStart => exact ⟨0, by omega, rfl, rfl, rfl⟩
  case round =>
    obtain ⟨i, hi, rfl, rfl, rfl⟩ := hrel
    by_cases hlt : i < s.size
    · have HN := Lib.hid (hashF_snoc 14695981039346656037 (show i < s.data.toList.length by omega))
      have HL := Lib.hid (hashF_lt (show 14695981039346656037 < 18446744073709551616 by decide) (s.data.toList.take i))
      have hi0 : (0 : Int) ≤ (i : Int) := by omega
      have HC := Lib.hid (show s[i] = s.data.toList[i]'(by omega) from by simp [ByteArray.getElem_eq_getElem_data])
      generalize hashF 14695981039346656037 (s.data.toList.take i) = h at *
      have HV := Lib.hid (hashS_form HL.out s[i])
      rw [HC.out, ← HN.out] at HV
      go_wp2_with fail
      go_roundw
      case rel => exact ⟨i + 1, by omega, by go_num, congrArg (Value.int .u64) (by rw [← HV.out, HC.out]), trivial⟩
      case measure => simp [intOf]; omega
    · obtain rfl : i = s.size := by omega
      have HV := Lib.hid (show hashF 14695981039346656037 (s.data.toList.take s.size) = hashB s.data.toList from by rw [← hsz, List.take_length]; rfl)
      go_wp2_with fail
      go_ret
      exact ⟨by rw [HV.out]; rfl, rfl⟩

set_option maxRecDepth 100000 in
set_option maxHeartbeats 1000000 in
theorem many_any (b : Nat) (w : World) (hb : b ≤ 40) :
    Calls Tryz.prog 62 #[.int .i64 b] w fun e w' => e = .returned (.int .i64 (manyN b)) ∧ w' = w := by
  go_enter Tryz.func62, Tryz.ntmps62
  have HV := Lib.hid (show min (max (69 * (b : Int) / 100) 1) 30 = ((manyN b : Nat) : Int) from by unfold manyN; omega)
  go_wp2_with fail
  go_ret
  exact ⟨congrArg (fun z => Ending.returned (Value.int .i64 z)) HV.out, rfl⟩

theorem or_one (y : Nat) : y ||| 1 = if y % 2 = 0 then y + 1 else y := by
  by_cases h : y % 2 = 0
  · rw [if_pos h, nat_join 1 y 1 (by simpa using h) (by decide)]
  · rw [if_neg h]
    have e : y - 1 ||| 1 = y := by rw [nat_join 1 (y - 1) 1 (by show (y - 1) % 2 = 0; omega) (by decide)]; omega
    conv => lhs; rw [← e, Nat.or_assoc, Nat.or_self]
    exact e
theorem start_forms {h : Nat} (hh : h < 18446744073709551616) : bits .and .u64 (h : Int) 4294967295 = ((h % 4294967296 : Nat) : Int) ∧ bits .or .u64 ((h : Int) / 4294967296) 1 = (((if h / 4294967296 % 2 = 0 then h / 4294967296 + 1 else h / 4294967296) : Nat) : Int) := by
  refine ⟨?_, ?_⟩
  · have := u64_and_nat h 4294967295 hh (by decide)
    rw [show (4294967295 : Nat) = 2 ^ 32 - 1 from by decide, Nat.and_two_pow_sub_one_eq_mod] at this
    exact this
  · have e : ((h : Int) / 4294967296) = ((h / 4294967296 : Nat) : Int) := by omega
    have := u64_or_nat (h / 4294967296) 1 (by omega) (by decide)
    rw [or_one] at this
    rw [e]
    exact this

set_option maxRecDepth 100000 in
set_option maxHeartbeats 1000000 in
theorem start_any (s : ByteArray) (n : Nat) (w : World) (hs : s.size ≤ 1000000000) (hn : n ≤ 1000000000) :
    Calls Tryz.prog 61 #[.string s, .int .i64 n] w fun e w' => e = .returned (.agg #[.int .u64 (hashB s.data.toList % 4294967296 : Nat), .int .u64 (stepD s.data.toList), .int .u64 n]) ∧ Ext w w' := by
  have HH := Lib.hid (hash_any s (w.alloc (.cells #[.int .u64 0, .int .u64 0, .int .u64 0] 99)) hs)
  have HL := Lib.hid (show hashB s.data.toList < 18446744073709551616 from hashF_lt (by decide) _)
  have hst : stepD s.data.toList = if hashB s.data.toList / 4294967296 % 2 = 0 then hashB s.data.toList / 4294967296 + 1 else hashB s.data.toList / 4294967296 := rfl
  have HST := Lib.hid hst
  clear hst
  generalize hashB s.data.toList = h at *
  go_enter Tryz.func61, Tryz.ntmps61
  go_wp2_with fail
  refine HH.out.mono ?_
  rintro e w1 ⟨rfl, rfl⟩
  obtain ⟨f1, f2⟩ := start_forms HL.out
  rw [← HST.out] at f2
  have HA := Lib.hid f1
  have HB := Lib.hid f2
  clear f1 f2
  go_wp2_with fail
  rw [HA.out, HB.out]
  exact bodyPost_ret (results_cell_row rfl _ _ w.heap.size 99 #[.int .u64 (h % 4294967296 : Nat), .int .u64 (stepD s.data.toList), .int .u64 n] (0, 0) _ rfl (heap_alloc_last w _) Tryz.underlying99 rfl (by kernel_rfl)) rfl ⟨rfl, Ext.alloc _ _⟩

end Go.Proofs.YtmmeofiocbfamaaGreatDoor
