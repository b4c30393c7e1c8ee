/- The walks of sentryref11.Same and sentryref17.Rises. The walk of sentryref11.Put. No condition: lemmas. -/
import Derived.BigQuiet
import Derived.Deep.DeepMust
import Derived.Test.YtmmeofiocbfamaaGreatDoorZ7
import Derived.Test.YtmmeofiocbfamaaGreatDoorZ1
namespace Go.Proofs.YtmmeofiocbfamaaGreatDoor
open Go Go.RowKit

theorem ba_beq {a b : ByteArray} (h : a ≠ b) : (a.data.toList == b.data.toList) = false := by
  rw [beq_eq_false_iff_ne]
  exact fun e => h (ByteArray.ext (by rw [← Array.toList_inj]; exact e))

theorem below_drewN {B : Nat} {w w' : World} (h : Below B w w') (n : Nat) : Below B w (w'.drewN n) := ⟨h.os, h.tape, h.output, h.size, h.block⟩
theorem same_drewN {S : Nat → Prop} {w w' : World} (h : Same S w w') (n : Nat) : Same S w (w'.drewN n) := h

set_option maxRecDepth 100000 in
set_option maxHeartbeats 800000 in
theorem same_any (x y : Value) (a b : List ByteArray) (w : World) (S T : Nat → Prop) (hx : Sl S w 1 x (sc a)) (hy : Sl T w 1 y (sc b)) :
    Calls Tryz.prog 14 #[x, y] w (RetV (.bool (decide (a = b))) w) := by
  obtain ⟨ao, c, rfl, hac, hcm, hacell⟩ := hx.strs
  obtain ⟨bo, d, rfl, hbd, hdm, hbcell⟩ := hy.strs
  have HAC := Lib.hid hacell
  have HBC := Lib.hid hbcell
  clear hacell hbcell hx hy
  by_cases hn : a.length = b.length
  · have hni : ((a.length : Int) != (b.length : Int)) = false := by rw [hn]; simp
    have hni2 : (a.length : Int) = (b.length : Int) := by omega
    go_enter Tryz.func14, Tryz.ntmps14
    go_wp2
    go_loopw [13] (fun ii wr => ∃ i : Nat, i ≤ a.length ∧ ii = .int .i64 i ∧ (∀ j (h1 : j < a.length) (h2 : j < b.length), j < i → a[j] = b[j]) ∧ Below w.heap.size w wr ∧ Same (fun _ => True) w wr) (fun ii _ => a.length - (intOf ii).toNat)
    case atStart => exact ⟨0, by omega, rfl, fun _ _ _ h => absurd h (by omega), Below.refl _ _, Same.refl _ _⟩
    case round =>
      obtain ⟨i, hi, rfl, hall, hbel, hsm⟩ := hrel
      have HALL := Lib.hid hall
      have HSM := Lib.hid hsm
      clear hall hsm
      by_cases hlt : i < a.length
      · have hltb : i < b.length := by omega
        obtain ⟨ab, aoff, rfl, -, hca⟩ := HAC.out (by omega)
        obtain ⟨bb, boff, rfl, -, hcb⟩ := HBC.out (by omega)
        have hc1 := (HSM.out.cell (p := ⟨ab, aoff + i, none⟩) trivial).trans (hca i hlt)
        have hc2 := (HSM.out.cell (p := ⟨bb, boff + i, none⟩) trivial).trans (hcb i hltb)
        have e1 := ByteArray.toList_eq a[i]
        have e2 := ByteArray.toList_eq b[i]
        have HN := Lib.hid hn
        clear hca hcb hn
        by_cases he : a[i] = b[i]
        · have hbq : (a[i].data.toList == b[i].data.toList) = true := by rw [he]; simp
          have HE := Lib.hid he
          clear he
          go_wp2_with fail
          go_quiet (fail)
          go_wp2
          go_roundw
          case rel => exact ⟨i + 1, by omega, by go_num, fun j h1 h2 h => (Nat.lt_succ_iff_lt_or_eq.1 h).elim (fun e => HALL.out j h1 h2 e) (fun e => by subst e; exact HE.out), below_drewN hbel _, same_drewN HSM.out _⟩
          case measure => simp [intOf]; omega
        · have hbq := ba_beq he
          have HE := Lib.hid he
          clear he
          go_wp2_with fail
          go_quiet (fail)
          go_wp2
          go_ret
          exact ⟨congrArg (fun b => Ending.returned (.bool b)) (by simp; intro e; subst e; exact HE.out rfl), below_drewN hbel _⟩
      · obtain rfl : i = a.length := by omega
        go_wp2
        go_ret
        refine ⟨congrArg (fun b => Ending.returned (.bool b)) ?_, hbel⟩
        rw [eq_comm, decide_eq_true_eq]
        exact List.ext_getElem hn fun j h1 h2 => HALL.out j h1 h2 h1
  · have hni : ((a.length : Int) != (b.length : Int)) = true := by rw [bne_iff_ne]; omega
    go_enter Tryz.func14, Tryz.ntmps14
    go_wp2
    go_ret
    exact ⟨congrArg (fun b => Ending.returned (.bool b)) (by simp; intro e; exact hn (by rw [e])), Below.refl _ _⟩

theorem rises_mk {l : List ByteArray} (h : ∀ j (h : j + 1 < l.length), j + 1 < l.length → ltS l[j] l[j + 1] = true) : Rises l := fun j hj => h j hj hj

open Classical in
/-- Does a row rise, as a Bool. -/
noncomputable def risesB (l : List ByteArray) : Bool := decide (Rises l)
theorem risesB_true {l : List ByteArray} (h : Rises l) : risesB l = true := by unfold risesB; simp [h]
theorem risesB_false {l : List ByteArray} {j : Nat} (hj : j + 1 < l.length) (h : ltS l[j] l[j + 1] = false) : risesB l = false := by
  unfold risesB
  simp only [decide_eq_false_iff_not]
  intro hr
  have := hr j hj
  rw [h] at this
  cases this

end Go.Proofs.YtmmeofiocbfamaaGreatDoor
namespace Go.Proofs.YtmmeofiocbfamaaGreatDoor
open Go Go.RowKit

/-- P11: the keys then, and whether it is new. -/
def putS (l : List ByteArray) (k : ByteArray) : List ByteArray × Bool :=
  match l with
  | [] => ([k], true)
  | a :: r => if ltS a k then (a :: (putS r k).1, (putS r k).2) else if a = k then (a :: r, false) else (k :: a :: r, true)

theorem putS_at : ∀ (l : List ByteArray) (k : ByteArray) (i : Nat), i ≤ l.length → (∀ j (hj : j < l.length), j < i → ltS l[j] k = true) → (∀ h : i < l.length, ltS l[i] k = false) →
    putS l k = if ∃ h : i < l.length, l[i] = k then (l, false) else (l.take i ++ [k] ++ l.drop i, true)
  | [], k, i, hi, _, _ => by
    obtain rfl : i = 0 := by simpa using hi
    simp [putS]
  | a :: r, k, 0, _, _, hn => by
    have h0 := hn (by simp)
    simp only [List.getElem_cons_zero] at h0
    by_cases ha : a = k
    · subst ha; simp [putS, h0]
    · simp [putS, h0, ha]
  | a :: r, k, i + 1, hi, ha, hn => by
    have h0 := ha 0 (by simp) (by omega)
    simp only [List.getElem_cons_zero] at h0
    have ih := putS_at r k i (by simpa using hi) (fun j hj h => ha (j + 1) (by simpa using hj) (by omega)) (fun h => hn (by simpa using h))
    simp only [putS, h0, if_true, ih, List.length_cons, Nat.add_lt_add_iff_right, List.getElem_cons_succ]
    split <;> simp

theorem sc_one (l : List ByteArray) : ∀ u ∈ sc l, u.oneCell' = true := by
  intro u hu
  obtain ⟨x, _, rfl⟩ := List.mem_map.1 hu
  rfl

def RetP (o : List ByteArray × Bool) (w : World) (e : Ending) (w' : World) : Prop := ∃ v, e = .returned (.tuple #[v, .bool o.2]) ∧ Sl (· < w'.heap.size) w' 1 v (sc o.1) ∧ Below w.heap.size w w'
/-- It is the row that came, or one of the call's own. -/
def RetPO (x : Value) (l : List ByteArray) (o : List ByteArray × Bool) (w : World) (e : Ending) (w' : World) : Prop :=
  ∃ v, e = .returned (.tuple #[v, .bool o.2]) ∧ (v = x ∧ o.1 = l ∨ Own w' w.heap.size 9 1 v (sc o.1)) ∧ Below w.heap.size w w'

set_option maxRecDepth 100000 in
set_option maxHeartbeats 1600000 in
theorem put11_raw (x0 x : Value) (HX0 : Hid (x0 = x)) (l : List ByteArray) (k : ByteArray) (w : World) (hx : Sl (· < w.heap.size) w 1 x (sc l)) (hl : l.length ≤ 1000000) :
    Calls Tryz.prog 39 #[x, .string k] w (RetPO x0 l (putS l k) w) := by
  have HX := Lib.hid hx
  obtain ⟨ao, c, rfl, hac, hcm, hacell⟩ := hx.strs
  have HAC := Lib.hid hacell
  have HL := Lib.hid hl
  clear hacell hx hl
  go_enter Tryz.func39, Tryz.ntmps39
  go_wp2
  go_loop [6] (fun ii => ∃ i : Nat, i ≤ l.length ∧ ii = .int .i64 i ∧ (∀ j (hj : j < l.length), j < i → ltS l[j] k = true)) (fun ii => l.length - (intOf ii).toNat)
  case atStart => exact ⟨0, by omega, rfl, fun _ _ h => absurd h (by omega)⟩
  case round =>
    obtain ⟨i, hi, rfl, hall⟩ := hrel
    have HALL := Lib.hid hall
    clear hall
    by_cases hlt : i < l.length
    · obtain ⟨b, off, rfl, hb, hc⟩ := HAC.out (by omega)
      have hci := hc i hlt
      have e1 := ByteArray.toList_eq l[i]
      have e2 := ByteArray.toList_eq k
      by_cases hg : ltS l[i] k = true
      · have hg2 := hg
        unfold ltS at hg2
        rw [e1, e2] at hg2
        have HG := Lib.hid hg
        clear hc hg
        go_wp2
        go_round
        case rel => exact ⟨i + 1, by omega, by go_num, fun j hj h => (Nat.lt_succ_iff_lt_or_eq.1 h).elim (fun e => HALL.out j hj e) (fun e => by subst e; exact HG.out)⟩
        case measure => simp [intOf]; omega
      · have hg1 : ltS l[i] k = false := by simpa using hg
        have hg2 := hg1
        unfold ltS at hg2
        rw [e1, e2] at hg2
        have HP := Lib.hid (putS_at l k i hi HALL.out (fun _ => hg1))
        clear hg hg1 hc
        by_cases he : l[i] = k
        · have hbq : (l[i].data.toList == k.data.toList) = true := by rw [he]; simp
          have HR := Lib.hid (show putS l k = (l, false) from by rw [HP.out, if_pos ⟨hlt, he⟩])
          clear he
          go_wp2
          go_ret2
          rw [HR.out]
          exact ⟨_, rfl, .inl ⟨HX0.out.symm, rfl⟩, Below.refl _ _⟩
        · have hbq := ba_beq he
          have HR := Lib.hid (show putS l k = (l.take i ++ [k] ++ l.drop i, true) from by rw [HP.out, if_neg (fun h => he h.2)])
          clear he
          go_wp2_with fail
          have hic : (i : Int) ≤ (c : Int) := by omega
          have hil : (i : Int) ≤ (l.length : Int) := by omega
          obtain ⟨wd, hwd⟩ : ∃ wd, wd = w.drew := ⟨_, rfl⟩
          have hxd : Sl (· < wd.heap.size) wd 1 (.slice (some ⟨b, off, none⟩) l.length c) (sc l) := by rw [hwd]; exact HX.out
          have HXD := Lib.hid hxd
          have HWD := Lib.hid hwd
          clear hxd
          refine region_walkN (Ext w.drew) (Ext.refl _) (by kernel_rfl) (by kernel_rfl) (fun _ _ d _ _ h => by cases d <;> exact h) ?_
          rw [← hwd]
          clear hwd
          ((refine WalkN.take 1 _ ?_ (by simp only [List.getElem?_toArray, List.getElem?_cons_succ, List.getElem?_cons_zero]; rfl) (by kernel_rfl) (by kernel_rfl) (by rfl) (fun W hW => ?_) ?_; rotate_left; · (go_simp; try with_reducible rfl)); simp only [Act.put, List.setIfInBounds_toArray, List.set_cons_zero, List.set_cons_succ]); ((refine WalkN.take 2 _ ?_ (by simp only [List.getElem?_toArray, List.getElem?_cons_succ, List.getElem?_cons_zero]; rfl) (by kernel_rfl) (by kernel_rfl) (by rfl) (fun W hW => ?_) ?_; rotate_left; · (go_simp; try with_reducible rfl)); simp only [Act.put, List.setIfInBounds_toArray, List.set_cons_zero, List.set_cons_succ]); ((refine WalkN.take 3 _ ?_ (by simp only [List.getElem?_toArray, List.getElem?_cons_succ, List.getElem?_cons_zero]; rfl) (by kernel_rfl) (by kernel_rfl) (by rfl) (fun W hW => ?_) ?_; rotate_left; · (go_simp; try with_reducible rfl)); simp only [Act.put, List.setIfInBounds_toArray, List.set_cons_zero, List.set_cons_succ]); ((refine WalkN.take 5 _ ?_ (by simp only [List.getElem?_toArray, List.getElem?_cons_succ, List.getElem?_cons_zero]; rfl) (by kernel_rfl) (by kernel_rfl) (by rfl) (fun W hW => ?_) ?_; rotate_left; · (go_simp; try with_reducible rfl)); simp only [Act.put, List.setIfInBounds_toArray, List.set_cons_zero, List.set_cons_succ]); ((refine WalkN.take 8 _ ?_ (by simp only [List.getElem?_toArray, List.getElem?_cons_succ, List.getElem?_cons_zero]; rfl) (by kernel_rfl) (by kernel_rfl) (by rfl) (fun W hW => ?_) ?_; rotate_left; · (go_simp; try with_reducible rfl)); simp only [Act.put, List.setIfInBounds_toArray, List.set_cons_zero, List.set_cons_succ]); ((refine WalkN.take 9 _ ?_ (by simp only [List.getElem?_toArray, List.getElem?_cons_succ, List.getElem?_cons_zero]; rfl) (by kernel_rfl) (by kernel_rfl) (by rfl) (fun W hW => ?_) ?_; rotate_left; · (go_simp; try with_reducible rfl)); simp only [Act.put, List.setIfInBounds_toArray, List.set_cons_zero, List.set_cons_succ]); ((refine WalkN.take 10 _ ?_ (by simp only [List.getElem?_toArray, List.getElem?_cons_succ, List.getElem?_cons_zero]; rfl) (by kernel_rfl) (by kernel_rfl) (by rfl) (fun W hW => ?_) ?_; rotate_left; · (go_simp; try with_reducible rfl)); simp only [Act.put, List.setIfInBounds_toArray, List.set_cons_zero, List.set_cons_succ])
          have hE0 : Ext wd wd := Ext.refl _
          have hs1 : Sl (· < wd.heap.size) wd 1 (.slice (some ⟨b, off, none⟩) i c) (sc (l.take i)) := by
            have := HXD.out.take i hi
            rwa [Nat.mul_one, show (sc l).take i = sc (l.take i) from by simp [sc]] at this
          have hs2 : Sl (· < wd.heap.size) wd 1 (.slice (if c = i then (some ⟨b, off, none⟩) else (some ⟨b, off + i, none⟩)) (l.length - i) (c - i)) (sc (l.drop i)) := by
            have := HXD.out.window (ao' := if c = i then (some ⟨b, off, none⟩) else (some ⟨b, off + i, none⟩)) i l.length hi (Nat.le_refl _) (fun h => by rw [if_neg h]; try simp [Addr.add_lit])
            rwa [show ((sc l).drop i).take (l.length - i) = sc (l.drop i) from by rw [List.take_of_length_le (by simp)]; simp [sc]] at this
          have hput : ∀ v W, Own W wd.heap.size 9 1 v ([] ++ sc (l.take i) ++ [Value.string k] ++ sc (l.drop i)) → Ext wd W → RetPO x0 l (putS l k) w (.returned (.tuple #[v, .bool true])) W := fun v W h hE => by
            rw [HR.out]
            refine ⟨v, rfl, ?_, ?_⟩
            · have h' := h
              rw [HWD.out, show [] ++ sc (l.take i) ++ [Value.string k] ++ sc (l.drop i) = sc (l.take i ++ [k] ++ l.drop i) from by simp [sc]] at h'
              exact .inr h'
            · have hE' := hE
              rw [HWD.out] at hE'
              exact ⟨hE'.os, hE'.tape, hE'.output, hE'.size, hE'.block⟩
          refine WalkN.two 0 6 (by kernel_rfl) ?_ ?_
          · refine ⟨_, (by simp only [List.getElem?_toArray, List.getElem?_cons_zero]; rfl), by rfl, fun K hK => ?_⟩
            go_simp
            have hown1 : Own (wd.alloc (.cells #[] 9)) wd.heap.size 9 1 (.slice (some ⟨wd.heap.size, 0, none⟩) 0 0) [] := Own.made wd (Nat.le_refl _) _ _
            have hE1 := Below.alloc hE0 (Nat.le_refl _) (.cells #[] 9)
            refine hK.out _ _ hE1 ?_
            clear hK
            refine WalkN.two 4 6 (by kernel_rfl) ?_ ?_
            · refine ⟨_, (by simp only [List.getElem?_toArray, List.getElem?_cons_succ, List.getElem?_cons_zero]; rfl), by rfl, fun K hK => ?_⟩
              refine wp_own strsT (.tmp 34) (.tmp 37) rfl rfl hown1 rfl (hs1.same (Same.below hE1)) (sc_one _) (by have := HL.out; simp; omega) (by have := HL.out; simp; omega) hE1.size (fun v2 w2 hown2 hb2 hg2' => ?_)
              have hE2 : Ext wd w2 := Below.trans hE1 hb2
              refine hK.out _ _ hE2 ?_
              clear hK
              simp only [Act.put, List.setIfInBounds_toArray, List.set_cons_zero, List.set_cons_succ]
              refine WalkN.one 6 (by kernel_rfl) ?_
              refine ⟨_, (by simp only [List.getElem?_toArray, List.getElem?_cons_succ, List.getElem?_cons_zero]; rfl), by rfl, fun K hK => ?_⟩
              go_simp
              have hE3 := Below.alloc hE2 hE2.size (.cells #[.string k] 9)
              have hown3 := hown2.below ((Below.refl _ _).alloc (Nat.le_refl _) (.cells #[.string k] 9))
              have hk3 := Sl.made w2 (fun _ => True) 1 1 9 #[.string k] rfl (by decide) trivial
              refine hK.out _ _ hE3 ?_
              clear hK
              refine WalkN.one 7 (by kernel_rfl) ?_
              refine ⟨_, (by simp only [List.getElem?_toArray, List.getElem?_cons_succ, List.getElem?_cons_zero]; rfl), by rfl, fun K hK => ?_⟩
              refine wp_own strsT (.tmp 38) (.tmp 40) rfl rfl hown3 rfl hk3 (sc_one [k]) (by have := HL.out; simp; omega) (by have := HL.out; simp; omega) hE3.size (fun v4 w4 hown4 hb4 _ => ?_)
              have hE4 : Ext wd w4 := Below.trans hE3 hb4
              refine hK.out _ _ hE4 ?_
              clear hK
              simp only [Act.put, List.setIfInBounds_toArray, List.set_cons_zero, List.set_cons_succ]
              refine WalkN.one 11 (by kernel_rfl) ?_
              refine ⟨_, (by simp only [List.getElem?_toArray, List.getElem?_cons_succ, List.getElem?_cons_zero]; rfl), by rfl, fun K hK => ?_⟩
              refine wp_own strsT (.tmp 41) (.tmp 44) rfl rfl hown4 rfl (hs2.same (Same.below hE4)) (sc_one _) (by have := HL.out; simp; omega) (by have := HL.out; simp; omega) hE4.size (fun v5 w5 hown5 hb5 _ => ?_)
              have hE5 : Ext wd w5 := Below.trans hE4 hb5
              have HO5 := Lib.hid hown5
              refine hK.out _ _ hE5 ?_
              clear hK
              simp only [Act.put, List.setIfInBounds_toArray, List.set_cons_zero, List.set_cons_succ]
              clear hown3 hown4 hown5 hk3
              ((refine WalkN.take 12 _ ?_ (by simp only [List.getElem?_toArray, List.getElem?_cons_succ, List.getElem?_cons_zero]; rfl) (by kernel_rfl) (by kernel_rfl) (by rfl) (fun W hW => ?_) ?_; rotate_left; · (go_simp; try with_reducible rfl)); simp only [Act.put, List.setIfInBounds_toArray, List.set_cons_zero, List.set_cons_succ]); ((refine WalkN.take 13 _ ?_ (by simp only [List.getElem?_toArray, List.getElem?_cons_succ, List.getElem?_cons_zero]; rfl) (by kernel_rfl) (by kernel_rfl) (by rfl) (fun W hW => ?_) ?_; rotate_left; · (go_simp; try with_reducible rfl)); simp only [Act.put, List.setIfInBounds_toArray, List.set_cons_zero, List.set_cons_succ])
              refine WalkN.done (by kernel_rfl) ?_
              go_wp2
              all_goals (go_ret2; exact hput v5 w5 HO5.out hE5)
            · obtain ⟨w1, hw1⟩ : ∃ w1, w1 = wd.alloc (.cells #[] 9) := ⟨_, rfl⟩
              rw [← hw1] at hown1 hE1 ⊢
              have hs1' : w1.heap.size = wd.heap.size + 1 := by rw [hw1]; simp
              have HW1 := Lib.hid hw1
              have HS1 := Lib.hid hs1'
              clear hw1 hs1'
              refine ⟨_, (by simp only [List.getElem?_toArray, List.getElem?_cons_succ, List.getElem?_cons_zero]; rfl), by rfl, fun K hK => ?_⟩
              go_simp
              have hE3 := Below.alloc hE1 hE1.size (.cells #[.string k] 9)
              have hown3 := hown1.below ((Below.refl _ _).alloc (Nat.le_refl _) (.cells #[.string k] 9))
              have hk3 := Sl.made w1 (fun b => b = w1.heap.size) 1 1 9 #[.string k] rfl (by decide) rfl
              refine hK.out _ _ hE3 ?_
              clear hK
              refine WalkN.one 4 (by kernel_rfl) ?_
              refine ⟨_, (by simp only [List.getElem?_toArray, List.getElem?_cons_succ, List.getElem?_cons_zero]; rfl), by rfl, fun K hK => ?_⟩
              refine wp_own strsT (.tmp 34) (.tmp 37) rfl rfl hown3 rfl (hs1.same (Same.below hE3)) (sc_one _) (by have := HL.out; simp; omega) (by have := HL.out; simp; omega) hE3.size (fun v2 w2 hown2 hb2 hg2' => ?_)
              have hE2 : Ext wd w2 := Below.trans hE3 hb2
              have hk5 := hk3.same (w' := w2) (fun x hx => hg2'.block x (by subst hx; simp) (fun h => by subst hx; have h2 := Option.some.inj (show some w1.heap.size = some wd.heap.size from h); have := HS1.out; omega))
              refine hK.out _ _ hE2 ?_
              clear hK
              simp only [Act.put, List.setIfInBounds_toArray, List.set_cons_zero, List.set_cons_succ]
              refine WalkN.one 7 (by kernel_rfl) ?_
              refine ⟨_, (by simp only [List.getElem?_toArray, List.getElem?_cons_succ, List.getElem?_cons_zero]; rfl), by rfl, fun K hK => ?_⟩
              refine wp_own strsT (.tmp 38) (.tmp 40) rfl rfl hown2 rfl hk5 (sc_one [k]) (by have := HL.out; simp; omega) (by have := HL.out; simp; omega) hE2.size (fun v4 w4 hown4 hb4 _ => ?_)
              have hE4 : Ext wd w4 := Below.trans hE2 hb4
              refine hK.out _ _ hE4 ?_
              clear hK
              simp only [Act.put, List.setIfInBounds_toArray, List.set_cons_zero, List.set_cons_succ]
              refine WalkN.one 11 (by kernel_rfl) ?_
              refine ⟨_, (by simp only [List.getElem?_toArray, List.getElem?_cons_succ, List.getElem?_cons_zero]; rfl), by rfl, fun K hK => ?_⟩
              refine wp_own strsT (.tmp 41) (.tmp 44) rfl rfl hown4 rfl (hs2.same (Same.below hE4)) (sc_one _) (by have := HL.out; simp; omega) (by have := HL.out; simp; omega) hE4.size (fun v5 w5 hown5 hb5 _ => ?_)
              have hE5 : Ext wd w5 := Below.trans hE4 hb5
              have HO5 := Lib.hid hown5
              refine hK.out _ _ hE5 ?_
              clear hK
              simp only [Act.put, List.setIfInBounds_toArray, List.set_cons_zero, List.set_cons_succ]
              clear hown2 hown4 hown5 hk5
              ((refine WalkN.take 12 _ ?_ (by simp only [List.getElem?_toArray, List.getElem?_cons_succ, List.getElem?_cons_zero]; rfl) (by kernel_rfl) (by kernel_rfl) (by rfl) (fun W hW => ?_) ?_; rotate_left; · (go_simp; try with_reducible rfl)); simp only [Act.put, List.setIfInBounds_toArray, List.set_cons_zero, List.set_cons_succ]); ((refine WalkN.take 13 _ ?_ (by simp only [List.getElem?_toArray, List.getElem?_cons_succ, List.getElem?_cons_zero]; rfl) (by kernel_rfl) (by kernel_rfl) (by rfl) (fun W hW => ?_) ?_; rotate_left; · (go_simp; try with_reducible rfl)); simp only [Act.put, List.setIfInBounds_toArray, List.set_cons_zero, List.set_cons_succ])
              refine WalkN.done (by kernel_rfl) ?_
              go_wp2
              all_goals (go_ret2; exact hput v5 w5 HO5.out hE5)
          · refine ⟨_, (by simp only [List.getElem?_toArray, List.getElem?_cons_succ, List.getElem?_cons_zero]; rfl), by rfl, fun K hK => ?_⟩
            go_simp
            have hE1 := Below.alloc hE0 (Nat.le_refl _) (.cells #[.string k] 9)
            have hk1 := Sl.made wd (fun b => b = wd.heap.size) 1 1 9 #[.string k] rfl (by decide) rfl
            refine hK.out _ _ hE1 ?_
            clear hK
            obtain ⟨w1, hw1⟩ : ∃ w1, w1 = wd.alloc (.cells #[.string k] 9) := ⟨_, rfl⟩
            rw [← hw1] at hk1 hE1 ⊢
            have hs1' : w1.heap.size = wd.heap.size + 1 := by rw [hw1]; simp
            have HS1 := Lib.hid hs1'
            clear hw1 hs1'
            refine WalkN.one 0 (by kernel_rfl) ?_
            refine ⟨_, (by simp only [List.getElem?_toArray, List.getElem?_cons_zero]; rfl), by rfl, fun K hK => ?_⟩
            go_simp
            have hown1 : Own (w1.alloc (.cells #[] 9)) wd.heap.size 9 1 (.slice (some ⟨w1.heap.size, 0, none⟩) 0 0) [] := Own.made w1 hE1.size _ _
            have hE3 := Below.alloc hE1 hE1.size (.cells #[] 9)
            have hk3 := hk1.same (w' := w1.alloc (.cells #[] 9)) (fun x hx => Below.heap_alloc w1 _ x (by subst hx; have := HS1.out; omega))
            refine hK.out _ _ hE3 ?_
            clear hK
            refine WalkN.one 4 (by kernel_rfl) ?_
            refine ⟨_, (by simp only [List.getElem?_toArray, List.getElem?_cons_succ, List.getElem?_cons_zero]; rfl), by rfl, fun K hK => ?_⟩
            refine wp_own strsT (.tmp 34) (.tmp 37) rfl rfl hown1 rfl (hs1.same (Same.below hE3)) (sc_one _) (by have := HL.out; simp; omega) (by have := HL.out; simp; omega) hE3.size (fun v2 w2 hown2 hb2 hg2' => ?_)
            have hE2 : Ext wd w2 := Below.trans hE3 hb2
            have hk5 := hk3.same (w' := w2) (fun x hx => hg2'.block x (by subst hx; have := HS1.out; simp; omega) (fun h => by subst hx; have h2 := Option.some.inj (show some wd.heap.size = some w1.heap.size from h); have := HS1.out; omega))
            refine hK.out _ _ hE2 ?_
            clear hK
            simp only [Act.put, List.setIfInBounds_toArray, List.set_cons_zero, List.set_cons_succ]
            refine WalkN.one 7 (by kernel_rfl) ?_
            refine ⟨_, (by simp only [List.getElem?_toArray, List.getElem?_cons_succ, List.getElem?_cons_zero]; rfl), by rfl, fun K hK => ?_⟩
            refine wp_own strsT (.tmp 38) (.tmp 40) rfl rfl hown2 rfl hk5 (sc_one [k]) (by have := HL.out; simp; omega) (by have := HL.out; simp; omega) hE2.size (fun v4 w4 hown4 hb4 _ => ?_)
            have hE4 : Ext wd w4 := Below.trans hE2 hb4
            refine hK.out _ _ hE4 ?_
            clear hK
            simp only [Act.put, List.setIfInBounds_toArray, List.set_cons_zero, List.set_cons_succ]
            refine WalkN.one 11 (by kernel_rfl) ?_
            refine ⟨_, (by simp only [List.getElem?_toArray, List.getElem?_cons_succ, List.getElem?_cons_zero]; rfl), by rfl, fun K hK => ?_⟩
            refine wp_own strsT (.tmp 41) (.tmp 44) rfl rfl hown4 rfl (hs2.same (Same.below hE4)) (sc_one _) (by have := HL.out; simp; omega) (by have := HL.out; simp; omega) hE4.size (fun v5 w5 hown5 hb5 _ => ?_)
            have hE5 : Ext wd w5 := Below.trans hE4 hb5
            have HO5 := Lib.hid hown5
            refine hK.out _ _ hE5 ?_
            clear hK
            simp only [Act.put, List.setIfInBounds_toArray, List.set_cons_zero, List.set_cons_succ]
            clear hown2 hown4 hown5 hk5
            ((refine WalkN.take 12 _ ?_ (by simp only [List.getElem?_toArray, List.getElem?_cons_succ, List.getElem?_cons_zero]; rfl) (by kernel_rfl) (by kernel_rfl) (by rfl) (fun W hW => ?_) ?_; rotate_left; · (go_simp; try with_reducible rfl)); simp only [Act.put, List.setIfInBounds_toArray, List.set_cons_zero, List.set_cons_succ]); ((refine WalkN.take 13 _ ?_ (by simp only [List.getElem?_toArray, List.getElem?_cons_succ, List.getElem?_cons_zero]; rfl) (by kernel_rfl) (by kernel_rfl) (by rfl) (fun W hW => ?_) ?_; rotate_left; · (go_simp; try with_reducible rfl)); simp only [Act.put, List.setIfInBounds_toArray, List.set_cons_zero, List.set_cons_succ])
            refine WalkN.done (by kernel_rfl) ?_
            go_wp2
            all_goals (go_ret2; exact hput v5 w5 HO5.out hE5)
    · have hlt2 : (l.length : Int) ≤ i := by omega
      have HP := Lib.hid (putS_at l k i hi HALL.out (fun h => absurd h hlt))
      have HR := Lib.hid (show putS l k = (l.take i ++ [k] ++ l.drop i, true) from by rw [HP.out, if_neg (fun h => hlt h.1)])
      clear hlt
      go_wp2_with fail
      have hic : (i : Int) ≤ (c : Int) := by omega
      have hil : (i : Int) ≤ (l.length : Int) := by omega
      obtain ⟨wd, hwd⟩ : ∃ wd, wd = w.drew := ⟨_, rfl⟩
      have hxd : Sl (· < wd.heap.size) wd 1 (.slice ao l.length c) (sc l) := by rw [hwd]; exact HX.out
      have HXD := Lib.hid hxd
      have HWD := Lib.hid hwd
      clear hxd
      refine region_walkN (Ext w.drew) (Ext.refl _) (by kernel_rfl) (by kernel_rfl) (fun _ _ d _ _ h => by cases d <;> exact h) ?_
      rw [← hwd]
      clear hwd
      ((refine WalkN.take 1 _ ?_ (by simp only [List.getElem?_toArray, List.getElem?_cons_succ, List.getElem?_cons_zero]; rfl) (by kernel_rfl) (by kernel_rfl) (by rfl) (fun W hW => ?_) ?_; rotate_left; · (go_simp; try with_reducible rfl)); simp only [Act.put, List.setIfInBounds_toArray, List.set_cons_zero, List.set_cons_succ]); ((refine WalkN.take 2 _ ?_ (by simp only [List.getElem?_toArray, List.getElem?_cons_succ, List.getElem?_cons_zero]; rfl) (by kernel_rfl) (by kernel_rfl) (by rfl) (fun W hW => ?_) ?_; rotate_left; · (go_simp; try with_reducible rfl)); simp only [Act.put, List.setIfInBounds_toArray, List.set_cons_zero, List.set_cons_succ]); ((refine WalkN.take 3 _ ?_ (by simp only [List.getElem?_toArray, List.getElem?_cons_succ, List.getElem?_cons_zero]; rfl) (by kernel_rfl) (by kernel_rfl) (by rfl) (fun W hW => ?_) ?_; rotate_left; · (go_simp; try with_reducible rfl)); simp only [Act.put, List.setIfInBounds_toArray, List.set_cons_zero, List.set_cons_succ]); ((refine WalkN.take 5 _ ?_ (by simp only [List.getElem?_toArray, List.getElem?_cons_succ, List.getElem?_cons_zero]; rfl) (by kernel_rfl) (by kernel_rfl) (by rfl) (fun W hW => ?_) ?_; rotate_left; · (go_simp; try with_reducible rfl)); simp only [Act.put, List.setIfInBounds_toArray, List.set_cons_zero, List.set_cons_succ]); ((refine WalkN.take 8 _ ?_ (by simp only [List.getElem?_toArray, List.getElem?_cons_succ, List.getElem?_cons_zero]; rfl) (by kernel_rfl) (by kernel_rfl) (by rfl) (fun W hW => ?_) ?_; rotate_left; · (go_simp; try with_reducible rfl)); simp only [Act.put, List.setIfInBounds_toArray, List.set_cons_zero, List.set_cons_succ]); ((refine WalkN.take 9 _ ?_ (by simp only [List.getElem?_toArray, List.getElem?_cons_succ, List.getElem?_cons_zero]; rfl) (by kernel_rfl) (by kernel_rfl) (by rfl) (fun W hW => ?_) ?_; rotate_left; · (go_simp; try with_reducible rfl)); simp only [Act.put, List.setIfInBounds_toArray, List.set_cons_zero, List.set_cons_succ]); ((refine WalkN.take 10 _ ?_ (by simp only [List.getElem?_toArray, List.getElem?_cons_succ, List.getElem?_cons_zero]; rfl) (by kernel_rfl) (by kernel_rfl) (by rfl) (fun W hW => ?_) ?_; rotate_left; · (go_simp; try with_reducible rfl)); simp only [Act.put, List.setIfInBounds_toArray, List.set_cons_zero, List.set_cons_succ])
      have hE0 : Ext wd wd := Ext.refl _
      have hs1 : Sl (· < wd.heap.size) wd 1 (.slice ao i c) (sc (l.take i)) := by
        have := HXD.out.take i hi
        rwa [Nat.mul_one, show (sc l).take i = sc (l.take i) from by simp [sc]] at this
      have hs2 : Sl (· < wd.heap.size) wd 1 (.slice (if c = i then ao else (Option.map (fun x => x.add i) ao)) (l.length - i) (c - i)) (sc (l.drop i)) := by
        have := HXD.out.window (ao' := if c = i then ao else (Option.map (fun x => x.add i) ao)) i l.length hi (Nat.le_refl _) (fun h => by rw [if_neg h]; try simp [Addr.add_lit])
        rwa [show ((sc l).drop i).take (l.length - i) = sc (l.drop i) from by rw [List.take_of_length_le (by simp)]; simp [sc]] at this
      have hput : ∀ v W, Own W wd.heap.size 9 1 v ([] ++ sc (l.take i) ++ [Value.string k] ++ sc (l.drop i)) → Ext wd W → RetPO x0 l (putS l k) w (.returned (.tuple #[v, .bool true])) W := fun v W h hE => by
        rw [HR.out]
        refine ⟨v, rfl, ?_, ?_⟩
        · have h' := h
          rw [HWD.out, show [] ++ sc (l.take i) ++ [Value.string k] ++ sc (l.drop i) = sc (l.take i ++ [k] ++ l.drop i) from by simp [sc]] at h'
          exact .inr h'
        · have hE' := hE
          rw [HWD.out] at hE'
          exact ⟨hE'.os, hE'.tape, hE'.output, hE'.size, hE'.block⟩
      refine WalkN.two 0 6 (by kernel_rfl) ?_ ?_
      · refine ⟨_, (by simp only [List.getElem?_toArray, List.getElem?_cons_zero]; rfl), by rfl, fun K hK => ?_⟩
        go_simp
        have hown1 : Own (wd.alloc (.cells #[] 9)) wd.heap.size 9 1 (.slice (some ⟨wd.heap.size, 0, none⟩) 0 0) [] := Own.made wd (Nat.le_refl _) _ _
        have hE1 := Below.alloc hE0 (Nat.le_refl _) (.cells #[] 9)
        refine hK.out _ _ hE1 ?_
        clear hK
        refine WalkN.two 4 6 (by kernel_rfl) ?_ ?_
        · refine ⟨_, (by simp only [List.getElem?_toArray, List.getElem?_cons_succ, List.getElem?_cons_zero]; rfl), by rfl, fun K hK => ?_⟩
          refine wp_own strsT (.tmp 34) (.tmp 37) rfl rfl hown1 rfl (hs1.same (Same.below hE1)) (sc_one _) (by have := HL.out; simp; omega) (by have := HL.out; simp; omega) hE1.size (fun v2 w2 hown2 hb2 hg2' => ?_)
          have hE2 : Ext wd w2 := Below.trans hE1 hb2
          refine hK.out _ _ hE2 ?_
          clear hK
          simp only [Act.put, List.setIfInBounds_toArray, List.set_cons_zero, List.set_cons_succ]
          refine WalkN.one 6 (by kernel_rfl) ?_
          refine ⟨_, (by simp only [List.getElem?_toArray, List.getElem?_cons_succ, List.getElem?_cons_zero]; rfl), by rfl, fun K hK => ?_⟩
          go_simp
          have hE3 := Below.alloc hE2 hE2.size (.cells #[.string k] 9)
          have hown3 := hown2.below ((Below.refl _ _).alloc (Nat.le_refl _) (.cells #[.string k] 9))
          have hk3 := Sl.made w2 (fun _ => True) 1 1 9 #[.string k] rfl (by decide) trivial
          refine hK.out _ _ hE3 ?_
          clear hK
          refine WalkN.one 7 (by kernel_rfl) ?_
          refine ⟨_, (by simp only [List.getElem?_toArray, List.getElem?_cons_succ, List.getElem?_cons_zero]; rfl), by rfl, fun K hK => ?_⟩
          refine wp_own strsT (.tmp 38) (.tmp 40) rfl rfl hown3 rfl hk3 (sc_one [k]) (by have := HL.out; simp; omega) (by have := HL.out; simp; omega) hE3.size (fun v4 w4 hown4 hb4 _ => ?_)
          have hE4 : Ext wd w4 := Below.trans hE3 hb4
          refine hK.out _ _ hE4 ?_
          clear hK
          simp only [Act.put, List.setIfInBounds_toArray, List.set_cons_zero, List.set_cons_succ]
          refine WalkN.one 11 (by kernel_rfl) ?_
          refine ⟨_, (by simp only [List.getElem?_toArray, List.getElem?_cons_succ, List.getElem?_cons_zero]; rfl), by rfl, fun K hK => ?_⟩
          refine wp_own strsT (.tmp 41) (.tmp 44) rfl rfl hown4 rfl (hs2.same (Same.below hE4)) (sc_one _) (by have := HL.out; simp; omega) (by have := HL.out; simp; omega) hE4.size (fun v5 w5 hown5 hb5 _ => ?_)
          have hE5 : Ext wd w5 := Below.trans hE4 hb5
          have HO5 := Lib.hid hown5
          refine hK.out _ _ hE5 ?_
          clear hK
          simp only [Act.put, List.setIfInBounds_toArray, List.set_cons_zero, List.set_cons_succ]
          clear hown3 hown4 hown5 hk3
          ((refine WalkN.take 12 _ ?_ (by simp only [List.getElem?_toArray, List.getElem?_cons_succ, List.getElem?_cons_zero]; rfl) (by kernel_rfl) (by kernel_rfl) (by rfl) (fun W hW => ?_) ?_; rotate_left; · (go_simp; try with_reducible rfl)); simp only [Act.put, List.setIfInBounds_toArray, List.set_cons_zero, List.set_cons_succ]); ((refine WalkN.take 13 _ ?_ (by simp only [List.getElem?_toArray, List.getElem?_cons_succ, List.getElem?_cons_zero]; rfl) (by kernel_rfl) (by kernel_rfl) (by rfl) (fun W hW => ?_) ?_; rotate_left; · (go_simp; try with_reducible rfl)); simp only [Act.put, List.setIfInBounds_toArray, List.set_cons_zero, List.set_cons_succ])
          refine WalkN.done (by kernel_rfl) ?_
          go_wp2
          all_goals (go_ret2; exact hput v5 w5 HO5.out hE5)
        · obtain ⟨w1, hw1⟩ : ∃ w1, w1 = wd.alloc (.cells #[] 9) := ⟨_, rfl⟩
          rw [← hw1] at hown1 hE1 ⊢
          have hs1' : w1.heap.size = wd.heap.size + 1 := by rw [hw1]; simp
          have HW1 := Lib.hid hw1
          have HS1 := Lib.hid hs1'
          clear hw1 hs1'
          refine ⟨_, (by simp only [List.getElem?_toArray, List.getElem?_cons_succ, List.getElem?_cons_zero]; rfl), by rfl, fun K hK => ?_⟩
          go_simp
          have hE3 := Below.alloc hE1 hE1.size (.cells #[.string k] 9)
          have hown3 := hown1.below ((Below.refl _ _).alloc (Nat.le_refl _) (.cells #[.string k] 9))
          have hk3 := Sl.made w1 (fun b => b = w1.heap.size) 1 1 9 #[.string k] rfl (by decide) rfl
          refine hK.out _ _ hE3 ?_
          clear hK
          refine WalkN.one 4 (by kernel_rfl) ?_
          refine ⟨_, (by simp only [List.getElem?_toArray, List.getElem?_cons_succ, List.getElem?_cons_zero]; rfl), by rfl, fun K hK => ?_⟩
          refine wp_own strsT (.tmp 34) (.tmp 37) rfl rfl hown3 rfl (hs1.same (Same.below hE3)) (sc_one _) (by have := HL.out; simp; omega) (by have := HL.out; simp; omega) hE3.size (fun v2 w2 hown2 hb2 hg2' => ?_)
          have hE2 : Ext wd w2 := Below.trans hE3 hb2
          have hk5 := hk3.same (w' := w2) (fun x hx => hg2'.block x (by subst hx; simp) (fun h => by subst hx; have h2 := Option.some.inj (show some w1.heap.size = some wd.heap.size from h); have := HS1.out; omega))
          refine hK.out _ _ hE2 ?_
          clear hK
          simp only [Act.put, List.setIfInBounds_toArray, List.set_cons_zero, List.set_cons_succ]
          refine WalkN.one 7 (by kernel_rfl) ?_
          refine ⟨_, (by simp only [List.getElem?_toArray, List.getElem?_cons_succ, List.getElem?_cons_zero]; rfl), by rfl, fun K hK => ?_⟩
          refine wp_own strsT (.tmp 38) (.tmp 40) rfl rfl hown2 rfl hk5 (sc_one [k]) (by have := HL.out; simp; omega) (by have := HL.out; simp; omega) hE2.size (fun v4 w4 hown4 hb4 _ => ?_)
          have hE4 : Ext wd w4 := Below.trans hE2 hb4
          refine hK.out _ _ hE4 ?_
          clear hK
          simp only [Act.put, List.setIfInBounds_toArray, List.set_cons_zero, List.set_cons_succ]
          refine WalkN.one 11 (by kernel_rfl) ?_
          refine ⟨_, (by simp only [List.getElem?_toArray, List.getElem?_cons_succ, List.getElem?_cons_zero]; rfl), by rfl, fun K hK => ?_⟩
          refine wp_own strsT (.tmp 41) (.tmp 44) rfl rfl hown4 rfl (hs2.same (Same.below hE4)) (sc_one _) (by have := HL.out; simp; omega) (by have := HL.out; simp; omega) hE4.size (fun v5 w5 hown5 hb5 _ => ?_)
          have hE5 : Ext wd w5 := Below.trans hE4 hb5
          have HO5 := Lib.hid hown5
          refine hK.out _ _ hE5 ?_
          clear hK
          simp only [Act.put, List.setIfInBounds_toArray, List.set_cons_zero, List.set_cons_succ]
          clear hown2 hown4 hown5 hk5
          ((refine WalkN.take 12 _ ?_ (by simp only [List.getElem?_toArray, List.getElem?_cons_succ, List.getElem?_cons_zero]; rfl) (by kernel_rfl) (by kernel_rfl) (by rfl) (fun W hW => ?_) ?_; rotate_left; · (go_simp; try with_reducible rfl)); simp only [Act.put, List.setIfInBounds_toArray, List.set_cons_zero, List.set_cons_succ]); ((refine WalkN.take 13 _ ?_ (by simp only [List.getElem?_toArray, List.getElem?_cons_succ, List.getElem?_cons_zero]; rfl) (by kernel_rfl) (by kernel_rfl) (by rfl) (fun W hW => ?_) ?_; rotate_left; · (go_simp; try with_reducible rfl)); simp only [Act.put, List.setIfInBounds_toArray, List.set_cons_zero, List.set_cons_succ])
          refine WalkN.done (by kernel_rfl) ?_
          go_wp2
          all_goals (go_ret2; exact hput v5 w5 HO5.out hE5)
      · refine ⟨_, (by simp only [List.getElem?_toArray, List.getElem?_cons_succ, List.getElem?_cons_zero]; rfl), by rfl, fun K hK => ?_⟩
        go_simp
        have hE1 := Below.alloc hE0 (Nat.le_refl _) (.cells #[.string k] 9)
        have hk1 := Sl.made wd (fun b => b = wd.heap.size) 1 1 9 #[.string k] rfl (by decide) rfl
        refine hK.out _ _ hE1 ?_
        clear hK
        obtain ⟨w1, hw1⟩ : ∃ w1, w1 = wd.alloc (.cells #[.string k] 9) := ⟨_, rfl⟩
        rw [← hw1] at hk1 hE1 ⊢
        have hs1' : w1.heap.size = wd.heap.size + 1 := by rw [hw1]; simp
        have HS1 := Lib.hid hs1'
        clear hw1 hs1'
        refine WalkN.one 0 (by kernel_rfl) ?_
        refine ⟨_, (by simp only [List.getElem?_toArray, List.getElem?_cons_zero]; rfl), by rfl, fun K hK => ?_⟩
        go_simp
        have hown1 : Own (w1.alloc (.cells #[] 9)) wd.heap.size 9 1 (.slice (some ⟨w1.heap.size, 0, none⟩) 0 0) [] := Own.made w1 hE1.size _ _
        have hE3 := Below.alloc hE1 hE1.size (.cells #[] 9)
        have hk3 := hk1.same (w' := w1.alloc (.cells #[] 9)) (fun x hx => Below.heap_alloc w1 _ x (by subst hx; have := HS1.out; omega))
        refine hK.out _ _ hE3 ?_
        clear hK
        refine WalkN.one 4 (by kernel_rfl) ?_
        refine ⟨_, (by simp only [List.getElem?_toArray, List.getElem?_cons_succ, List.getElem?_cons_zero]; rfl), by rfl, fun K hK => ?_⟩
        refine wp_own strsT (.tmp 34) (.tmp 37) rfl rfl hown1 rfl (hs1.same (Same.below hE3)) (sc_one _) (by have := HL.out; simp; omega) (by have := HL.out; simp; omega) hE3.size (fun v2 w2 hown2 hb2 hg2' => ?_)
        have hE2 : Ext wd w2 := Below.trans hE3 hb2
        have hk5 := hk3.same (w' := w2) (fun x hx => hg2'.block x (by subst hx; have := HS1.out; simp; omega) (fun h => by subst hx; have h2 := Option.some.inj (show some wd.heap.size = some w1.heap.size from h); have := HS1.out; omega))
        refine hK.out _ _ hE2 ?_
        clear hK
        simp only [Act.put, List.setIfInBounds_toArray, List.set_cons_zero, List.set_cons_succ]
        refine WalkN.one 7 (by kernel_rfl) ?_
        refine ⟨_, (by simp only [List.getElem?_toArray, List.getElem?_cons_succ, List.getElem?_cons_zero]; rfl), by rfl, fun K hK => ?_⟩
        refine wp_own strsT (.tmp 38) (.tmp 40) rfl rfl hown2 rfl hk5 (sc_one [k]) (by have := HL.out; simp; omega) (by have := HL.out; simp; omega) hE2.size (fun v4 w4 hown4 hb4 _ => ?_)
        have hE4 : Ext wd w4 := Below.trans hE2 hb4
        refine hK.out _ _ hE4 ?_
        clear hK
        simp only [Act.put, List.setIfInBounds_toArray, List.set_cons_zero, List.set_cons_succ]
        refine WalkN.one 11 (by kernel_rfl) ?_
        refine ⟨_, (by simp only [List.getElem?_toArray, List.getElem?_cons_succ, List.getElem?_cons_zero]; rfl), by rfl, fun K hK => ?_⟩
        refine wp_own strsT (.tmp 41) (.tmp 44) rfl rfl hown4 rfl (hs2.same (Same.below hE4)) (sc_one _) (by have := HL.out; simp; omega) (by have := HL.out; simp; omega) hE4.size (fun v5 w5 hown5 hb5 _ => ?_)
        have hE5 : Ext wd w5 := Below.trans hE4 hb5
        have HO5 := Lib.hid hown5
        refine hK.out _ _ hE5 ?_
        clear hK
        simp only [Act.put, List.setIfInBounds_toArray, List.set_cons_zero, List.set_cons_succ]
        clear hown2 hown4 hown5 hk5
        ((refine WalkN.take 12 _ ?_ (by simp only [List.getElem?_toArray, List.getElem?_cons_succ, List.getElem?_cons_zero]; rfl) (by kernel_rfl) (by kernel_rfl) (by rfl) (fun W hW => ?_) ?_; rotate_left; · (go_simp; try with_reducible rfl)); simp only [Act.put, List.setIfInBounds_toArray, List.set_cons_zero, List.set_cons_succ]); ((refine WalkN.take 13 _ ?_ (by simp only [List.getElem?_toArray, List.getElem?_cons_succ, List.getElem?_cons_zero]; rfl) (by kernel_rfl) (by kernel_rfl) (by rfl) (fun W hW => ?_) ?_; rotate_left; · (go_simp; try with_reducible rfl)); simp only [Act.put, List.setIfInBounds_toArray, List.set_cons_zero, List.set_cons_succ])
        refine WalkN.done (by kernel_rfl) ?_
        go_wp2
        all_goals (go_ret2; exact hput v5 w5 HO5.out hE5)

theorem put11_any (x : Value) (l : List ByteArray) (k : ByteArray) (w : World) (hx : Sl (· < w.heap.size) w 1 x (sc l)) (hl : l.length ≤ 1000000) :
    Calls Tryz.prog 39 #[x, .string k] w (RetP (putS l k) w) := by
  refine (put11_raw x x (Lib.hid rfl) l k w hx hl).mono ?_
  rintro e w' ⟨v, rfl, ⟨rfl, h⟩ | h, hb⟩
  · exact ⟨_, rfl, by rw [h]; exact (hx.same (Same.below hb)).mono fun _ hx => Nat.lt_of_lt_of_le hx hb.size, hb⟩
  · exact ⟨v, rfl, h.sl.mono fun _ h => h.2, hb⟩

/-- A row of the call's own stays one. -/
theorem put11_own (B : Nat) (x : Value) (l : List ByteArray) (k : ByteArray) (w : World) (hB : B ≤ w.heap.size) (hx : Own w B 9 1 x (sc l)) (hl : l.length ≤ 1000000) :
    Calls Tryz.prog 39 #[x, .string k] w fun e w' => ∃ v, e = .returned (.tuple #[v, .bool (putS l k).2]) ∧ Own w' B 9 1 v (sc (putS l k).1) ∧ Below w.heap.size w w' := by
  refine (put11_raw x x (Lib.hid rfl) l k w (hx.sl.mono fun _ h => h.2) hl).mono ?_
  rintro e w' ⟨v, rfl, ⟨rfl, h⟩ | ⟨n, h1, h2⟩, hb⟩
  · exact ⟨_, rfl, by rw [h]; exact hx.below hb, hb⟩
  · refine ⟨v, rfl, ⟨n, h1, ?_⟩, hb⟩
    rcases h2 with h2 | ⟨g, cap, cur, hv, hg, r⟩
    · exact .inl h2
    · exact .inr ⟨g, cap, cur, hv, Nat.le_trans hB hg, r⟩

end Go.Proofs.YtmmeofiocbfamaaGreatDoor
