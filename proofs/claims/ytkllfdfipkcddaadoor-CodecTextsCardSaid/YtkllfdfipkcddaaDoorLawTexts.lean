/- The walk of sentrylaw02.CodecTexts: true for whatever bytes and texts. No condition: lemmas. -/
import Derived.Test.YtkllfdfipkcddaaDoorCodecE
import Derived.Test.YtkllfdfipkcddaaDoorRegion
namespace Go.Proofs.YtkllfdfipkcddaaDoor
open Go Go.RowKit

theorem getT_putT (s more : List UInt8) (hs : s.length ≤ 10000000) : getT (putT s ++ more) = (s, (putT s).length, 0) := by
  have hg := getG_put s.length (by unfold U64; omega) (s ++ more)
  have e : putT s ++ more = putB s.length ++ (s ++ more) := by simp [putT]
  unfold getT
  rw [e, hg]
  simp [putT]

theorem putT_length (s : List UInt8) : (putT s).length = (putB s.length).length + s.length := by simp [putT]

set_option maxRecDepth 100000 in
set_option maxHeartbeats 1600000 in
theorem texts_any (b : Value) (l : List UInt8) (s : ByteArray) (x : Value) (m : List UInt8) (w : World) (henv : Env w) (hb : Sl (· < w.heap.size) w 1 b (bc l)) (hm : Sl (· < w.heap.size) w 1 x (bc m)) :
    Calls Tryd.prog 5 #[b, .string s, x] w (RetV (.bool true) w) := by
  have HB := Lib.hid hb
  have HM := Lib.hid hm
  obtain ⟨ao, n, c, rfl, hn, hnc, hc⟩ := hb.len
  obtain ⟨ax, nx, cx, rfl, hnx, hncx, hcx⟩ := hm.len
  rw [bc_length] at hn hnx
  obtain rfl : n = l.length := by omega
  obtain rfl : nx = m.length := by omega
  clear hn hnx hb hm
  by_cases hlen : l.length ≤ 2000 ∧ s.size ≤ 2000 ∧ m.length ≤ 2000
  · obtain ⟨hl1, hl2, hl3⟩ := hlen
    go_enter Tryd.func5, Tryd.ntmps5
    go_wp2_with fail
    refine (fixed02 _ henv).mono ?_
    rintro e w1 ⟨rfl, hb1⟩
    have hbs1 := hb1.size
    have happ0 : App (w1.alloc (.cells #[] 5)) w.heap.size 5 1 (.slice (some ⟨w1.heap.size, 0, none⟩) 0 0) [] := .inr ⟨_, 0, rfl, rfl, Nat.zero_le _, (fun h => by cases h), fun h => absurd rfl h⟩
    have hsl1 := (HB.out.same (Same.below hb1)).same (w' := w1.alloc (.cells #[] 5)) (fun k hk => Below.heap_alloc w1 _ k (by omega))
    have hbl := bc_length l
    have hone := bc_one l
    have honem := bc_one m
    go_wp2_with (at_builtin; refine wpList_app bytesT rfl (.tmp 26) (.tmp 27) rfl rfl happ0 rfl hsl1 hone (by simp; omega) (by simp; omega) (by simp; omega) ?_; intro v2 w2 happ2 hb2 _; have hbs2 := hb2.size)
    rw [List.nil_append] at happ2
    refine (putText_any v2 l s w2 happ2.sl (by omega) (by omega)).mono ?_
    rintro e w3 ⟨v3, rfl, happ3, hb3⟩
    obtain ⟨a3, n3, c3, hv3, hn3, hnc3, hc3⟩ := happ3.sl.len
    subst hv3
    have hpl := (show U64 s.size from by unfold U64; omega).len
    have hpp := putB_pos s.size
    have hptl : (putT s.data.toList).length = (putB s.size).length + s.size := by rw [putT_length, size_data]
    rw [bc_length, List.length_append] at hn3
    obtain rfl : n3 = l.length + (putT s.data.toList).length := by omega
    have HP := Lib.hid hptl
    have hpb : (putT s.data.toList).length ≤ 3000 := by omega
    have hpc : 0 < (putT s.data.toList).length := by omega
    have hw2 : w.heap.size ≤ w2.heap.size := by simp at hbs2; omega
    have hb03 : Below w.heap.size w w3 := ((hb1.trans ((Below.refl _ _).alloc hbs1 _)).trans hb2).trans (hb3.mono hw2)
    have hw3 := hb3.size
    have hA : ∀ W, Ext w3 W → (convert 22 9 (.slice a3 (l.length + (putT s.data.toList).length) c3)).run Tryd.prog W = .ok (.string ⟨(l ++ putT s.data.toList).toArray⟩) W := fun W h => str_sl (happ3.sl.same h.same)
    have H3 := Lib.hid happ3.sl
    clear happ0 hsl1 happ2 hptl hpl hpp hn3 hone happ3
    go_wp2_with fail
    have hE : Ext w3 w3.drew := Ext.drew w3
    refine region_walk [(0, true), (1, true), (2, true), (3, true), (4, false), (5, true), (6, true)] (by kernel_rfl) (by kernel_rfl) (by kernel_rfl) rfl (fun _ _ d _ _ h => by cases d <;> exact h) ?_
    iterate 4 ((refine Walk.take _ ?_ (by simp only [List.getElem?_toArray, List.getElem?_cons_succ, List.getElem?_cons_zero]; rfl) (by rfl) (fun W hW => ?_) ?_; rotate_left; · (have hE0 := hE.trans hW; go_simp; try with_reducible rfl)); simp only [Act.put, List.setIfInBounds_toArray, List.set_cons_zero, List.set_cons_succ])
    refine Walk.make _ (by simp only [List.getElem?_toArray, List.getElem?_cons_succ, List.getElem?_cons_zero]; rfl) (by rfl) (fun K hK => ?_); go_simp
    refine (refPutText_any _ l s _ ((HB.out.same (Same.below (hb03.drew))).mono (fun k hk => Nat.lt_of_lt_of_le hk hb03.size)) (by omega) (by omega)).mono ?_
    rintro e w4 ⟨v4, rfl, happ4, hb4⟩
    refine hK.out _ _ hb4 ?_
    have hE := hE.trans hb4
    have hD : ∀ W, Ext w4 W → (convert 22 9 v4).run Tryd.prog W = .ok (.string ⟨(l ++ putT s.data.toList).toArray⟩) W := fun W h => str_sl (happ4.sl.same h.same)
    iterate 2 ((refine Walk.take _ ?_ (by simp only [List.getElem?_toArray, List.getElem?_cons_succ, List.getElem?_cons_zero]; rfl) (by rfl) (fun W hW => ?_) ?_; rotate_left; · (have hE0 := hE.trans hW; go_simp; try with_reducible rfl)); simp only [Act.put, List.setIfInBounds_toArray, List.set_cons_zero, List.set_cons_succ])
    unfold Walk
    clear hA hD happ4 hK
    have hs4 : w3.heap.size ≤ w4.heap.size := hE.size
    have happ5 : App (w4.alloc (.cells #[] 5)) w.heap.size 5 1 (.slice (some ⟨w4.heap.size, 0, none⟩) 0 0) [] := .inr ⟨_, 0, rfl, rfl, Nat.zero_le _, (fun h => by cases h), fun h => absurd rfl h⟩
    have hs5 : Sl (· < w3.heap.size) (w4.alloc (.cells #[] 5)) 1 (.slice (Option.map (fun x => x.add l.length) a3) (putT s.data.toList).length (c3 - l.length)) (bc (putT s.data.toList)) := by
      have := (H3.out.same hE.same).drop l.length (by omega)
      rw [bc_append, List.drop_left' hbl, Nat.add_sub_cancel_left] at this
      exact this.same (fun k hk => Below.heap_alloc w4 _ k (by omega))
    have hone5 := bc_one (putT s.data.toList)
    have hl5 := bc_length (putT s.data.toList)
    have hlm := bc_length m
    have hne : ¬ c3 = l.length := by omega
    go_wp2_with (first | (at_builtin; refine wpList_app bytesT rfl (.tmp 39) (.tmp 43) rfl rfl happ5 rfl hs5 hone5 (by simp; omega) (by simp; omega) (by simp; omega) ?_; intro v6 w6 happ6 hb6 _; have hbs6 := hb6.size; have hs6 := (HM.out.same (Same.below (((hb03.trans (hE.mono hb03.size)).trans ((Below.refl _ _).alloc (Nat.le_trans hb03.size hs4) _)).trans hb6)))) | (at_builtin; refine wpList_app bytesT rfl (.tmp 44) (.tmp 45) rfl rfl happ6 rfl hs6 honem (by simp; omega) (by simp; omega) (by simp at hbs6; omega) ?_; intro v7 w7 happ7 hb7 _))
    have hb07 : Below w.heap.size w w7 := (((hb03.trans (hE.mono hb03.size)).trans ((Below.refl _ _).alloc (Nat.le_trans hb03.size hs4) _)).trans hb6).trans hb7
    have hg := getText_any v7 (putT s.data.toList ++ m) w7 _ (by have := happ7.sl; rwa [List.nil_append, ← bc_append] at this) (by rw [List.length_append]; omega)
    rw [getT_putT _ m (by rw [size_data]; omega)] at hg
    have HG := Lib.hid hg
    clear hg happ5 hs5 happ6 happ7 hs6 hone5 honem
    refine HG.out.mono ?_
    rintro e w8 ⟨rfl, rfl⟩
    have hsub : (l.length : Int) + (putT s.data.toList).length - l.length = (putT s.data.toList).length := by omega
    have hwr : IntKind.i64.wrap ((putT s.data.toList).length : Int) = (putT s.data.toList).length := IntWalk.i64_in _ (by omega)
    go_wp2_with fail
    go_ret
    exact ⟨rfl, hb07⟩
  · have hor : 2000 < l.length ∨ (l.length ≤ 2000 ∧ 2000 < s.size) ∨ (l.length ≤ 2000 ∧ s.size ≤ 2000 ∧ 2000 < m.length) := by omega
    clear hlen
    rcases hor with h1 | ⟨h1, h2⟩ | ⟨h1, h2, h3⟩
    all_goals
      go_enter Tryd.func5, Tryd.ntmps5
      go_wp2_with fail
      refine (fixed02 _ henv).mono ?_
      rintro e w1 ⟨rfl, hb1⟩
      go_wp2_with fail
      go_ret
      exact ⟨rfl, hb1⟩

end Go.Proofs.YtkllfdfipkcddaaDoor
