/- The walk of sentrylaw02.CodecNumbers: true for whatever bytes and number. No condition: lemmas. -/
import Derived.Test.YtkllfdfipkcddaaDoorCodecD
import Derived.Test.YtkllfdfipkcddaaDoorRegion
namespace Go.Proofs.YtkllfdfipkcddaaDoor
open Go Go.RowKit

set_option maxRecDepth 100000 in
set_option maxHeartbeats 1600000 in
theorem numbers_any (b : Value) (l : List UInt8) (q : Nat) (w : World) (henv : Env w) (hb : Sl (· < w.heap.size) w 1 b (bc l)) (hq : U64 q) :
    Calls Tryd.prog 3 #[b, .int .u64 q] w (RetV (.bool true) w) := by
  have HB := Lib.hid hb
  obtain ⟨ao, n, c, rfl, hn, hnc, hc, hnone, hcell⟩ := hb
  rw [bc_length] at hn
  obtain rfl : n = l.length := by omega
  have hc' : c ≤ 9223372036854775807 := by unfold maxLen at hc; omega
  clear hn hcell hnone
  go_enter Tryd.func3, Tryd.ntmps3
  go_wp2_with fail
  refine (fixed02 _ henv).mono ?_
  rintro e w1 ⟨rfl, hb1⟩
  have hbs1 := hb1.size
  by_cases hlen : l.length ≤ 2000
  · have happ0 : App (w1.alloc (.cells #[] 5)) w.heap.size 5 1 (.slice (some ⟨w1.heap.size, 0, none⟩) 0 0) [] := .inr ⟨_, 0, rfl, rfl, Nat.zero_le _, (fun h => by cases h), fun h => absurd rfl h⟩
    have hsl1 := (HB.out.same (Same.below hb1)).same (w' := w1.alloc (.cells #[] 5)) (fun k hk => Below.heap_alloc w1 _ k (by omega))
    have hl1 := bc_length l
    have hone := bc_one l
    go_wp2_with (first | (at_builtin; refine wpList_app bytesT rfl (.tmp 15) (.tmp 16) rfl rfl happ0 rfl hsl1 hone (by simp; omega) (by simp; omega) (by simp; omega) ?_; intro v2 w2 happ2 hb2 _; have hbs2 := hb2.size) | (at_builtin; refine wpList_app_lit bytesT rfl (.tmp 17) (.tmp 18) rfl rfl happ2 rfl rfl (by simp [Value.oneCell']) (by simp; omega) (by simp; omega) (by simp at hbs2; omega) ?_; intro v3 w3 happ3 hb3 _; obtain ⟨a3, n3, c3, hv3, hn3, hnc3, hc3⟩ := happ3.sl.len; subst hv3; rw [List.nil_append, List.length_append, bc_length] at hn3; simp at hn3; obtain rfl : n3 = l.length + 3 := by omega))
    have hs3 : Sl (· < w3.heap.size) w3 1 (.slice a3 l.length c3) (bc l) := by
      have := happ3.sl.take l.length (by omega)
      rwa [List.nil_append, Nat.mul_one, List.take_left' hl1] at this
    refine (put_any _ l q w3 hs3 (by omega) hq).mono ?_
    rintro e w4 ⟨v4, rfl, happ4, hb4⟩
    obtain ⟨a4, n4, c4, hv4, hn4, hnc4, hc4⟩ := happ4.sl.len
    subst hv4
    rw [bc_length, List.length_append] at hn4
    obtain rfl : n4 = l.length + (putB q).length := by omega
    have hpl := hq.len
    clear hn4 hs3
    have hpp := putB_pos q
    have hmin : min (l.length : Int) (l.length + (putB q).length) = l.length := by omega
    go_wp2_with fail
    have hs5 := (happ4.sl.drop l.length (by omega))
    rw [show bc (l ++ putB q) = bc l ++ bc (putB q) from bc_append _ _, List.drop_left' hl1, Nat.add_sub_cancel_left] at hs5
    have hg5 := get_any _ (putB q) _ _ hs5 (by omega)
    rw [← List.append_nil (putB q), getG_put q hq, List.append_nil] at hg5
    refine hg5.mono ?_
    rintro e w5 ⟨rfl, rfl⟩
    clear hg5 hs5
    go_wp2_with fail
    have hbs3 := hb3.size
    have hbs4 := hb4.size
    have hb04 : Below w.heap.size w w4 := ((((hb1.trans ((Below.refl _ _).alloc hbs1 _))).trans hb2).trans hb3).trans (hb4.mono (by simp at hbs2; omega))
    have hA : ∀ W, Ext w4 W → (convert 22 9 (.slice a3 (l.length + 3) c3)).run Tryd.prog W = .ok (.string ⟨(l ++ [1, 2, 3]).toArray⟩) W := fun W h =>
      str_sl (S := (· < w3.heap.size)) (((Sl.same (w' := W) (by simpa [bc] using happ3.sl) (Same.below (hb4.trans (Below.mono h hbs4))))))
    have hB0 : ∀ W, Ext w4 W → (convert 22 9 (.slice ao l.length c)).run Tryd.prog W = .ok (.string ⟨l.toArray⟩) W := fun W h => str_sl (HB.out.same (Same.below (hb04.trans (Below.mono h hb04.size))))
    have hC : ∀ W, Ext w4 W → (convert 22 9 (.slice a4 (l.length + (putB q).length) c4)).run Tryd.prog W = .ok (.string ⟨(l ++ putB q).toArray⟩) W := fun W h => str_sl (happ4.sl.same h.same)
    have hadd : (⟨l.toArray⟩ : ByteArray) ++ ⟨#[1, 2, 3]⟩ = ⟨(l ++ [1, 2, 3]).toArray⟩ := ba_append l [1, 2, 3]
    have hsub : (l.length : Int) + (putB q).length - l.length = (putB q).length := by omega
    clear hmin happ0 hsl1 happ2 hone
    have hsz : ¬ 9223372036854775807 < l.length + 3 := by omega
    have hwr : IntKind.i64.wrap ((putB q).length : Int) = (putB q).length := IntWalk.i64_in _ (by omega)
    have hE : Ext w4 w4.drew := Ext.drew w4
    refine region_walk [(0, true), (1, true), (2, true), (3, true), (4, true), (5, true), (6, true), (7, true), (8, true), (9, true), (10, true), (11, false), (12, true), (13, true), (14, true), (15, true), (16, true), (17, true), (18, true), (19, true), (20, true), (21, true), (22, true), (23, true), (24, true), (25, true), (26, true), (27, true), (28, true), (29, true), (30, true), (31, true), (32, true), (33, true)] (by kernel_rfl) (by kernel_rfl) (by kernel_rfl) rfl (fun _ _ d _ _ h => by cases d <;> exact h) ?_
    iterate 11 ((refine Walk.take _ ?_ (by simp only [List.getElem?_toArray, List.getElem?_cons_succ, List.getElem?_cons_zero]; rfl) (by rfl) (fun W hW => ?_) ?_; rotate_left; · (have hE0 := hE.trans hW; go_simp; try with_reducible rfl)); simp only [Act.put, List.setIfInBounds_toArray, List.set_cons_zero, List.set_cons_succ])
    refine Walk.make _ (by simp only [List.getElem?_toArray, List.getElem?_cons_succ, List.getElem?_cons_zero]; rfl) (by rfl) (fun K hK => ?_); go_simp
    refine (refPut_any _ l q _ ((HB.out.same (Same.below (hb04.drew))).mono (fun k hk => Nat.lt_of_lt_of_le hk hb04.size)) (by omega) hq).mono ?_
    rintro e w5 ⟨v5, rfl, happ5, hb5⟩
    refine hK.out _ _ hb5 ?_
    have hE := hE.trans hb5
    have hD : ∀ W, Ext w5 W → (convert 22 9 v5).run Tryd.prog W = .ok (.string ⟨(l ++ putB q).toArray⟩) W := fun W h => str_sl (happ5.sl.same h.same)
    iterate 22 ((refine Walk.take _ ?_ (by simp only [List.getElem?_toArray, List.getElem?_cons_succ, List.getElem?_cons_zero]; rfl) (by rfl) (fun W hW => ?_) ?_; rotate_left; · (have hE0 := hE.trans hW; go_simp; try with_reducible rfl)); simp only [Act.put, List.setIfInBounds_toArray, List.set_cons_zero, List.set_cons_succ])
    unfold Walk
    go_wp2
    go_ret
    exact ⟨rfl, hb04.trans (Below.mono hE hb04.size)⟩
  · go_wp2_with fail
    go_ret
    exact ⟨rfl, hb1⟩

end Go.Proofs.YtkllfdfipkcddaaDoor
