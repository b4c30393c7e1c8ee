/- The walks of sentrylaw31's says and fixed; flat's methods at nil. No condition: lemmas. -/
import Derived.Test.YtcbgemnmehoeaaaFlatR
namespace Go.Proofs.Ytcbgemnmehoeaaa
open Go Go.RowKit Go.Maps

theorem WalkN.skip {P : Program} {ops : Array Oper} {Q : Exit → Act → World → Prop} {S : World → Prop} {f : Nat} {l : Array Bool} {a : Act} {w : World} (i : Nat) (o : Oper) (ho : ops[i]? = some o) (hf : Region.free .any ops l i = true) (hr : (Region.ready .any ops l).contains i = true)
    (hw : Region.wanted o (yielded ops a.tmps) = false) (h : WalkN P ops Q S f (l.setIfInBounds i true) (a.put o.dst undef) w) : WalkN P ops Q S (f + 1) l a w :=
  .inr (.inl ⟨i, o, undef, ho, hf, hr, .inr ⟨hw, rfl⟩, h⟩)

/-- A flat whose blocks lie at n0 or above. -/
structure FlatN (n0 : Nat) (w0 w : World) (B : Nat) (f : FlS) : Prop where
  g : FlatG w B f
  foot : ∀ x ∈ footB B f, n0 ≤ x
  below : Below n0 w0 w
theorem FlatN.step {n0 : Nat} {w0 w w' : World} {B : Nat} {f f' : FlS} (h : FlatN n0 w0 w B f) (hn : n0 ≤ w0.heap.size) (hg : FlatG w' B f') (hk : Kept (fun b => b < w.heap.size ∧ b ∉ footB B f) w w') (hf : ∀ x ∈ footB B f', x ∈ footB B f ∨ w.heap.size ≤ x) : FlatN n0 w0 w' B f' :=
  ⟨hg, fun x hx => by
    rcases hf x hx with k | k
    · exact h.foot x k
    · have := h.below.size; omega, h.below.trans (hk.below fun b hb => ⟨by have := h.below.size; omega, fun hx => by have := h.foot b hx; omega⟩)⟩
theorem FlatN.up {n0 : Nat} {w0 w w' : World} {B : Nat} {f : FlS} (h : FlatN n0 w0 w B f) (hn : n0 ≤ w0.heap.size) (hb : Below w.heap.size w w') : FlatN n0 w0 w' B f :=
  ⟨h.g.below hb, h.foot, h.below.trans (hb.mono (by have := h.below.size; omega))⟩

set_option maxRecDepth 100000 in
set_option maxHeartbeats 1600000 in
theorem says_any (a ty b rel : ByteArray) (w : World) : Calls Try.prog 22 #[.string a, .string ty, .string b, .string rel] w fun e w' => e = .returned (tV ⟨⟨⟨#[103, 114, 111, 117, 112]⟩, a, ⟨#[109, 101, 109, 98, 101, 114]⟩⟩, ⟨ty, b, rel⟩⟩) ∧ Below w.heap.size w w' := by
  unfold tV
  dsimp only
  go_enter Try.func22, Try.ntmps22
  go_wp2_with fail
  refine bodyPost_ret (results_cell_row rfl _ _ w.heap.size 32 #[.string ⟨#[103, 114, 111, 117, 112]⟩, .string a, .string ⟨#[109, 101, 109, 98, 101, 114]⟩, .string ty, .string b, .string rel] (0, 0) _ rfl (heap_alloc_new w _) Try.underlying32 rfl (by kernel_rfl)) rfl ⟨rfl, (Below.refl _ _).alloc (Nat.le_refl _) _⟩

def fx1 : Tup := ⟨⟨⟨#[103, 114, 111, 117, 112]⟩, ⟨#[49]⟩, ⟨#[109, 101, 109, 98, 101, 114]⟩⟩, ⟨⟨#[103, 114, 111, 117, 112]⟩, ⟨#[50]⟩, ⟨#[109, 101, 109, 98, 101, 114]⟩⟩⟩
def fx2 : Tup := ⟨⟨⟨#[103, 114, 111, 117, 112]⟩, ⟨#[50]⟩, ⟨#[109, 101, 109, 98, 101, 114]⟩⟩, ⟨⟨#[117, 115, 101, 114]⟩, ⟨#[51]⟩, ⟨#[]⟩⟩⟩
theorem fx1_ok : fx1.Ok := by unfold fx1 Tup.Ok P3.Ok maxLen; decide
theorem fx2_ok : fx2.Ok := by unfold fx2 Tup.Ok P3.Ok maxLen; decide
theorem fx1_chk : chkT fx1 = true := by decide
theorem fx2_chk : chkT fx2 = true := by decide
theorem fx12 : fx2 ∉ [fx1] := by decide
theorem fx_was : Der (· ∈ [fx1, fx2]) fx1.o fx2.s := .step (t := fx1) (by simp) (by unfold P3.isSet fx1; decide) (.base (t := fx2) (by simp))
theorem fx_not : ¬ Der (· ∈ [fx2]) fx1.o fx2.s := by
  intro h
  obtain ⟨t, ht, hf, _⟩ := (der_fwd _ _ _).1 h
  obtain rfl : t = fx2 := by simpa using ht
  generalize hq : fx2.o = q at hf
  cases hf with
  | refl => exact absurd hq (by decide)
  | @tail t h1 h2 h3 =>
    obtain rfl : t = fx2 := by simpa using h2
    exact absurd h3 (by unfold P3.isSet fx2; decide)

set_option maxRecDepth 100000 in
set_option maxHeartbeats 3000000 in
theorem fixed_any (w : World) : Calls Try.prog 7 #[] w fun e w' => e = .returned (.bool true) ∧ Below w.heap.size w w' := by
  go_enter Try.func7, Try.ntmps7
  go_wp2_with fail
  refine (new_any w).mono ?_
  rintro e w1 ⟨B, f1, rfl, hT1, hG1, hb1, hf1⟩
  have H1 := Lib.hid (show FlatN w.heap.size w w1 B f1 from ⟨hG1, hf1, hb1⟩)
  have HT1 := Lib.hid hT1
  clear hG1 hb1 hf1 hT1
  go_wp2_with fail
  refine (says_any _ _ _ _ _).mono ?_
  rintro e w2 ⟨rfl, hb2⟩
  have H2 := Lib.hid (H1.out.up (Nat.le_refl _) hb2)
  clear hb2 H1
  go_wp2_with fail
  refine (add_any w2 B f1 fx1 H2.out.g fx1_ok (by rw [HT1.out]; decide)).mono ?_
  rintro e w3 ⟨rfl, f2, hG3, hT3, hk3, hf3⟩
  have H3 := Lib.hid (H2.out.step (Nat.le_refl _) hG3 hk3 hf3)
  have HT3 := Lib.hid (show f2.T = [fx1] from by rw [hT3, HT1.out]; decide)
  rw [show addN f1.T fx1 = 0 from by rw [HT1.out]; decide]
  clear hG3 hT3 hk3 hf3 H2
  go_wp2_with fail
  refine (says_any _ _ _ _ _).mono ?_
  rintro e w4 ⟨rfl, hb4⟩
  have H4 := Lib.hid (H3.out.up (Nat.le_refl _) hb4)
  clear hb4 H3
  go_wp2_with fail
  refine (add_any w4 B f2 fx2 H4.out.g fx2_ok (by rw [HT3.out]; decide)).mono ?_
  rintro e w5 ⟨rfl, f3, hG5, hT5, hk5, hf5⟩
  have H5 := Lib.hid (H4.out.step (Nat.le_refl _) hG5 hk5 hf5)
  have HT5 := Lib.hid (show f3.T = [fx1, fx2] from by rw [hT5, HT3.out]; decide)
  rw [show addN f2.T fx2 = 0 from by rw [HT3.out]; decide]
  clear hG5 hT5 hk5 hf5 H4
  have hbP := (Blk.made w5 #[.string ⟨#[103, 114, 111, 117, 112]⟩, .string ⟨#[49]⟩, .string ⟨#[109, 101, 109, 98, 101, 114]⟩] 37).alloc (.cells #[.string ⟨#[117, 115, 101, 114]⟩, .string ⟨#[51]⟩, .string ⟨#[]⟩] 30)
  have hbS := Blk.made' (w := w5.alloc (.cells #[.string ⟨#[103, 114, 111, 117, 112]⟩, .string ⟨#[49]⟩, .string ⟨#[109, 101, 109, 98, 101, 114]⟩] 37)) (B := w5.heap.size + 1) (by simp) #[.string ⟨#[117, 115, 101, 114]⟩, .string ⟨#[51]⟩, .string ⟨#[]⟩] 30
  have hb6 : Below w5.heap.size w5 ((w5.alloc (.cells #[.string ⟨#[103, 114, 111, 117, 112]⟩, .string ⟨#[49]⟩, .string ⟨#[109, 101, 109, 98, 101, 114]⟩] 37)).alloc (.cells #[.string ⟨#[117, 115, 101, 114]⟩, .string ⟨#[51]⟩, .string ⟨#[]⟩] 30)) := ((Below.refl _ _).alloc (Nat.le_refl _) _).alloc (by simp) _
  have HFL := Lib.hid H5.out.g.at_.lt
  have HH := has_any ((w5.alloc (.cells #[.string ⟨#[103, 114, 111, 117, 112]⟩, .string ⟨#[49]⟩, .string ⟨#[109, 101, 109, 98, 101, 114]⟩] 37)).alloc (.cells #[.string ⟨#[117, 115, 101, 114]⟩, .string ⟨#[51]⟩, .string ⟨#[]⟩] 30)) B f3 fx1.o fx2.s (H5.out.g.below hb6).at_ (TK.of_ok fx1_ok).o (TK.of_ok fx2_ok).s
  have H6 := Lib.hid (H5.out.up (Nat.le_refl _) hb6)
  rw [show decide (fx2.s ∈ inn f3.M fx1.o) = true from by
    rw [decide_eq_true_eq, H5.out.g.good.mem, HT5.out]; exact fx_was] at HH
  have HHH := Lib.hid HH
  have HBP := Lib.hid hbP
  have HBS := Lib.hid hbS
  clear HH hb6 hbP hbS H5
  go_wp2_with fail
  refine HHH.out.mono ?_
  rintro e w7 ⟨rfl, hb7⟩
  have H7 := Lib.hid (H6.out.up (Nat.le_refl _) hb7)
  have HBP7 := Lib.hid (HBP.out.below hb7)
  have HBS7 := Lib.hid (HBS.out.below hb7)
  clear hb7 H6 HHH HBP HBS
  go_wp2_with fail
  refine (says_any _ _ _ _ _).mono ?_
  rintro e w8 ⟨rfl, hb8⟩
  have H8 := Lib.hid (H7.out.up (Nat.le_refl _) hb8)
  have HBP8 := Lib.hid (HBP7.out.below hb8)
  have HBS8 := Lib.hid (HBS7.out.below hb8)
  clear hb8 H7 HBP7 HBS7
  go_wp2_with fail
  refine (drop_any w8 B f3 fx1 H8.out.g fx1_ok).mono ?_
  rintro e w9 ⟨rfl, f4, hG9, hT9, hk9, hf9⟩
  have H9 := Lib.hid (H8.out.step (Nat.le_refl _) hG9 hk9 hf9)
  have HT9 := Lib.hid (show f4.T = [fx2] from by rw [hT9, HT5.out]; decide)
  rw [show dropN f3.T fx1 = 0 from by rw [HT5.out]; decide]
  have cP := (hk9.blk HBP8.out ⟨HBP8.out.lt, fun h => Nat.lt_irrefl _ (HFL.out _ h)⟩).cells
  have cS := (hk9.blk HBS8.out ⟨HBS8.out.lt, fun h => by have := HFL.out _ h; omega⟩).cells
  have HH2 := has_any w9 B f4 fx1.o fx2.s H9.out.g.at_ (TK.of_ok fx1_ok).o (TK.of_ok fx2_ok).s
  rw [show decide (fx2.s ∈ inn f4.M fx1.o) = false from by
    rw [decide_eq_false_iff_not, H9.out.g.good.mem, HT9.out]; exact fx_not] at HH2
  have HHH := Lib.hid HH2
  clear hG9 hT9 hk9 hf9 H8 HBP8 HBS8 HH2 HFL
  go_wp2_with fail
  refine HHH.out.mono ?_
  rintro e w10 ⟨rfl, hb10⟩
  have H10 := Lib.hid (H9.out.up (Nat.le_refl _) hb10)
  clear hb10 H9 HHH cP cS
  go_wp2_with fail
  have HLN := len_any w10 B f4 H10.out.g.at_
  rw [HT9.out] at HLN
  refine HLN.mono ?_
  rintro e w11 ⟨rfl, rfl⟩
  clear HLN
  go_wp2_with fail
  go_ret
  exact ⟨rfl, H10.out.below⟩


set_option maxRecDepth 100000 in
set_option maxHeartbeats 800000 in
theorem add_nil (t : Tup) (w : World) : Calls Try.prog 10 #[.pointer none, tV t] w fun e w' => e = .returned (.int .i64 1) ∧ Below w.heap.size w w' := by
  obtain ⟨⟨ot, oi, or_⟩, ⟨st, si, sr⟩⟩ := t
  unfold tV
  dsimp only
  go_enter Try.func10, Try.ntmps10
  go_wp2_with fail
  go_ret
  exact ⟨rfl, (Below.refl _ _).alloc (Nat.le_refl _) _⟩

set_option maxRecDepth 100000 in
set_option maxHeartbeats 800000 in
theorem drop_nil (t : Tup) (w : World) : Calls Try.prog 14 #[.pointer none, tV t] w fun e w' => e = .returned (.int .i64 1) ∧ Below w.heap.size w w' := by
  obtain ⟨⟨ot, oi, or_⟩, ⟨st, si, sr⟩⟩ := t
  unfold tV
  dsimp only
  go_enter Try.func14, Try.ntmps14
  go_wp2_with fail
  go_ret
  exact ⟨rfl, (Below.refl _ _).alloc (Nat.le_refl _) _⟩

set_option maxRecDepth 100000 in
set_option maxHeartbeats 800000 in
theorem has_nil (p s : P3) (w : World) : Calls Try.prog 12 #[.pointer none, pV p, pV s] w fun e w' => e = .returned (.bool false) ∧ Below w.heap.size w w' := by
  obtain ⟨pt, pi, pr⟩ := p
  obtain ⟨st, si, sr⟩ := s
  unfold pV
  dsimp only
  go_enter Try.func12, Try.ntmps12
  go_wp2_with fail
  obtain ⟨wd, hwd⟩ : ∃ wd, wd = ((w.alloc (.cells #[.string pt, .string pi, .string pr] 37)).alloc (.cells #[.string st, .string si, .string sr] 30)).drew := ⟨_, rfl⟩
  have hbd : Below w.heap.size w wd := by rw [hwd]; exact (((Below.refl _ _).alloc (Nat.le_refl _) _).alloc (by simp) _).drew
  refine region_walkN (Ext wd) (by rw [← hwd]; exact Ext.refl _) (by kernel_rfl) (by kernel_rfl) (fun _ _ d _ _ h => by cases d <;> exact h) ?_
  rw [← hwd]
  clear hwd
  ((refine WalkN.take 0 _ ?_ (by simp only [List.getElem?_toArray, List.getElem?_cons_zero]; rfl) (by kernel_rfl) (by kernel_rfl) (by rfl) (fun W hW => ?_) ?_; rotate_left; · (go_simp; try with_reducible rfl)); simp only [Act.put, List.setIfInBounds_toArray, List.set_cons_zero, List.set_cons_succ]); ((refine WalkN.take 1 _ ?_ (by simp only [List.getElem?_toArray, List.getElem?_cons_succ, List.getElem?_cons_zero]; rfl) (by kernel_rfl) (by kernel_rfl) (by rfl) (fun W hW => ?_) ?_; rotate_left; · (go_simp; try with_reducible rfl)); simp only [Act.put, List.setIfInBounds_toArray, List.set_cons_zero, List.set_cons_succ]); ((refine WalkN.take 2 _ ?_ (by simp only [List.getElem?_toArray, List.getElem?_cons_succ, List.getElem?_cons_zero]; rfl) (by kernel_rfl) (by kernel_rfl) (by rfl) (fun W hW => ?_) ?_; rotate_left; · (go_simp; try with_reducible rfl)); simp only [Act.put, List.setIfInBounds_toArray, List.set_cons_zero, List.set_cons_succ])
  (refine WalkN.skip 3 _ (by simp only [List.getElem?_toArray, List.getElem?_cons_succ, List.getElem?_cons_zero]; rfl) (by kernel_rfl) (by kernel_rfl) (by rfl) ?_; simp only [Act.put, List.setIfInBounds_toArray, List.set_cons_zero, List.set_cons_succ]); (refine WalkN.skip 4 _ (by simp only [List.getElem?_toArray, List.getElem?_cons_succ, List.getElem?_cons_zero]; rfl) (by kernel_rfl) (by kernel_rfl) (by rfl) ?_; simp only [Act.put, List.setIfInBounds_toArray, List.set_cons_zero, List.set_cons_succ]); (refine WalkN.skip 5 _ (by simp only [List.getElem?_toArray, List.getElem?_cons_succ, List.getElem?_cons_zero]; rfl) (by kernel_rfl) (by kernel_rfl) (by rfl) ?_; simp only [Act.put, List.setIfInBounds_toArray, List.set_cons_zero, List.set_cons_succ]); (refine WalkN.skip 6 _ (by simp only [List.getElem?_toArray, List.getElem?_cons_succ, List.getElem?_cons_zero]; rfl) (by kernel_rfl) (by kernel_rfl) (by rfl) ?_; simp only [Act.put, List.setIfInBounds_toArray, List.set_cons_zero, List.set_cons_succ]); (refine WalkN.skip 7 _ (by simp only [List.getElem?_toArray, List.getElem?_cons_succ, List.getElem?_cons_zero]; rfl) (by kernel_rfl) (by kernel_rfl) (by rfl) ?_; simp only [Act.put, List.setIfInBounds_toArray, List.set_cons_zero, List.set_cons_succ]); (refine WalkN.skip 8 _ (by simp only [List.getElem?_toArray, List.getElem?_cons_succ, List.getElem?_cons_zero]; rfl) (by kernel_rfl) (by kernel_rfl) (by rfl) ?_; simp only [Act.put, List.setIfInBounds_toArray, List.set_cons_zero, List.set_cons_succ]); (refine WalkN.skip 9 _ (by simp only [List.getElem?_toArray, List.getElem?_cons_succ, List.getElem?_cons_zero]; rfl) (by kernel_rfl) (by kernel_rfl) (by rfl) ?_; simp only [Act.put, List.setIfInBounds_toArray, List.set_cons_zero, List.set_cons_succ]); (refine WalkN.skip 10 _ (by simp only [List.getElem?_toArray, List.getElem?_cons_succ, List.getElem?_cons_zero]; rfl) (by kernel_rfl) (by kernel_rfl) (by rfl) ?_; simp only [Act.put, List.setIfInBounds_toArray, List.set_cons_zero, List.set_cons_succ])
  ((refine WalkN.take 11 _ ?_ (by simp only [List.getElem?_toArray, List.getElem?_cons_succ, List.getElem?_cons_zero]; rfl) (by kernel_rfl) (by kernel_rfl) (by rfl) (fun W hW => ?_) ?_; rotate_left; · (go_simp; try with_reducible rfl)); simp only [Act.put, List.setIfInBounds_toArray, List.set_cons_zero, List.set_cons_succ]); ((refine WalkN.take 12 _ ?_ (by simp only [List.getElem?_toArray, List.getElem?_cons_succ, List.getElem?_cons_zero]; rfl) (by kernel_rfl) (by kernel_rfl) (by rfl) (fun W hW => ?_) ?_; rotate_left; · (go_simp; try with_reducible rfl)); simp only [Act.put, List.setIfInBounds_toArray, List.set_cons_zero, List.set_cons_succ])
  refine WalkN.done (by kernel_rfl) ?_
  go_wp2_with fail
  go_ret
  exact ⟨rfl, hbd⟩

set_option maxRecDepth 100000 in
set_option maxHeartbeats 800000 in
theorem members_nil (p : P3) (w : World) : Calls Try.prog 13 #[.pointer none, pV p] w fun e w' => e = .returned (.slice none 0 0) ∧ Below w.heap.size w w' := by
  obtain ⟨pt, pi, pr⟩ := p
  unfold pV
  dsimp only
  go_enter Try.func13, Try.ntmps13
  go_wp2_with fail
  go_ret
  exact ⟨rfl, (Below.refl _ _).alloc (Nat.le_refl _) _⟩

set_option maxRecDepth 100000 in
set_option maxHeartbeats 800000 in
theorem points_nil (p : P3) (w : World) : Calls Try.prog 20 #[.pointer none, pV p] w fun e w' => e = .returned (.slice none 0 0) ∧ Below w.heap.size w w' := by
  obtain ⟨pt, pi, pr⟩ := p
  unfold pV
  dsimp only
  go_enter Try.func20, Try.ntmps20
  go_wp2_with fail
  go_ret
  exact ⟨rfl, (Below.refl _ _).alloc (Nat.le_refl _) _⟩

set_option maxRecDepth 100000 in
set_option maxHeartbeats 800000 in
theorem len_nil  (w : World) : Calls Try.prog 16 #[.pointer none] w fun e w' => e = .returned (.int .i64 0) ∧ Below w.heap.size w w' := by
  go_enter Try.func16, Try.ntmps16
  go_wp2_with fail
  go_ret
  exact ⟨rfl, Below.refl _ _⟩

end Go.Proofs.Ytcbgemnmehoeaaa
