/- The walks of flat's New, Add, Has, Members, Len. No condition: lemmas. -/
import Derived.Test.YtcbgemnmehoeaaaFlatN
namespace Go.Proofs.Ytcbgemnmehoeaaa
open Go Go.RowKit Go.Maps

/-- A flat that tells what follows of its tuples. -/
structure FlatG (w : World) (B : Nat) (f : FlS) : Prop where
  at_ : FlatAt w B f
  good : Good f.T f.M f.U
  keys : ∀ t ∈ f.T, TK t
  len : f.T.length ≤ 50000
theorem FlatG.same {w w' : World} {B : Nat} {f : FlS} (h : FlatG w B f) (hs : ∀ x ∈ footB B f, w'.heap[x]? = w.heap[x]?) : FlatG w' B f := ⟨h.at_.same hs, h.good, h.keys, h.len⟩
theorem FlatG.below {w w' : World} {B : Nat} {f : FlS} (h : FlatG w B f) (hb : Below w.heap.size w w') : FlatG w' B f := ⟨h.at_.below hb, h.good, h.keys, h.len⟩
theorem FlatG.nodup {w : World} {B : Nat} {f : FlS} (h : FlatG w B f) : f.T.Nodup := by
  have := h.at_.T.nodup
  rwa [show (tl f.T).map (·.1) = f.T from by simp [tl, Function.comp_def]] at this

theorem look_tl (l : List Tup) (a : Tup) : lookA (tl l) a = if a ∈ l then some true else none := by
  induction l with
  | nil => rfl
  | cons x r ih =>
    simp only [tl, List.map_cons, lookA] at *
    by_cases h : x = a
    · subst h; simp
    · simp [h, ih, Ne.symm h]
theorem put_tl (l : List Tup) (a : Tup) (h : a ∉ l) : putA (tl l) a true = tl (l ++ [a]) := by
  rw [put_miss (fun p hp e => h (by obtain ⟨x, hx, rfl⟩ := List.mem_map.1 hp; exact e ▸ hx))]
  simp [tl]
theorem del_tl (l : List Tup) (a : Tup) : delA (tl l) a = tl (l.erase a) := by
  induction l with
  | nil => rfl
  | cons x r ih =>
    simp only [tl, List.map_cons, delA] at *
    by_cases h : x = a
    · subst h; simp
    · rw [if_neg h, ih, List.erase_cons_tail (by simpa using h)]
      rfl

set_option maxRecDepth 100000 in
set_option maxHeartbeats 1600000 in
theorem new_any (w : World) : Calls Try.prog 9 #[] w fun e w' => ∃ B f, e = .returned (.pointer (some ⟨B, 0, none⟩)) ∧ f.T = [] ∧ FlatG w' B f ∧ Below w.heap.size w w' ∧ ∀ x ∈ footB B f, w.heap.size ≤ x := by
  have hmm := @run_makeMap Try.prog
  go_enter Try.func9, Try.ntmps9
  go_wp2_with fail
  go_ret
  have hb1 : Below w.heap.size w (w.alloc (.map #[] 0)) := (Below.refl _ _).alloc (Nat.le_refl _) _
  have hb2 := hb1.alloc hb1.size (.map #[] 0)
  have hb3 := hb2.alloc hb2.size (.map #[] 0)
  have m0 : ∀ {k : TypeId} {κ α : Type} {kv : κ → Value} {ev : α → Value}, Mp Try.prog k kv ev (w.alloc (.map #[] 0)) w.heap.size ([] : List (κ × α)) := Mp.made w
  have m1 : ∀ {k : TypeId} {κ α : Type} {kv : κ → Value} {ev : α → Value}, Mp Try.prog k kv ev ((w.alloc (.map #[] 0)).alloc (.map #[] 0)) (w.heap.size + 1) ([] : List (κ × α)) := by
    intro k κ α kv ev
    have := Mp.made (P := Try.prog) (k := k) (kv := kv) (ev := ev) (w.alloc (.map #[] 0))
    rwa [World.size_alloc] at this
  have m2 : ∀ {k : TypeId} {κ α : Type} {kv : κ → Value} {ev : α → Value}, Mp Try.prog k kv ev (((w.alloc (.map #[] 0)).alloc (.map #[] 0)).alloc (.map #[] 0)) (w.heap.size + 2) ([] : List (κ × α)) := by
    intro k κ α kv ev
    have := Mp.made (P := Try.prog) (k := k) (kv := kv) (ev := ev) ((w.alloc (.map #[] 0)).alloc (.map #[] 0))
    simpa using this
  have u : ∀ (W : World) (o : Obj), Below W.heap.size W (W.alloc o) := fun W o => (Below.refl _ _).alloc (Nat.le_refl _) o
  refine ⟨_, ⟨w.heap.size, w.heap.size + 1, w.heap.size + 2, [], [], []⟩, rfl, rfl, ⟨⟨Blk.made' (by simp) _ _, ((m0.below (u _ _)).below (u _ _)).below (u _ _), ⟨(m1.below (u _ _)).below (u _ _), by simp, by simp⟩, ⟨m2.below (u _ _), by simp, by simp⟩, by simp [FlS.foot, nB], by simp [nB]⟩, Good.nil, by simp, by simp⟩, hb3.alloc hb3.size _, ?_⟩
  intro x hx
  simp only [footB, FlS.foot, nB, List.map_nil, List.mem_cons, List.mem_append, List.not_mem_nil, or_false] at hx
  omega

/-- The tuples' map is another. -/
theorem FlatAt.setT {w w' : World} {B : Nat} {f : FlS} (h : FlatAt w B f) {T' : List Tup} (hn : Mp Try.prog 32 tV bV w' f.bT (tl T')) (ht : Turned w w' f.bT) : FlatAt w' B { f with T := T' } where
  F := ht.kept.blk h.F (fun e => h.notBlk h.F (by simp [e]))
  T := hn
  M := h.M.same fun x hx => ht.kept.block x fun e => h.dT (List.mem_append_left _ (e ▸ hx))
  U := h.U.same fun x hx => ht.kept.block x fun e => h.dT (List.mem_append_right _ (e ▸ hx))
  dT := h.dT
  dU := h.dU

/-- What Add answers, and the tuples behind it. -/
def addN (T : List Tup) (t : Tup) : Int := if chkT t then (if t ∈ T then 3 else 0) else 2
def addL (T : List Tup) (t : Tup) : List Tup := if chkT t && decide (t ∉ T) then T ++ [t] else T

set_option maxRecDepth 100000 in
set_option maxHeartbeats 2000000 in
theorem add_any (w : World) (B : Nat) (f : FlS) (t : Tup) (h : FlatG w B f) (hok : t.Ok) (hl : f.T.length < 50000) :
    Calls Try.prog 10 #[.pointer (some ⟨B, 0, none⟩), tV t] w fun e w' => e = .returned (.int .i64 (addN f.T t)) ∧ ∃ f', FlatG w' B f' ∧ f'.T = addL f.T t ∧
      Kept (fun b => b < w.heap.size ∧ b ∉ footB B f) w w' ∧ ∀ x ∈ footB B f', x ∈ footB B f ∨ w.heap.size ≤ x := by
  have HG := Lib.hid h
  have HTK := Lib.hid (TK.of_ok hok)
  have HOK := Lib.hid hok
  have HL := Lib.hid hl
  clear h hok hl
  obtain ⟨w1, hw1⟩ : ∃ w1, w1 = w.alloc (.cells (tV t).cells 32) := ⟨_, rfl⟩
  have hCK := check_any t HOK.out w1
  obtain ⟨⟨ot, oi, or_⟩, ⟨st, si, sr⟩⟩ := t
  unfold tV at hCK hw1 ⊢
  dsimp only [Value.cells] at hCK hw1 ⊢
  have hb1 : Below w.heap.size w w1 := by rw [hw1]; exact (Below.refl _ _).alloc (Nat.le_refl _) _
  have hB1 : Blk w1 w.heap.size #[.string ot, .string oi, .string or_, .string st, .string si, .string sr] 32 := by rw [hw1]; exact Blk.made w _ _
  have HCK := Lib.hid hCK
  have cB := hB1.cells
  clear hCK
  go_enter Try.func10, Try.ntmps10
  try rw [← hw1]
  go_wp2_with fail
  try rw [← hw1]
  clear hw1
  refine HCK.out.mono ?_
  rintro e w2 ⟨rfl, hb2⟩
  have hb12 := hb1.trans (hb2.mono hb1.size)
  have hB2 := hB1.below hb2
  clear HCK cB hB1 hb1 hb2
  have HB12 := Lib.hid hb12
  rcases hck : chkT ⟨⟨ot, oi, or_⟩, ⟨st, si, sr⟩⟩ with _ | _
  · rw [show chkN ⟨⟨ot, oi, or_⟩, ⟨st, si, sr⟩⟩ = 2 from by simp [chkN, hck]]
    have HCK := Lib.hid hck
    clear hck
    go_wp2_with fail
    go_ret
    exact ⟨congrArg (fun n => Ending.returned (.int .i64 n)) (show (2 : Int) = addN f.T _ from by simp [addN, HCK.out]), f, HG.out.below HB12.out, by simp [addL, HCK.out], Below.kept HB12.out fun b hb => hb.1, fun x hx => .inl hx⟩
  rw [show chkN ⟨⟨ot, oi, or_⟩, ⟨st, si, sr⟩⟩ = 0 from by simp [chkN, hck]]
  have HCK := Lib.hid hck
  have HG2 := Lib.hid (HG.out.below HB12.out)
  clear hck hb12
  go_wp2_with fail
  have hzb := Try.zeroValue4
  have hkt := HTK.out.t
  unfold tV at hkt
  dsimp only at hkt
  obtain ⟨wd, hwd⟩ : ∃ wd, wd = w2.drew := ⟨_, rfl⟩
  have hGd := HG2.out.below (Below.refl _ _).drew
  have hBd := hB2.drew
  have hb3 := HB12.out.drew
  rw [← hwd] at hGd hBd hb3
  refine region_walkN (Ext wd) (by rw [← hwd]; exact Ext.refl _) (by kernel_rfl) (by kernel_rfl) (fun _ _ d _ _ h => by cases d <;> exact h) ?_
  rw [← hwd]
  clear hwd HG2 hB2 HB12 w2
  have h1 : ∀ W, Ext wd W → ∀ i, W.cell? ⟨B, i, none⟩ = (#[.map (some f.bT), .map (some f.bM), .map (some f.bU)] : Array Value)[i]? := fun W h => (hGd.below h).at_.F.cells
  have h2 : ∀ W, Ext wd W → ∀ i, W.cell? ⟨w.heap.size, i, none⟩ = (#[.string ot, .string oi, .string or_, .string st, .string si, .string sr] : Array Value)[i]? := fun W h => (hBd.below h).cells
  have h3 : ∀ W, Ext wd W → (Instr.lookup 56 (.map (some f.bT)) (.agg #[.string ot, .string oi, .string or_, .string st, .string si, .string sr]) false).run Try.prog W = .ok (.bool (decide ((⟨⟨ot, oi, or_⟩, ⟨st, si, sr⟩⟩ : Tup) ∈ f.T))) W := fun W h => by
    have := (hGd.below h).at_.T.look tupleK tV_inj Try.underlying56 (hzb W) false (a := ⟨⟨ot, oi, or_⟩, ⟨st, si, sr⟩⟩) hkt
    rw [look_tl] at this
    by_cases hin : (⟨⟨ot, oi, or_⟩, ⟨st, si, sr⟩⟩ : Tup) ∈ f.T
    · rw [decide_eq_true hin]; rw [if_pos hin] at this; exact this
    · rw [decide_eq_false hin]; rw [if_neg hin] at this; exact this
  by_cases hin : (⟨⟨ot, oi, or_⟩, ⟨st, si, sr⟩⟩ : Tup) ∈ f.T
  · rw [decide_eq_true hin] at h3
    ((refine WalkN.take 0 _ ?_ (by simp only [List.getElem?_toArray, List.getElem?_cons_zero]; rfl) (by kernel_rfl) (by kernel_rfl) (by rfl) (fun W hW => ?_) ?_; rotate_left; · (go_simp; try with_reducible rfl)); simp only [Act.put, List.setIfInBounds_toArray, List.set_cons_zero, List.set_cons_succ]); ((refine WalkN.take 1 _ ?_ (by simp only [List.getElem?_toArray, List.getElem?_cons_succ, List.getElem?_cons_zero]; rfl) (by kernel_rfl) (by kernel_rfl) (by rfl) (fun W hW => ?_) ?_; rotate_left; · (go_simp; try with_reducible rfl)); simp only [Act.put, List.setIfInBounds_toArray, List.set_cons_zero, List.set_cons_succ]); ((refine WalkN.take 2 _ ?_ (by simp only [List.getElem?_toArray, List.getElem?_cons_succ, List.getElem?_cons_zero]; rfl) (by kernel_rfl) (by kernel_rfl) (by rfl) (fun W hW => ?_) ?_; rotate_left; · (go_simp; try with_reducible rfl)); simp only [Act.put, List.setIfInBounds_toArray, List.set_cons_zero, List.set_cons_succ]); ((refine WalkN.take 3 _ ?_ (by simp only [List.getElem?_toArray, List.getElem?_cons_succ, List.getElem?_cons_zero]; rfl) (by kernel_rfl) (by kernel_rfl) (by rfl) (fun W hW => ?_) ?_; rotate_left; · (go_simp; try with_reducible rfl)); simp only [Act.put, List.setIfInBounds_toArray, List.set_cons_zero, List.set_cons_succ]); ((refine WalkN.take 4 _ ?_ (by simp only [List.getElem?_toArray, List.getElem?_cons_succ, List.getElem?_cons_zero]; rfl) (by kernel_rfl) (by kernel_rfl) (by rfl) (fun W hW => ?_) ?_; rotate_left; · (go_simp; try with_reducible rfl)); simp only [Act.put, List.setIfInBounds_toArray, List.set_cons_zero, List.set_cons_succ]); ((refine WalkN.take 5 _ ?_ (by simp only [List.getElem?_toArray, List.getElem?_cons_succ, List.getElem?_cons_zero]; rfl) (by kernel_rfl) (by kernel_rfl) (by rfl) (fun W hW => ?_) ?_; rotate_left; · (go_simp; try with_reducible rfl)); simp only [Act.put, List.setIfInBounds_toArray, List.set_cons_zero, List.set_cons_succ]); ((refine WalkN.take 6 _ ?_ (by simp only [List.getElem?_toArray, List.getElem?_cons_succ, List.getElem?_cons_zero]; rfl) (by kernel_rfl) (by kernel_rfl) (by rfl) (fun W hW => ?_) ?_; rotate_left; · (go_simp; try with_reducible rfl)); simp only [Act.put, List.setIfInBounds_toArray, List.set_cons_zero, List.set_cons_succ])
    refine WalkN.done (by kernel_rfl) ?_
    have HIN := Lib.hid hin
    have HB3 := Lib.hid hb3
    clear h1 h2 h3 hin hb3
    go_wp2_with fail
    go_ret
    exact ⟨congrArg (fun n => Ending.returned (.int .i64 n)) (show (3 : Int) = addN f.T _ from by simp [addN, HCK.out, HIN.out]), f, hGd, by simp [addL, HIN.out], Below.kept HB3.out fun b hb => hb.1, fun x hx => .inl hx⟩
  · rw [decide_eq_false hin] at h3
    ((refine WalkN.take 0 _ ?_ (by simp only [List.getElem?_toArray, List.getElem?_cons_zero]; rfl) (by kernel_rfl) (by kernel_rfl) (by rfl) (fun W hW => ?_) ?_; rotate_left; · (go_simp; try with_reducible rfl)); simp only [Act.put, List.setIfInBounds_toArray, List.set_cons_zero, List.set_cons_succ]); ((refine WalkN.take 1 _ ?_ (by simp only [List.getElem?_toArray, List.getElem?_cons_succ, List.getElem?_cons_zero]; rfl) (by kernel_rfl) (by kernel_rfl) (by rfl) (fun W hW => ?_) ?_; rotate_left; · (go_simp; try with_reducible rfl)); simp only [Act.put, List.setIfInBounds_toArray, List.set_cons_zero, List.set_cons_succ]); ((refine WalkN.take 2 _ ?_ (by simp only [List.getElem?_toArray, List.getElem?_cons_succ, List.getElem?_cons_zero]; rfl) (by kernel_rfl) (by kernel_rfl) (by rfl) (fun W hW => ?_) ?_; rotate_left; · (go_simp; try with_reducible rfl)); simp only [Act.put, List.setIfInBounds_toArray, List.set_cons_zero, List.set_cons_succ]); ((refine WalkN.take 3 _ ?_ (by simp only [List.getElem?_toArray, List.getElem?_cons_succ, List.getElem?_cons_zero]; rfl) (by kernel_rfl) (by kernel_rfl) (by rfl) (fun W hW => ?_) ?_; rotate_left; · (go_simp; try with_reducible rfl)); simp only [Act.put, List.setIfInBounds_toArray, List.set_cons_zero, List.set_cons_succ]); ((refine WalkN.take 4 _ ?_ (by simp only [List.getElem?_toArray, List.getElem?_cons_succ, List.getElem?_cons_zero]; rfl) (by kernel_rfl) (by kernel_rfl) (by rfl) (fun W hW => ?_) ?_; rotate_left; · (go_simp; try with_reducible rfl)); simp only [Act.put, List.setIfInBounds_toArray, List.set_cons_zero, List.set_cons_succ]); ((refine WalkN.take 5 _ ?_ (by simp only [List.getElem?_toArray, List.getElem?_cons_succ, List.getElem?_cons_zero]; rfl) (by kernel_rfl) (by kernel_rfl) (by rfl) (fun W hW => ?_) ?_; rotate_left; · (go_simp; try with_reducible rfl)); simp only [Act.put, List.setIfInBounds_toArray, List.set_cons_zero, List.set_cons_succ]); ((refine WalkN.take 6 _ ?_ (by simp only [List.getElem?_toArray, List.getElem?_cons_succ, List.getElem?_cons_zero]; rfl) (by kernel_rfl) (by kernel_rfl) (by rfl) (fun W hW => ?_) ?_; rotate_left; · (go_simp; try with_reducible rfl)); simp only [Act.put, List.setIfInBounds_toArray, List.set_cons_zero, List.set_cons_succ])
    refine WalkN.done (by kernel_rfl) ?_
    have HIN := Lib.hid hin
    have HB3 := Lib.hid hb3
    clear h1 h2 h3 hin hb3
    go_wp2_with fail
    obtain ⟨we, hwe⟩ : ∃ we, we = wd.drew := ⟨_, rfl⟩
    have hGe := hGd.below (Below.refl _ _).drew
    have hBe := hBd.drew
    have hb4 := HB3.out.drew
    rw [← hwe] at hGe hBe hb4
    refine region_walkN (fun W => Kept (fun x => x < we.heap.size ∧ x ≠ f.bT) we W) (by rw [← hwe]; exact Kept.refl _ _) (by kernel_rfl) (by kernel_rfl) (fun _ _ d _ _ h => by cases d <;> exact h) ?_
    rw [← hwe]
    clear hwe HB3 hGd hBd
    have hBne : w.heap.size ≠ f.bT := fun e => hGe.at_.notBlk hBe (by simp [e])
    have h1 : ∀ W, Kept (fun x => x < we.heap.size ∧ x ≠ f.bT) we W → ∀ i, W.cell? ⟨B, i, none⟩ = (#[.map (some f.bT), .map (some f.bM), .map (some f.bU)] : Array Value)[i]? := fun W h => (h.blk hGe.at_.F ⟨hGe.at_.F.lt, fun e => hGe.at_.notBlk hGe.at_.F (by simp [e])⟩).cells
    have h2 : ∀ W, Kept (fun x => x < we.heap.size ∧ x ≠ f.bT) we W → ∀ i, W.cell? ⟨w.heap.size, i, none⟩ = (#[.string ot, .string oi, .string or_, .string st, .string si, .string sr] : Array Value)[i]? := fun W h => (h.blk hBe ⟨hBe.lt, hBne⟩).cells
    ((refine WalkN.take 0 _ ?_ (by simp only [List.getElem?_toArray, List.getElem?_cons_zero]; rfl) (by kernel_rfl) (by kernel_rfl) (by rfl) (fun W hW => ?_) ?_; rotate_left; · (go_simp; try with_reducible rfl)); simp only [Act.put, List.setIfInBounds_toArray, List.set_cons_zero, List.set_cons_succ]); ((refine WalkN.take 1 _ ?_ (by simp only [List.getElem?_toArray, List.getElem?_cons_succ, List.getElem?_cons_zero]; rfl) (by kernel_rfl) (by kernel_rfl) (by rfl) (fun W hW => ?_) ?_; rotate_left; · (go_simp; try with_reducible rfl)); simp only [Act.put, List.setIfInBounds_toArray, List.set_cons_zero, List.set_cons_succ]); ((refine WalkN.take 2 _ ?_ (by simp only [List.getElem?_toArray, List.getElem?_cons_succ, List.getElem?_cons_zero]; rfl) (by kernel_rfl) (by kernel_rfl) (by rfl) (fun W hW => ?_) ?_; rotate_left; · (go_simp; try with_reducible rfl)); simp only [Act.put, List.setIfInBounds_toArray, List.set_cons_zero, List.set_cons_succ]); ((refine WalkN.take 3 _ ?_ (by simp only [List.getElem?_toArray, List.getElem?_cons_succ, List.getElem?_cons_zero]; rfl) (by kernel_rfl) (by kernel_rfl) (by rfl) (fun W hW => ?_) ?_; rotate_left; · (go_simp; try with_reducible rfl)); simp only [Act.put, List.setIfInBounds_toArray, List.set_cons_zero, List.set_cons_succ]); ((refine WalkN.take 4 _ ?_ (by simp only [List.getElem?_toArray, List.getElem?_cons_succ, List.getElem?_cons_zero]; rfl) (by kernel_rfl) (by kernel_rfl) (by rfl) (fun W hW => ?_) ?_; rotate_left; · (go_simp; try with_reducible rfl)); simp only [Act.put, List.setIfInBounds_toArray, List.set_cons_zero, List.set_cons_succ])
    clear h1 h2
    refine WalkN.one 5 (by kernel_rfl) ?_
    refine ⟨_, (by simp only [List.getElem?_toArray, List.getElem?_cons_succ, List.getElem?_cons_zero]; rfl), by rfl, fun K hK => ?_⟩
    refine wp_mp_store (kv := tV) (ev := bV) _ _ _ 56 rfl tupleK tV_inj Try.underlying56 rfl hGe.at_.T (y := ⟨⟨ot, oi, or_⟩, ⟨st, si, sr⟩⟩) rfl hkt (u := true) rfl ?_
    intro wg hm7 ht7
    refine hK.out _ _ (ht7.kept.mono fun b hb => hb.2) ?_
    clear hK
    simp only [Act.put]
    refine WalkN.done (by kernel_rfl) ?_
    rw [put_tl _ _ HIN.out] at hm7
    have hAg := hGe.at_.setT hm7 ht7
    have hBg := ht7.kept.blk hBe hBne
    have hkg : Kept (fun b => b < w.heap.size ∧ b ∉ footB B f) w wg := (Below.kept hb4 fun b hb => hb.1).trans (ht7.kept.mono fun b hb e => hb.2 (by simp [footB, e]))
    have hszg : w.heap.size ≤ wg.heap.size := hkg.size
    have HF := Lib.hid (follow_any wg B { f with T := f.T ++ [⟨⟨ot, oi, or_⟩, ⟨st, si, sr⟩⟩] } ⟨⟨ot, oi, or_⟩, ⟨st, si, sr⟩⟩ f.T hAg hGe.good HTK.out (by have := HL.out; omega))
    have cg := hBg.cells
    unfold tV at HF
    dsimp only at HF
    have HKG := Lib.hid hkg
    have HKY := Lib.hid hGe.keys
    clear hm7 ht7 hGe hBe hb4 hBne hAg hkg
    go_wp2_with fail
    refine HF.out.mono ?_
    rintro e w9 ⟨rfl, M', U', hA9, hG9, hk9, hf9⟩
    clear HF cg
    go_wp2_with fail
    go_ret
    refine ⟨congrArg (fun n => Ending.returned (.int .i64 n)) (show (0 : Int) = addN f.T _ from by simp [addN, HCK.out, HIN.out]), _, ⟨hA9, hG9, fun t ht => ?_, ?_⟩, by simp [addL, HCK.out, HIN.out], HKG.out.trans (hk9.mono fun b hb => ⟨by have := hb.1; omega, fun hx => hb.2 (by simp only [footB]; exact List.mem_cons_of_mem _ (List.mem_cons_of_mem _ hx))⟩), fun x hx => ?_⟩
    · rcases List.mem_append.1 ht with ht | ht
      · exact HKY.out t ht
      · obtain rfl : t = ⟨⟨ot, oi, or_⟩, ⟨st, si, sr⟩⟩ := by simpa using ht
        exact HTK.out
    · have := HL.out
      simp only [List.length_append, List.length_singleton]
      omega
    · simp only [footB, List.mem_cons] at hx ⊢
      rcases hx with hx | hx | hx
      · exact .inl (.inl hx)
      · exact .inl (.inr (.inl hx))
      · rcases hf9 x hx with k | k
        · exact .inl (.inr (.inr k))
        · exact .inr (Nat.le_trans hszg k)

end Go.Proofs.Ytcbgemnmehoeaaa
