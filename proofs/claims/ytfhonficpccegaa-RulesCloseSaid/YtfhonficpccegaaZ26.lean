/- Plain laws of nested groups: who is a member by tuples; a set that grows by one tuple. Tuples as values. The walks of a tuple's check, and of its parts. The walks of this, Find and Writes. No condition: lemmas. -/
import Derived.Lib.Hide
import Derived.Test.YtfhonficpccegaaZ4
import Derived.Test.YtfhonficpccegaaZ0
import Derived.Test.YtfhonficpccegaaZ1
import Derived.Test.YtfhonficpccegaaZ25
namespace Go.Proofs.Ytfhonficpccegaa

/-- A point, or a subject: type, id, relation. -/
structure P3 where
  t : ByteArray
  i : ByteArray
  r : ByteArray
deriving DecidableEq
/-- A tuple: its point, its subject. -/
structure Tup where
  o : P3
  s : P3
deriving DecidableEq
instance : Inhabited P3 := ⟨⟨ByteArray.empty, ByteArray.empty, ByteArray.empty⟩⟩
instance : Inhabited Tup := ⟨⟨default, default⟩⟩

/-- Has it a relation? -/
def P3.isSet (p : P3) : Prop := p.r.size ≠ 0
instance (p : P3) : Decidable p.isSet := by unfold P3.isSet; infer_instance

/-- P31.1: who is a member of what, by tuples. -/
inductive Der (T : Tup → Prop) : P3 → P3 → Prop
  | base {t : Tup} : T t → Der T t.o t.s
  | step {t : Tup} {x : P3} : T t → t.s.isSet → Der T t.s x → Der T t.o x

/-- p has q's members. -/
def Edge (T : Tup → Prop) (q p : P3) : Prop := ∃ t, T t ∧ t.s.isSet ∧ t.s = q ∧ t.o = p

def ClosedAt (U M : P3 → P3 → Prop) (s : P3) : Prop := ∀ q p, U q p → M q s → M p s

theorem der_closed (T : Tup → Prop) (s : P3) : ClosedAt (Edge T) (Der T) s := by
  rintro q p ⟨t, ht, hs, rfl, rfl⟩ h
  exact .step ht hs h
theorem der_least {T : Tup → Prop} {M : P3 → P3 → Prop} (hb : ∀ t, T t → M t.o t.s) (hc : ∀ s, ClosedAt (Edge T) M s) {p s : P3} (h : Der T p s) : M p s := by
  induction h with
  | base ht => exact hb _ ht
  | step ht hs _ ih => exact hc _ _ _ ⟨_, ht, hs, rfl, rfl⟩ ih
theorem der_mono {T T' : Tup → Prop} (h : ∀ t, T t → T' t) {p s : P3} (hd : Der T p s) : Der T' p s := by
  induction hd with
  | base ht => exact .base (h _ ht)
  | step ht hs _ ih => exact .step (h _ ht) hs ih

/-- What is come to along U. -/
inductive Reach (U : P3 → P3 → Prop) (p : P3) : P3 → Prop
  | refl : Reach U p p
  | tail {x r : P3} : Reach U p x → U x r → Reach U p r
theorem Reach.mono {U U' : P3 → P3 → Prop} (h : ∀ a b, U a b → U' a b) {p x : P3} (hr : Reach U p x) : Reach U' p x := by
  induction hr with
  | refl => exact .refl
  | tail _ hu ih => exact .tail ih (h _ _ hu)
theorem closed_reach {U M : P3 → P3 → Prop} {s : P3} (hc : ClosedAt U M s) {p x : P3} (hp : M p s) (hr : Reach U p x) : M x s := by
  induction hr with
  | refl => exact hp
  | tail _ hu ih => exact hc _ _ hu ih

/-- A member is put into a point, and into all that have its members. -/
def PutR (U M : P3 → P3 → Prop) (p s : P3) (x y : P3) : Prop := M x y ∨ (y = s ∧ Reach U p x)

/-- One tuple more. -/
def addT (T : Tup → Prop) (t : Tup) (u : Tup) : Prop := T u ∨ u = t
theorem edge_add (T : Tup → Prop) (t : Tup) (q p : P3) : Edge (addT T t) q p ↔ Edge T q p ∨ (t.s.isSet ∧ t.s = q ∧ t.o = p) := by
  constructor
  · rintro ⟨u, h | rfl, h1, h2, h3⟩
    · exact .inl ⟨u, h, h1, h2, h3⟩
    · exact .inr ⟨h1, h2, h3⟩
  · rintro (⟨u, h, h1⟩ | h)
    · exact ⟨u, .inl h, h1⟩
    · exact ⟨t, .inr rfl, h⟩

/-- What follows of one tuple more, whose subject has no relation. -/
theorem follow_plain (T : Tup → Prop) (t : Tup) (h : ¬ t.s.isSet) (x y : P3) : PutR (Edge T) (Der T) t.o t.s x y ↔ Der (addT T t) x y := by
  have hU : ∀ q p, Edge (addT T t) q p → Edge T q p := fun q p he => by
    rcases (edge_add T t q p).1 he with he | ⟨h1, _⟩
    · exact he
    · exact absurd h1 h
  constructor
  · rintro (hd | ⟨rfl, hr⟩)
    · exact der_mono (fun _ h => .inl h) hd
    · exact closed_reach (der_closed _ _) (.base (.inr rfl)) (hr.mono fun a b hab => (edge_add T t a b).2 (.inl hab))
  · refine der_least (M := PutR (Edge T) (Der T) t.o t.s) (fun u hu => ?_) (fun s q p he hm => ?_)
    · rcases hu with hu | rfl
      · exact .inl (.base hu)
      · exact .inr ⟨rfl, .refl⟩
    · have he := hU q p he
      rcases hm with hm | ⟨rfl, hr⟩
      · exact .inl (der_closed T _ _ _ he hm)
      · exact .inr ⟨rfl, .tail hr he⟩

/-- What follows of one tuple more, whose subject has a relation. -/
theorem follow_set (T : Tup → Prop) (t : Tup) (h : t.s.isSet) (x y : P3) :
    (PutR (Edge T) (Der T) t.o t.s x y ∨ (PutR (Edge T) (Der T) t.o t.s t.s y ∧ Reach (Edge (addT T t)) t.o x)) ↔ Der (addT T t) x y := by
  have hsub : ∀ a b, Edge T a b → Edge (addT T t) a b := fun a b hab => (edge_add T t a b).2 (.inl hab)
  have hput : ∀ a b, PutR (Edge T) (Der T) t.o t.s a b → Der (addT T t) a b := by
    rintro a b (hd | ⟨rfl, hr⟩)
    · exact der_mono (fun _ h => .inl h) hd
    · exact closed_reach (der_closed _ _) (.base (.inr rfl)) (hr.mono hsub)
  constructor
  · rintro (hd | ⟨hd, hr⟩)
    · exact hput _ _ hd
    · exact closed_reach (der_closed _ _) (.step (.inr rfl) h (hput _ _ hd)) hr
  · refine der_least (M := fun x y => PutR (Edge T) (Der T) t.o t.s x y ∨ (PutR (Edge T) (Der T) t.o t.s t.s y ∧ Reach (Edge (addT T t)) t.o x)) (fun u hu => ?_) (fun s q p he hm => ?_)
    · rcases hu with hu | rfl
      · exact .inl (.inl (.base hu))
      · exact .inl (.inr ⟨rfl, .refl⟩)
    · rcases hm with hm | ⟨hm, hr⟩
      · rcases (edge_add T t q p).1 he with he' | ⟨_, rfl, rfl⟩
        · rcases hm with hm | ⟨rfl, hr⟩
          · exact .inl (.inl (der_closed T _ _ _ he' hm))
          · exact .inl (.inr ⟨rfl, .tail hr he'⟩)
        · exact .inr ⟨hm, .refl⟩
      · exact .inr ⟨hm, .tail hr he⟩

/-- The document's way: the points that a point leads to, and what tuples say of them. -/
inductive Fwd (T : Tup → Prop) (p : P3) : P3 → Prop
  | refl : Fwd T p p
  | tail {t : Tup} : Fwd T p t.o → T t → t.s.isSet → Fwd T p t.s
theorem der_fwd (T : Tup → Prop) (p s : P3) : Der T p s ↔ ∃ t, T t ∧ Fwd T p t.o ∧ t.s = s := by
  constructor
  · intro h
    induction h with
    | @base t ht => exact ⟨t, ht, .refl, rfl⟩
    | @step t x ht hs _ ih =>
      obtain ⟨u, hu, hf, rfl⟩ := ih
      refine ⟨u, hu, ?_, rfl⟩
      generalize u.o = q at hf
      clear hu
      induction hf with
      | refl => exact .tail .refl ht hs
      | tail _ h1 h2 ih => exact .tail ih h1 h2
  · rintro ⟨t, ht, hf, rfl⟩
    have : ∀ q, Fwd T p q → ∀ x, Der T q x → Der T p x := by
      intro q hq
      induction hq with
      | refl => exact fun _ h => h
      | tail _ h1 h2 ih => exact fun x hx => ih _ (.step h1 h2 hx)
    exact this _ hf _ (.base ht)

end Go.Proofs.Ytfhonficpccegaa
namespace Go.Proofs.Ytfhonficpccegaa
open Go Go.RowKit

/-- A tuple as a value. -/
def tV (t : Tup) : Value := .agg #[.string t.o.t, .string t.o.i, .string t.o.r, .string t.s.t, .string t.s.i, .string t.s.r]
theorem tV_inj (a b : Tup) (h : tV a = tV b) : a = b := by
  obtain ⟨⟨a1, a2, a3⟩, ⟨a4, a5, a6⟩⟩ := a
  obtain ⟨⟨b1, b2, b3⟩, ⟨b4, b5, b6⟩⟩ := b
  simp only [tV, Value.agg.injEq, Array.mk.injEq, List.cons.injEq, Value.string.injEq, and_true] at h
  simp [h]
/-- Texts that a machine can hold. -/
def P3.Ok (p : P3) : Prop := p.t.size ≤ maxLen ∧ p.i.size ≤ maxLen ∧ p.r.size ≤ maxLen
def Tup.Ok (t : Tup) : Prop := t.o.Ok ∧ t.s.Ok

end Go.Proofs.Ytfhonficpccegaa
namespace Go.Proofs.Ytfhonficpccegaa
open Go Go.RowKit

/-- May a tuple be? -/
def chkT (t : Tup) : Bool := isNm t.o.t && isNm t.o.i && isNm t.o.r && isNm t.s.t && isNm t.s.i && (isNm t.s.r || decide (t.s.r.size = 0))
/-- What Check answers. -/
def chkN (t : Tup) : Int := if chkT t then 0 else 2
set_option maxRecDepth 100000 in
set_option maxHeartbeats 1600000 in
theorem of_any (t : Tup) (w : World) : Calls Try.prog 75 #[tV t] w fun e w' => e = .returned (tV t) ∧ Below w.heap.size w w' := by
  obtain ⟨⟨ot, oi, or_⟩, ⟨st, si, sr⟩⟩ := t
  have hb := (Blk.made w #[.string ot, .string oi, .string or_, .string st, .string si, .string sr] 37)
  have h1 : Below w.heap.size w (w.alloc (.cells #[.string ot, .string oi, .string or_, .string st, .string si, .string sr] 37)) := (Below.refl _ _).alloc (Nat.le_refl _) _
  unfold tV
  dsimp only
  go_enter Try.func75, Try.ntmps75
  go_wp2_with fail
  refine bodyPost_ret (results_cell_row rfl _ _ (w.heap.size + 1) 125 #[.string ot, .string oi, .string or_, .string st, .string si, .string sr] (0, 0) _ rfl ?_ Try.underlying125 rfl (by kernel_rfl)) rfl ⟨rfl, h1.alloc h1.size _⟩
  have := heap_alloc_new (w.alloc (.cells #[.string ot, .string oi, .string or_, .string st, .string si, .string sr] 37)) (.cells #[.string ot, .string oi, .string or_, .string st, .string si, .string sr] 125)
  rwa [World.size_alloc] at this
/-- The parts of a tuple, by number. -/
theorem parts_at (a b c d e f : ByteArray) (W : World) :
    (Instr.index 125 (.agg #[.string a, .string b, .string c, .string d, .string e, .string f]) (.int .i64 0)).run Try.prog W = .ok (.string a) W ∧
    (Instr.index 125 (.agg #[.string a, .string b, .string c, .string d, .string e, .string f]) (.int .i64 1)).run Try.prog W = .ok (.string b) W ∧
    (Instr.index 125 (.agg #[.string a, .string b, .string c, .string d, .string e, .string f]) (.int .i64 2)).run Try.prog W = .ok (.string c) W ∧
    (Instr.index 125 (.agg #[.string a, .string b, .string c, .string d, .string e, .string f]) (.int .i64 3)).run Try.prog W = .ok (.string d) W ∧
    (Instr.index 125 (.agg #[.string a, .string b, .string c, .string d, .string e, .string f]) (.int .i64 4)).run Try.prog W = .ok (.string e) W ∧
    (Instr.index 125 (.agg #[.string a, .string b, .string c, .string d, .string e, .string f]) (.int .i64 5)).run Try.prog W = .ok (.string f) W :=
  ⟨by kernel_rfl, by kernel_rfl, by kernel_rfl, by kernel_rfl, by kernel_rfl, by kernel_rfl⟩
set_option maxRecDepth 100000 in
set_option maxHeartbeats 3200000 in
theorem check_any (t : Tup) (ht : t.Ok) (w : World) : Calls Try.prog 41 #[tV t] w fun e w' => e = .returned (.int .i64 (chkN t)) ∧ Below w.heap.size w w' := by
  obtain ⟨⟨ot, oi, or_⟩, ⟨st, si, sr⟩⟩ := t
  have HOK := Lib.hid ht
  clear ht
  have hb1 := (Blk.made w #[.string ot, .string oi, .string or_, .string st, .string si, .string sr] 37).cells
  have HE := Lib.hid (show Below w.heap.size w (w.alloc (.cells #[.string ot, .string oi, .string or_, .string st, .string si, .string sr] 37)) from (Below.refl _ _).alloc (Nat.le_refl _) _)
  have HOF := Lib.hid (of_any ⟨⟨ot, oi, or_⟩, ⟨st, si, sr⟩⟩ (w.alloc (.cells #[.string ot, .string oi, .string or_, .string st, .string si, .string sr] 37)))
  unfold tV at HOF ⊢
  dsimp only at HOF ⊢
  unfold Tup.Ok P3.Ok at HOK
  dsimp only at HOK
  go_enter Try.func41, Try.ntmps41
  go_wp2_with fail
  refine HOF.out.mono ?_
  rintro e w2 ⟨rfl, hb2⟩
  have HBW := Lib.hid (HE.out.trans (hb2.mono HE.out.size))
  clear HE HOF hb2 hb1
  obtain ⟨p0, p1, p2, p3, p4, p5⟩ := parts_at ot oi or_ st si sr w2
  go_wp2_with fail
  refine wp_loop_rounds 7 ?_
  rw [rounds_succ]
  go_wp2_with fail
  refine (isName_any ot HOK.out.1.1 _).mono ?_
  rintro e w' ⟨rfl, rfl⟩
  rcases hb0 : isNm ot with _ | _
  · have HB := Lib.hid hb0
    clear hb0
    go_wp2_with fail
    go_ret
    exact ⟨congrArg (fun n => Ending.returned (.int .i64 n)) (show (2 : Int) = chkN ⟨⟨ot, oi, or_⟩, ⟨st, si, sr⟩⟩ from by simp [chkN, chkT, HB.out]), HBW.out⟩
  have HB0 := Lib.hid hb0
  clear hb0
  go_wp2_with fail
  rw [rounds_succ]
  go_wp2_with fail
  refine (isName_any oi HOK.out.1.2.1 _).mono ?_
  rintro e w' ⟨rfl, rfl⟩
  rcases hb1 : isNm oi with _ | _
  · have HB := Lib.hid hb1
    clear hb1
    go_wp2_with fail
    go_ret
    exact ⟨congrArg (fun n => Ending.returned (.int .i64 n)) (show (2 : Int) = chkN ⟨⟨ot, oi, or_⟩, ⟨st, si, sr⟩⟩ from by simp [chkN, chkT, HB.out]), HBW.out⟩
  have HB1 := Lib.hid hb1
  clear hb1
  go_wp2_with fail
  rw [rounds_succ]
  go_wp2_with fail
  refine (isName_any or_ HOK.out.1.2.2 _).mono ?_
  rintro e w' ⟨rfl, rfl⟩
  rcases hb2 : isNm or_ with _ | _
  · have HB := Lib.hid hb2
    clear hb2
    go_wp2_with fail
    go_ret
    exact ⟨congrArg (fun n => Ending.returned (.int .i64 n)) (show (2 : Int) = chkN ⟨⟨ot, oi, or_⟩, ⟨st, si, sr⟩⟩ from by simp [chkN, chkT, HB.out]), HBW.out⟩
  have HB2 := Lib.hid hb2
  clear hb2
  go_wp2_with fail
  rw [rounds_succ]
  go_wp2_with fail
  refine (isName_any st HOK.out.2.1 _).mono ?_
  rintro e w' ⟨rfl, rfl⟩
  rcases hb3 : isNm st with _ | _
  · have HB := Lib.hid hb3
    clear hb3
    go_wp2_with fail
    go_ret
    exact ⟨congrArg (fun n => Ending.returned (.int .i64 n)) (show (2 : Int) = chkN ⟨⟨ot, oi, or_⟩, ⟨st, si, sr⟩⟩ from by simp [chkN, chkT, HB.out]), HBW.out⟩
  have HB3 := Lib.hid hb3
  clear hb3
  go_wp2_with fail
  rw [rounds_succ]
  go_wp2_with fail
  refine (isName_any si HOK.out.2.2.1 _).mono ?_
  rintro e w' ⟨rfl, rfl⟩
  rcases hb4 : isNm si with _ | _
  · have HB := Lib.hid hb4
    clear hb4
    go_wp2_with fail
    go_ret
    exact ⟨congrArg (fun n => Ending.returned (.int .i64 n)) (show (2 : Int) = chkN ⟨⟨ot, oi, or_⟩, ⟨st, si, sr⟩⟩ from by simp [chkN, chkT, HB.out]), HBW.out⟩
  have HB4 := Lib.hid hb4
  clear hb4
  go_wp2_with fail
  rw [rounds_succ]
  go_wp2_with fail
  refine (isName_any sr HOK.out.2.2.2 _).mono ?_
  rintro e w' ⟨rfl, rfl⟩
  rcases hb5 : isNm sr with _ | _
  · have HB5 := Lib.hid hb5
    clear hb5
    by_cases h0 : sr.size = 0
    · obtain rfl := ba_size_eq h0
      clear h0
      go_wp2_with fail
      rw [rounds_succ]
      go_wp2_with fail
      go_ret
      exact ⟨congrArg (fun n => Ending.returned (.int .i64 n)) (show (0 : Int) = chkN ⟨⟨ot, oi, or_⟩, ⟨st, si, ⟨#[]⟩⟩⟩ from by simp [chkN, chkT, HB0.out, HB1.out, HB2.out, HB3.out, HB4.out, show (ByteArray.mk #[]).size = 0 from rfl]), HBW.out⟩
    · have hne := ba_size_ne h0
      have H0 := Lib.hid h0
      clear h0
      go_wp2_with fail
      go_ret
      exact ⟨congrArg (fun n => Ending.returned (.int .i64 n)) (show (2 : Int) = chkN ⟨⟨ot, oi, or_⟩, ⟨st, si, sr⟩⟩ from by simp [chkN, chkT, HB5.out, H0.out]), HBW.out⟩
  · have HB5 := Lib.hid hb5
    clear hb5
    go_wp2_with fail
    rw [rounds_succ]
    go_wp2_with fail
    go_ret
    exact ⟨congrArg (fun n => Ending.returned (.int .i64 n)) (show (0 : Int) = chkN ⟨⟨ot, oi, or_⟩, ⟨st, si, sr⟩⟩ from by simp [chkN, chkT, HB0.out, HB1.out, HB2.out, HB3.out, HB4.out, HB5.out]), HBW.out⟩
set_option maxRecDepth 100000 in
set_option maxHeartbeats 1600000 in
theorem parts_any (t : Tup) (w : World) : Calls Try.prog 15 #[tV t] w fun e w' => e = .returned (.slice (some ⟨w.heap.size + 1, 0, none⟩) 6 6) ∧
    Blk w' (w.heap.size + 1) #[.string t.o.t, .string t.o.i, .string t.o.r, .string t.s.t, .string t.s.i, .string t.s.r] 9 ∧ Below w.heap.size w w' := by
  obtain ⟨⟨ot, oi, or_⟩, ⟨st, si, sr⟩⟩ := t
  have hb := (Blk.made w #[.string ot, .string oi, .string or_, .string st, .string si, .string sr] 37)
  have h1 : Below w.heap.size w (w.alloc (.cells #[.string ot, .string oi, .string or_, .string st, .string si, .string sr] 37)) := (Below.refl _ _).alloc (Nat.le_refl _) _
  unfold tV
  dsimp only
  go_enter Try.func15, Try.ntmps15
  go_wp2_with fail
  go_ret
  refine ⟨rfl, ?_, h1.alloc h1.size _⟩
  have := heap_alloc_new (w.alloc (.cells #[.string ot, .string oi, .string or_, .string st, .string si, .string sr] 37)) (.cells #[.string ot, .string oi, .string or_, .string st, .string si, .string sr] 9)
  rwa [World.size_alloc] at this
set_option maxRecDepth 100000 in
set_option maxHeartbeats 3200000 in
theorem refCheck_any (t : Tup) (ht : t.Ok) (w : World) : Calls Try.prog 43 #[tV t] w fun e w' => e = .returned (.int .i64 (chkN t)) ∧ Below w.heap.size w w' := by
  obtain ⟨⟨ot, oi, or_⟩, ⟨st, si, sr⟩⟩ := t
  have HOK := Lib.hid ht
  clear ht
  have hb1 := (Blk.made w #[.string ot, .string oi, .string or_, .string st, .string si, .string sr] 37).cells
  have HE := Lib.hid (show Below w.heap.size w (w.alloc (.cells #[.string ot, .string oi, .string or_, .string st, .string si, .string sr] 37)) from (Below.refl _ _).alloc (Nat.le_refl _) _)
  have HOF := Lib.hid (parts_any ⟨⟨ot, oi, or_⟩, ⟨st, si, sr⟩⟩ (w.alloc (.cells #[.string ot, .string oi, .string or_, .string st, .string si, .string sr] 37)))
  unfold tV at HOF ⊢
  dsimp only at HOF ⊢
  unfold Tup.Ok P3.Ok at HOK
  dsimp only at HOK
  go_enter Try.func43, Try.ntmps43
  go_wp2_with fail
  refine HOF.out.mono ?_
  rintro e w2 ⟨rfl, hP, hb2⟩
  have HBW := Lib.hid (HE.out.trans (hb2.mono HE.out.size))
  clear HE HOF hb2 hb1
  have cP := hP.cells
  simp only [World.size_alloc] at cP ⊢
  go_wp2_with fail
  refine wp_loop_rounds 7 ?_
  rw [rounds_succ]
  go_wp2_with fail
  refine (refName_any ot HOK.out.1.1 _).mono ?_
  rintro e w' ⟨rfl, rfl⟩
  rcases hb0 : isNm ot with _ | _
  · have HB := Lib.hid hb0
    clear hb0
    go_wp2_with fail
    go_ret
    exact ⟨congrArg (fun n => Ending.returned (.int .i64 n)) (show (2 : Int) = chkN ⟨⟨ot, oi, or_⟩, ⟨st, si, sr⟩⟩ from by simp [chkN, chkT, HB.out]), HBW.out⟩
  have HB0 := Lib.hid hb0
  clear hb0
  go_wp2_with fail
  rw [rounds_succ]
  go_wp2_with fail
  refine (refName_any oi HOK.out.1.2.1 _).mono ?_
  rintro e w' ⟨rfl, rfl⟩
  rcases hb1 : isNm oi with _ | _
  · have HB := Lib.hid hb1
    clear hb1
    go_wp2_with fail
    go_ret
    exact ⟨congrArg (fun n => Ending.returned (.int .i64 n)) (show (2 : Int) = chkN ⟨⟨ot, oi, or_⟩, ⟨st, si, sr⟩⟩ from by simp [chkN, chkT, HB.out]), HBW.out⟩
  have HB1 := Lib.hid hb1
  clear hb1
  go_wp2_with fail
  rw [rounds_succ]
  go_wp2_with fail
  refine (refName_any or_ HOK.out.1.2.2 _).mono ?_
  rintro e w' ⟨rfl, rfl⟩
  rcases hb2 : isNm or_ with _ | _
  · have HB := Lib.hid hb2
    clear hb2
    go_wp2_with fail
    go_ret
    exact ⟨congrArg (fun n => Ending.returned (.int .i64 n)) (show (2 : Int) = chkN ⟨⟨ot, oi, or_⟩, ⟨st, si, sr⟩⟩ from by simp [chkN, chkT, HB.out]), HBW.out⟩
  have HB2 := Lib.hid hb2
  clear hb2
  go_wp2_with fail
  rw [rounds_succ]
  go_wp2_with fail
  refine (refName_any st HOK.out.2.1 _).mono ?_
  rintro e w' ⟨rfl, rfl⟩
  rcases hb3 : isNm st with _ | _
  · have HB := Lib.hid hb3
    clear hb3
    go_wp2_with fail
    go_ret
    exact ⟨congrArg (fun n => Ending.returned (.int .i64 n)) (show (2 : Int) = chkN ⟨⟨ot, oi, or_⟩, ⟨st, si, sr⟩⟩ from by simp [chkN, chkT, HB.out]), HBW.out⟩
  have HB3 := Lib.hid hb3
  clear hb3
  go_wp2_with fail
  rw [rounds_succ]
  go_wp2_with fail
  refine (refName_any si HOK.out.2.2.1 _).mono ?_
  rintro e w' ⟨rfl, rfl⟩
  rcases hb4 : isNm si with _ | _
  · have HB := Lib.hid hb4
    clear hb4
    go_wp2_with fail
    go_ret
    exact ⟨congrArg (fun n => Ending.returned (.int .i64 n)) (show (2 : Int) = chkN ⟨⟨ot, oi, or_⟩, ⟨st, si, sr⟩⟩ from by simp [chkN, chkT, HB.out]), HBW.out⟩
  have HB4 := Lib.hid hb4
  clear hb4
  go_wp2_with fail
  rw [rounds_succ]
  go_wp2_with fail
  refine (refName_any sr HOK.out.2.2.2 _).mono ?_
  rintro e w' ⟨rfl, rfl⟩
  rcases hb5 : isNm sr with _ | _
  · have HB5 := Lib.hid hb5
    clear hb5
    by_cases h0 : sr.size = 0
    · obtain rfl := ba_size_eq h0
      clear h0
      go_wp2_with fail
      rw [rounds_succ]
      go_wp2_with fail
      go_ret
      exact ⟨congrArg (fun n => Ending.returned (.int .i64 n)) (show (0 : Int) = chkN ⟨⟨ot, oi, or_⟩, ⟨st, si, ⟨#[]⟩⟩⟩ from by simp [chkN, chkT, HB0.out, HB1.out, HB2.out, HB3.out, HB4.out, show (ByteArray.mk #[]).size = 0 from rfl]), HBW.out⟩
    · have hne := ba_size_ne h0
      have H0 := Lib.hid h0
      clear h0
      go_wp2_with fail
      go_ret
      exact ⟨congrArg (fun n => Ending.returned (.int .i64 n)) (show (2 : Int) = chkN ⟨⟨ot, oi, or_⟩, ⟨st, si, sr⟩⟩ from by simp [chkN, chkT, HB5.out, H0.out]), HBW.out⟩
  · have HB5 := Lib.hid hb5
    clear hb5
    go_wp2_with fail
    rw [rounds_succ]
    go_wp2_with fail
    go_ret
    exact ⟨congrArg (fun n => Ending.returned (.int .i64 n)) (show (0 : Int) = chkN ⟨⟨ot, oi, or_⟩, ⟨st, si, sr⟩⟩ from by simp [chkN, chkT, HB0.out, HB1.out, HB2.out, HB3.out, HB4.out, HB5.out]), HBW.out⟩

end Go.Proofs.Ytfhonficpccegaa
namespace Go.Proofs.Ytfhonficpccegaa
open Go Go.RowKit Go.Maps Go.Shelf

set_option maxRecDepth 100000 in
set_option maxHeartbeats 2000000 in
theorem thisP_any (r : RT) : ∀ (pv : Value) (w : World), RTAt (· < w.heap.size) w r pv → Calls Try.prog 42 #[rV r pv] w fun e w' => e = .returned (.bool r.this) ∧ Below w.heap.size w w' := by
  induction r using RT.ind with
  | h r ih =>
  intro pv w hat
  have HE := Lib.hid r.this_eq
  obtain ⟨k, ra, rb, ps⟩ := r
  obtain ⟨ao, c, rfl, -⟩ := hat.rows
  dsimp only [RT.k, RT.ps] at HE ih
  have IH := Lib.hid ih
  have hb0 : Ext w (w.alloc (.cells #[.int .i64 k, .string ra, .string rb, .slice ao ps.length c] 46)) := Ext.alloc _ _
  have HB0 := Lib.hid hb0
  have hbk := (Blk.made w #[.int .i64 k, .string ra, .string rb, .slice ao ps.length c] 46).cells
  have HCF := Lib.hid (containsRF_any _ ps k ra rb _ 42 #[] (enters_of Try.func42 (by kernel_rfl) rfl) RT.this (hat.up hb0) (fun i hi W pvi hW hati => ih ps[i] (List.getElem_mem hi) pvi W hati))
  unfold rV
  dsimp only [RT.k, RT.a, RT.b, RT.ps]
  clear ih hat hb0
  by_cases h1 : k = 1
  · subst h1
    go_enter Try.func42, Try.ntmps42
    go_wp2_with fail
    go_ret
    exact ⟨by rw [HE.out]; simp, HB0.out⟩
  have q1 : (k == 1) = false := by rw [beq_eq_false_iff_ne]; exact h1
  have HK := Lib.hid q1
  clear h1
  go_enter Try.func42, Try.ntmps42
  go_wp2_with fail
  refine HCF.out.mono ?_
  rintro e w2 ⟨rfl, hb2⟩
  have HBE := Lib.hid (Ext.trans HB0.out hb2)
  clear HCF hb2 hbk
  go_wp2_with fail
  go_ret
  exact ⟨by rw [HE.out, HK.out]; simp, HBE.out⟩

set_option maxRecDepth 100000 in
set_option maxHeartbeats 4000000 in
theorem findP_any (ts : List TyS) (tv : Value) (ty rel : ByteArray) (w : World) (h : TysAt (· < w.heap.size) w ts tv) (hok : ∀ t ∈ ts, t.Ok) (hu : uniqOk ts = true) (hsz : (refsOf ts).length ≤ 1099511627776) (hty : ty.size ≤ maxLen) (hrel : rel.size ≤ maxLen) :
    Calls Try.prog 18 #[.agg #[tv], .string ty, .string rel] w fun e w' => ∃ z : RV, e = .returned (.tuple #[rvV z, .bool (lookA (refsOf ts) ⟨ty, rel⟩).isSome]) ∧ RTAt (· < w'.heap.size) w' z.1 z.2 ∧ (∀ r, lookA (refsOf ts) ⟨ty, rel⟩ = some r → z.1 = r) ∧ (lookA (refsOf ts) ⟨ty, rel⟩ = none → z = (.mk 0 ByteArray.empty ByteArray.empty [], .slice none 0 0)) ∧ Below w.heap.size w w' := by
  have hx1 : Ext w ((w.alloc (.cells #[tv] 24)).alloc (.cells #[.int .i64 0, .string ByteArray.empty, .string ByteArray.empty, .slice none 0 0] 46)) := (Ext.alloc _ _).trans (Ext.alloc _ _)
  have HX := Lib.hid hx1
  have HO := Lib.hid (open_any (S := (· < w.heap.size)) ts tv _ (fun x hx => Nat.lt_of_lt_of_le hx hx1.size) (h.same (Same.below hx1)) hok hu hsz)
  have hS := ((Blk.made w #[tv] 24).alloc (.cells #[.int .i64 0, .string ByteArray.empty, .string ByteArray.empty, .slice none 0 0] 46)).cells
  have HR := Lib.hid (Blk.made' (w := w.alloc (.cells #[tv] 24)) (B := w.heap.size + 1) (by simp) #[.int .i64 0, .string ByteArray.empty, .string ByteArray.empty, .slice none 0 0] 46)
  have hR := HR.out.cells
  clear h hok hu hsz hx1
  go_enter Try.func18, Try.ntmps18
  go_wp2_with fail
  refine HO.out.mono ?_
  rintro e w2 ⟨b1, b2, b3, rfl, hbk, hb2⟩
  obtain ⟨z, hlk, hzat, hz1, hz2⟩ := hbk.R.look ⟨ty, rel⟩ ⟨hty, hrel⟩
  obtain ⟨zo, zc, hzv, -⟩ := hzat.rows
  have HZ := Lib.hid (And.intro hz1 hz2)
  have HZA := Lib.hid hzat
  have HZV := Lib.hid hzv
  have HB2 := Lib.hid (Ext.trans HX.out hb2)
  have HR2 := Lib.hid (HR.out.below hb2)
  have HRZ := Lib.hid (show w.heap.size + 1 < w2.heap.size from HR2.out.lt)
  generalize hokk : (lookA (refsOf ts) ⟨ty, rel⟩).isSome = ok at *
  have HOKK := Lib.hid hokk
  clear hokk
  unfold rvV rV r2V at hlk
  dsimp only at hlk
  rw [hzv] at hlk
  have h3 : Ext w2 (w2.alloc (.cells #[.int .i64 z.1.k, .string z.1.a, .string z.1.b, .slice zo z.1.ps.length zc] 46)) := Ext.alloc _ _
  have HR3 := Lib.hid (HR2.out.below h3)
  have HX3 := Lib.hid h3
  have r3 := HR3.out.cells
  have f3 := HR3.out.free
  have hfd : ∀ W : World, (Instr.field 74 (.agg #[.map (some b1), .map (some b2), .map (some b3)]) 0).run Try.prog W = .ok (.map (some b1)) W := fun _ => by kernel_rfl
  obtain ⟨w3, hw3⟩ : ∃ x, x = w2.alloc (.cells #[.int .i64 z.1.k, .string z.1.a, .string z.1.b, .slice zo z.1.ps.length zc] 46) := ⟨_, rfl⟩
  have hne : w.heap.size + 1 ≠ w2.heap.size := by have := HRZ.out; omega
  have hs1 := HR3.out.set_to 0 (.int .i64 z.1.k) rfl
  have hs2 := hs1.set_to 1 (.string z.1.a) rfl
  have hs3 := hs2.set_to 2 (.string z.1.b) rfl
  have hs4 := hs3.set_to 3 (.slice zo z.1.ps.length zc) rfl
  have HS4 := Lib.hid hs4
  have hb4 : ∀ x, x ≠ w.heap.size + 1 → (((((w2.alloc (.cells #[.int .i64 z.1.k, .string z.1.a, .string z.1.b, .slice zo z.1.ps.length zc] 46)).setCell ⟨w.heap.size + 1, 0, none⟩ (.int .i64 z.1.k)).setCell ⟨w.heap.size + 1, 1, none⟩ (.string z.1.a)).setCell ⟨w.heap.size + 1, 2, none⟩ (.string z.1.b)).setCell ⟨w.heap.size + 1, 3, none⟩ (.slice zo z.1.ps.length zc)).heap[x]? = (w2.alloc (.cells #[.int .i64 z.1.k, .string z.1.a, .string z.1.b, .slice zo z.1.ps.length zc] 46)).heap[x]? := fun x hx => by
    rw [Below.heap_setCell _ _ _ x hx, Below.heap_setCell _ _ _ x hx, Below.heap_setCell _ _ _ x hx, Below.heap_setCell _ _ _ x hx]
  have HB4 := Lib.hid hb4
  have HBE := Lib.hid (show Below w.heap.size w (((((w2.alloc (.cells #[.int .i64 z.1.k, .string z.1.a, .string z.1.b, .slice zo z.1.ps.length zc] 46)).setCell ⟨w.heap.size + 1, 0, none⟩ (.int .i64 z.1.k)).setCell ⟨w.heap.size + 1, 1, none⟩ (.string z.1.a)).setCell ⟨w.heap.size + 1, 2, none⟩ (.string z.1.b)).setCell ⟨w.heap.size + 1, 3, none⟩ (.slice zo z.1.ps.length zc)) from ((((Ext.trans HB2.out HX3.out : Ext w _).setCell (by show w.heap.size ≤ w.heap.size + 1; omega) _).setCell (by show w.heap.size ≤ w.heap.size + 1; omega) _).setCell (by show w.heap.size ≤ w.heap.size + 1; omega) _).setCell (by show w.heap.size ≤ w.heap.size + 1; omega) _)
  clear HO hS hR hbk hb2 hz1 hz2 hzat hzv h3 hs1 hs2 hs3 hs4 hb4 hw3
  go_wp2_with fail
  refine bodyPost_ret (v := .tuple #[.agg #[.int .i64 z.1.k, .string z.1.a, .string z.1.b, .slice zo z.1.ps.length zc], .bool ok]) ?_ rfl ⟨z, ?_, ?_, HZ.out.1, HZ.out.2, HBE.out⟩
  · rw [results_cell_tmp rfl]
    have hl := run_loadVar_row (P := Try.prog) _ (w.heap.size + 1) _ 46 _ _ _ HS4.out Try.underlying46 rfl (by kernel_rfl)
    simp [asAddr, hl, Result.andThen]
  · unfold rvV rV
    rw [HZV.out, HOKK.out]
  · refine RTAt.mono ((HZA.out.same (Same.below ((show Below w2.heap.size w2 _ from HX3.out).mono HB2.out.size))).same fun x hx => HB4.out x (by omega)) (fun x hx => Nat.lt_of_lt_of_le hx HBE.out.size)

end Go.Proofs.Ytfhonficpccegaa
