/- Plain laws of nested groups: who is a member by tuples; a set that grows by one tuple. Tuples as values. The walks of a tuple's check, and of its parts. The walks of this, Find and Writes. The walk of Writes. No condition: lemmas. -/
import Derived.Lib.Hide
import Derived.Test.YtipddhcfcehcaaaZ5
import Derived.Test.YtipddhcfcehcaaaZ0
import Derived.Test.YtipddhcfcehcaaaZ1
import Derived.Test.YtipddhcfcehcaaaZ22
namespace Go.Proofs.Ytipddhcfcehcaaa

/-- A point, or a subject: type, id, relation. -/
structure P3 where
  t : ByteArray
  i : ByteArray
  r : ByteArray
deriving DecidableEq
/-- A tuple: its point, its subject. -/
structure Tup where
  o : P3
  s : P3
deriving DecidableEq
instance : Inhabited P3 := ⟨⟨ByteArray.empty, ByteArray.empty, ByteArray.empty⟩⟩
instance : Inhabited Tup := ⟨⟨default, default⟩⟩

/-- Has it a relation? -/
def P3.isSet (p : P3) : Prop := p.r.size ≠ 0
instance (p : P3) : Decidable p.isSet := by unfold P3.isSet; infer_instance

/-- P31.1: who is a member of what, by tuples. -/
inductive Der (T : Tup → Prop) : P3 → P3 → Prop
  | base {t : Tup} : T t → Der T t.o t.s
  | step {t : Tup} {x : P3} : T t → t.s.isSet → Der T t.s x → Der T t.o x

/-- p has q's members. -/
def Edge (T : Tup → Prop) (q p : P3) : Prop := ∃ t, T t ∧ t.s.isSet ∧ t.s = q ∧ t.o = p

def ClosedAt (U M : P3 → P3 → Prop) (s : P3) : Prop := ∀ q p, U q p → M q s → M p s

theorem der_closed (T : Tup → Prop) (s : P3) : ClosedAt (Edge T) (Der T) s := by
  rintro q p ⟨t, ht, hs, rfl, rfl⟩ h
  exact .step ht hs h
theorem der_least {T : Tup → Prop} {M : P3 → P3 → Prop} (hb : ∀ t, T t → M t.o t.s) (hc : ∀ s, ClosedAt (Edge T) M s) {p s : P3} (h : Der T p s) : M p s := by
  induction h with
  | base ht => exact hb _ ht
  | step ht hs _ ih => exact hc _ _ _ ⟨_, ht, hs, rfl, rfl⟩ ih
theorem der_mono {T T' : Tup → Prop} (h : ∀ t, T t → T' t) {p s : P3} (hd : Der T p s) : Der T' p s := by
  induction hd with
  | base ht => exact .base (h _ ht)
  | step ht hs _ ih => exact .step (h _ ht) hs ih

/-- What is come to along U. -/
inductive Reach (U : P3 → P3 → Prop) (p : P3) : P3 → Prop
  | refl : Reach U p p
  | tail {x r : P3} : Reach U p x → U x r → Reach U p r
theorem Reach.mono {U U' : P3 → P3 → Prop} (h : ∀ a b, U a b → U' a b) {p x : P3} (hr : Reach U p x) : Reach U' p x := by
  induction hr with
  | refl => exact .refl
  | tail _ hu ih => exact .tail ih (h _ _ hu)
theorem closed_reach {U M : P3 → P3 → Prop} {s : P3} (hc : ClosedAt U M s) {p x : P3} (hp : M p s) (hr : Reach U p x) : M x s := by
  induction hr with
  | refl => exact hp
  | tail _ hu ih => exact hc _ _ hu ih

/-- A member is put into a point, and into all that have its members. -/
def PutR (U M : P3 → P3 → Prop) (p s : P3) (x y : P3) : Prop := M x y ∨ (y = s ∧ Reach U p x)

/-- One tuple more. -/
def addT (T : Tup → Prop) (t : Tup) (u : Tup) : Prop := T u ∨ u = t
theorem edge_add (T : Tup → Prop) (t : Tup) (q p : P3) : Edge (addT T t) q p ↔ Edge T q p ∨ (t.s.isSet ∧ t.s = q ∧ t.o = p) := by
  constructor
  · rintro ⟨u, h | rfl, h1, h2, h3⟩
    · exact .inl ⟨u, h, h1, h2, h3⟩
    · exact .inr ⟨h1, h2, h3⟩
  · rintro (⟨u, h, h1⟩ | h)
    · exact ⟨u, .inl h, h1⟩
    · exact ⟨t, .inr rfl, h⟩

/-- What follows of one tuple more, whose subject has no relation. -/
theorem follow_plain (T : Tup → Prop) (t : Tup) (h : ¬ t.s.isSet) (x y : P3) : PutR (Edge T) (Der T) t.o t.s x y ↔ Der (addT T t) x y := by
  have hU : ∀ q p, Edge (addT T t) q p → Edge T q p := fun q p he => by
    rcases (edge_add T t q p).1 he with he | ⟨h1, _⟩
    · exact he
    · exact absurd h1 h
  constructor
  · rintro (hd | ⟨rfl, hr⟩)
    · exact der_mono (fun _ h => .inl h) hd
    · exact closed_reach (der_closed _ _) (.base (.inr rfl)) (hr.mono fun a b hab => (edge_add T t a b).2 (.inl hab))
  · refine der_least (M := PutR (Edge T) (Der T) t.o t.s) (fun u hu => ?_) (fun s q p he hm => ?_)
    · rcases hu with hu | rfl
      · exact .inl (.base hu)
      · exact .inr ⟨rfl, .refl⟩
    · have he := hU q p he
      rcases hm with hm | ⟨rfl, hr⟩
      · exact .inl (der_closed T _ _ _ he hm)
      · exact .inr ⟨rfl, .tail hr he⟩

/-- What follows of one tuple more, whose subject has a relation. -/
theorem follow_set (T : Tup → Prop) (t : Tup) (h : t.s.isSet) (x y : P3) :
    (PutR (Edge T) (Der T) t.o t.s x y ∨ (PutR (Edge T) (Der T) t.o t.s t.s y ∧ Reach (Edge (addT T t)) t.o x)) ↔ Der (addT T t) x y := by
  have hsub : ∀ a b, Edge T a b → Edge (addT T t) a b := fun a b hab => (edge_add T t a b).2 (.inl hab)
  have hput : ∀ a b, PutR (Edge T) (Der T) t.o t.s a b → Der (addT T t) a b := by
    rintro a b (hd | ⟨rfl, hr⟩)
    · exact der_mono (fun _ h => .inl h) hd
    · exact closed_reach (der_closed _ _) (.base (.inr rfl)) (hr.mono hsub)
  constructor
  · rintro (hd | ⟨hd, hr⟩)
    · exact hput _ _ hd
    · exact closed_reach (der_closed _ _) (.step (.inr rfl) h (hput _ _ hd)) hr
  · refine der_least (M := fun x y => PutR (Edge T) (Der T) t.o t.s x y ∨ (PutR (Edge T) (Der T) t.o t.s t.s y ∧ Reach (Edge (addT T t)) t.o x)) (fun u hu => ?_) (fun s q p he hm => ?_)
    · rcases hu with hu | rfl
      · exact .inl (.inl (.base hu))
      · exact .inl (.inr ⟨rfl, .refl⟩)
    · rcases hm with hm | ⟨hm, hr⟩
      · rcases (edge_add T t q p).1 he with he' | ⟨_, rfl, rfl⟩
        · rcases hm with hm | ⟨rfl, hr⟩
          · exact .inl (.inl (der_closed T _ _ _ he' hm))
          · exact .inl (.inr ⟨rfl, .tail hr he'⟩)
        · exact .inr ⟨hm, .refl⟩
      · exact .inr ⟨hm, .tail hr he⟩

/-- The document's way: the points that a point leads to, and what tuples say of them. -/
inductive Fwd (T : Tup → Prop) (p : P3) : P3 → Prop
  | refl : Fwd T p p
  | tail {t : Tup} : Fwd T p t.o → T t → t.s.isSet → Fwd T p t.s
theorem der_fwd (T : Tup → Prop) (p s : P3) : Der T p s ↔ ∃ t, T t ∧ Fwd T p t.o ∧ t.s = s := by
  constructor
  · intro h
    induction h with
    | @base t ht => exact ⟨t, ht, .refl, rfl⟩
    | @step t x ht hs _ ih =>
      obtain ⟨u, hu, hf, rfl⟩ := ih
      refine ⟨u, hu, ?_, rfl⟩
      generalize u.o = q at hf
      clear hu
      induction hf with
      | refl => exact .tail .refl ht hs
      | tail _ h1 h2 ih => exact .tail ih h1 h2
  · rintro ⟨t, ht, hf, rfl⟩
    have : ∀ q, Fwd T p q → ∀ x, Der T q x → Der T p x := by
      intro q hq
      induction hq with
      | refl => exact fun _ h => h
      | tail _ h1 h2 ih => exact fun x hx => ih _ (.step h1 h2 hx)
    exact this _ hf _ (.base ht)

end Go.Proofs.Ytipddhcfcehcaaa
namespace Go.Proofs.Ytipddhcfcehcaaa
open Go Go.RowKit

/-- A tuple as a value. -/
def tV (t : Tup) : Value := .agg #[.string t.o.t, .string t.o.i, .string t.o.r, .string t.s.t, .string t.s.i, .string t.s.r]
theorem tV_inj (a b : Tup) (h : tV a = tV b) : a = b := by
  obtain ⟨⟨a1, a2, a3⟩, ⟨a4, a5, a6⟩⟩ := a
  obtain ⟨⟨b1, b2, b3⟩, ⟨b4, b5, b6⟩⟩ := b
  simp only [tV, Value.agg.injEq, Array.mk.injEq, List.cons.injEq, Value.string.injEq, and_true] at h
  simp [h]
/-- Texts that a machine can hold. -/
def P3.Ok (p : P3) : Prop := p.t.size ≤ maxLen ∧ p.i.size ≤ maxLen ∧ p.r.size ≤ maxLen
def Tup.Ok (t : Tup) : Prop := t.o.Ok ∧ t.s.Ok

end Go.Proofs.Ytipddhcfcehcaaa
namespace Go.Proofs.Ytipddhcfcehcaaa
open Go Go.RowKit

/-- May a tuple be? -/
def chkT (t : Tup) : Bool := isNm t.o.t && isNm t.o.i && isNm t.o.r && isNm t.s.t && isNm t.s.i && (isNm t.s.r || decide (t.s.r.size = 0))
/-- What Check answers. -/
def chkN (t : Tup) : Int := if chkT t then 0 else 2
set_option maxRecDepth 100000 in
set_option maxHeartbeats 1600000 in
theorem of_any (t : Tup) (w : World) : Calls Try.prog 79 #[tV t] w fun e w' => e = .returned (tV t) ∧ Below w.heap.size w w' := by
  obtain ⟨⟨ot, oi, or_⟩, ⟨st, si, sr⟩⟩ := t
  have hb := (Blk.made w #[.string ot, .string oi, .string or_, .string st, .string si, .string sr] 35)
  have h1 : Below w.heap.size w (w.alloc (.cells #[.string ot, .string oi, .string or_, .string st, .string si, .string sr] 35)) := (Below.refl _ _).alloc (Nat.le_refl _) _
  unfold tV
  dsimp only
  go_enter Try.func79, Try.ntmps79
  go_wp2_with fail
  refine bodyPost_ret (results_cell_row rfl _ _ (w.heap.size + 1) 138 #[.string ot, .string oi, .string or_, .string st, .string si, .string sr] (0, 0) _ rfl ?_ Try.underlying138 rfl (by kernel_rfl)) rfl ⟨rfl, h1.alloc h1.size _⟩
  have := heap_alloc_new (w.alloc (.cells #[.string ot, .string oi, .string or_, .string st, .string si, .string sr] 35)) (.cells #[.string ot, .string oi, .string or_, .string st, .string si, .string sr] 138)
  rwa [World.size_alloc] at this
/-- The parts of a tuple, by number. -/
theorem parts_at (a b c d e f : ByteArray) (W : World) :
    (Instr.index 138 (.agg #[.string a, .string b, .string c, .string d, .string e, .string f]) (.int .i64 0)).run Try.prog W = .ok (.string a) W ∧
    (Instr.index 138 (.agg #[.string a, .string b, .string c, .string d, .string e, .string f]) (.int .i64 1)).run Try.prog W = .ok (.string b) W ∧
    (Instr.index 138 (.agg #[.string a, .string b, .string c, .string d, .string e, .string f]) (.int .i64 2)).run Try.prog W = .ok (.string c) W ∧
    (Instr.index 138 (.agg #[.string a, .string b, .string c, .string d, .string e, .string f]) (.int .i64 3)).run Try.prog W = .ok (.string d) W ∧
    (Instr.index 138 (.agg #[.string a, .string b, .string c, .string d, .string e, .string f]) (.int .i64 4)).run Try.prog W = .ok (.string e) W ∧
    (Instr.index 138 (.agg #[.string a, .string b, .string c, .string d, .string e, .string f]) (.int .i64 5)).run Try.prog W = .ok (.string f) W :=
  ⟨by kernel_rfl, by kernel_rfl, by kernel_rfl, by kernel_rfl, by kernel_rfl, by kernel_rfl⟩
set_option maxRecDepth 100000 in
set_option maxHeartbeats 3200000 in
theorem check_any (t : Tup) (ht : t.Ok) (w : World) : Calls Try.prog 58 #[tV t] w fun e w' => e = .returned (.int .i64 (chkN t)) ∧ Below w.heap.size w w' := by
  obtain ⟨⟨ot, oi, or_⟩, ⟨st, si, sr⟩⟩ := t
  have HOK := Lib.hid ht
  clear ht
  have hb1 := (Blk.made w #[.string ot, .string oi, .string or_, .string st, .string si, .string sr] 35).cells
  have HE := Lib.hid (show Below w.heap.size w (w.alloc (.cells #[.string ot, .string oi, .string or_, .string st, .string si, .string sr] 35)) from (Below.refl _ _).alloc (Nat.le_refl _) _)
  have HOF := Lib.hid (of_any ⟨⟨ot, oi, or_⟩, ⟨st, si, sr⟩⟩ (w.alloc (.cells #[.string ot, .string oi, .string or_, .string st, .string si, .string sr] 35)))
  unfold tV at HOF ⊢
  dsimp only at HOF ⊢
  unfold Tup.Ok P3.Ok at HOK
  dsimp only at HOK
  go_enter Try.func58, Try.ntmps58
  go_wp2_with fail
  refine HOF.out.mono ?_
  rintro e w2 ⟨rfl, hb2⟩
  have HBW := Lib.hid (HE.out.trans (hb2.mono HE.out.size))
  clear HE HOF hb2 hb1
  obtain ⟨p0, p1, p2, p3, p4, p5⟩ := parts_at ot oi or_ st si sr w2
  go_wp2_with fail
  refine wp_loop_rounds 7 ?_
  rw [rounds_succ]
  go_wp2_with fail
  refine (isName_any ot HOK.out.1.1 _).mono ?_
  rintro e w' ⟨rfl, rfl⟩
  rcases hb0 : isNm ot with _ | _
  · have HB := Lib.hid hb0
    clear hb0
    go_wp2_with fail
    go_ret
    exact ⟨congrArg (fun n => Ending.returned (.int .i64 n)) (show (2 : Int) = chkN ⟨⟨ot, oi, or_⟩, ⟨st, si, sr⟩⟩ from by simp [chkN, chkT, HB.out]), HBW.out⟩
  have HB0 := Lib.hid hb0
  clear hb0
  go_wp2_with fail
  rw [rounds_succ]
  go_wp2_with fail
  refine (isName_any oi HOK.out.1.2.1 _).mono ?_
  rintro e w' ⟨rfl, rfl⟩
  rcases hb1 : isNm oi with _ | _
  · have HB := Lib.hid hb1
    clear hb1
    go_wp2_with fail
    go_ret
    exact ⟨congrArg (fun n => Ending.returned (.int .i64 n)) (show (2 : Int) = chkN ⟨⟨ot, oi, or_⟩, ⟨st, si, sr⟩⟩ from by simp [chkN, chkT, HB.out]), HBW.out⟩
  have HB1 := Lib.hid hb1
  clear hb1
  go_wp2_with fail
  rw [rounds_succ]
  go_wp2_with fail
  refine (isName_any or_ HOK.out.1.2.2 _).mono ?_
  rintro e w' ⟨rfl, rfl⟩
  rcases hb2 : isNm or_ with _ | _
  · have HB := Lib.hid hb2
    clear hb2
    go_wp2_with fail
    go_ret
    exact ⟨congrArg (fun n => Ending.returned (.int .i64 n)) (show (2 : Int) = chkN ⟨⟨ot, oi, or_⟩, ⟨st, si, sr⟩⟩ from by simp [chkN, chkT, HB.out]), HBW.out⟩
  have HB2 := Lib.hid hb2
  clear hb2
  go_wp2_with fail
  rw [rounds_succ]
  go_wp2_with fail
  refine (isName_any st HOK.out.2.1 _).mono ?_
  rintro e w' ⟨rfl, rfl⟩
  rcases hb3 : isNm st with _ | _
  · have HB := Lib.hid hb3
    clear hb3
    go_wp2_with fail
    go_ret
    exact ⟨congrArg (fun n => Ending.returned (.int .i64 n)) (show (2 : Int) = chkN ⟨⟨ot, oi, or_⟩, ⟨st, si, sr⟩⟩ from by simp [chkN, chkT, HB.out]), HBW.out⟩
  have HB3 := Lib.hid hb3
  clear hb3
  go_wp2_with fail
  rw [rounds_succ]
  go_wp2_with fail
  refine (isName_any si HOK.out.2.2.1 _).mono ?_
  rintro e w' ⟨rfl, rfl⟩
  rcases hb4 : isNm si with _ | _
  · have HB := Lib.hid hb4
    clear hb4
    go_wp2_with fail
    go_ret
    exact ⟨congrArg (fun n => Ending.returned (.int .i64 n)) (show (2 : Int) = chkN ⟨⟨ot, oi, or_⟩, ⟨st, si, sr⟩⟩ from by simp [chkN, chkT, HB.out]), HBW.out⟩
  have HB4 := Lib.hid hb4
  clear hb4
  go_wp2_with fail
  rw [rounds_succ]
  go_wp2_with fail
  refine (isName_any sr HOK.out.2.2.2 _).mono ?_
  rintro e w' ⟨rfl, rfl⟩
  rcases hb5 : isNm sr with _ | _
  · have HB5 := Lib.hid hb5
    clear hb5
    by_cases h0 : sr.size = 0
    · obtain rfl := ba_size_eq h0
      clear h0
      go_wp2_with fail
      rw [rounds_succ]
      go_wp2_with fail
      go_ret
      exact ⟨congrArg (fun n => Ending.returned (.int .i64 n)) (show (0 : Int) = chkN ⟨⟨ot, oi, or_⟩, ⟨st, si, ⟨#[]⟩⟩⟩ from by simp [chkN, chkT, HB0.out, HB1.out, HB2.out, HB3.out, HB4.out, show (ByteArray.mk #[]).size = 0 from rfl]), HBW.out⟩
    · have hne := ba_size_ne h0
      have H0 := Lib.hid h0
      clear h0
      go_wp2_with fail
      go_ret
      exact ⟨congrArg (fun n => Ending.returned (.int .i64 n)) (show (2 : Int) = chkN ⟨⟨ot, oi, or_⟩, ⟨st, si, sr⟩⟩ from by simp [chkN, chkT, HB5.out, H0.out]), HBW.out⟩
  · have HB5 := Lib.hid hb5
    clear hb5
    go_wp2_with fail
    rw [rounds_succ]
    go_wp2_with fail
    go_ret
    exact ⟨congrArg (fun n => Ending.returned (.int .i64 n)) (show (0 : Int) = chkN ⟨⟨ot, oi, or_⟩, ⟨st, si, sr⟩⟩ from by simp [chkN, chkT, HB0.out, HB1.out, HB2.out, HB3.out, HB4.out, HB5.out]), HBW.out⟩
set_option maxRecDepth 100000 in
set_option maxHeartbeats 1600000 in
theorem parts_any (t : Tup) (w : World) : Calls Try.prog 10 #[tV t] w fun e w' => e = .returned (.slice (some ⟨w.heap.size + 1, 0, none⟩) 6 6) ∧
    Blk w' (w.heap.size + 1) #[.string t.o.t, .string t.o.i, .string t.o.r, .string t.s.t, .string t.s.i, .string t.s.r] 9 ∧ Below w.heap.size w w' := by
  obtain ⟨⟨ot, oi, or_⟩, ⟨st, si, sr⟩⟩ := t
  have hb := (Blk.made w #[.string ot, .string oi, .string or_, .string st, .string si, .string sr] 35)
  have h1 : Below w.heap.size w (w.alloc (.cells #[.string ot, .string oi, .string or_, .string st, .string si, .string sr] 35)) := (Below.refl _ _).alloc (Nat.le_refl _) _
  unfold tV
  dsimp only
  go_enter Try.func10, Try.ntmps10
  go_wp2_with fail
  go_ret
  refine ⟨rfl, ?_, h1.alloc h1.size _⟩
  have := heap_alloc_new (w.alloc (.cells #[.string ot, .string oi, .string or_, .string st, .string si, .string sr] 35)) (.cells #[.string ot, .string oi, .string or_, .string st, .string si, .string sr] 9)
  rwa [World.size_alloc] at this
set_option maxRecDepth 100000 in
set_option maxHeartbeats 3200000 in
theorem refCheck_any (t : Tup) (ht : t.Ok) (w : World) : Calls Try.prog 27 #[tV t] w fun e w' => e = .returned (.int .i64 (chkN t)) ∧ Below w.heap.size w w' := by
  obtain ⟨⟨ot, oi, or_⟩, ⟨st, si, sr⟩⟩ := t
  have HOK := Lib.hid ht
  clear ht
  have hb1 := (Blk.made w #[.string ot, .string oi, .string or_, .string st, .string si, .string sr] 35).cells
  have HE := Lib.hid (show Below w.heap.size w (w.alloc (.cells #[.string ot, .string oi, .string or_, .string st, .string si, .string sr] 35)) from (Below.refl _ _).alloc (Nat.le_refl _) _)
  have HOF := Lib.hid (parts_any ⟨⟨ot, oi, or_⟩, ⟨st, si, sr⟩⟩ (w.alloc (.cells #[.string ot, .string oi, .string or_, .string st, .string si, .string sr] 35)))
  unfold tV at HOF ⊢
  dsimp only at HOF ⊢
  unfold Tup.Ok P3.Ok at HOK
  dsimp only at HOK
  go_enter Try.func27, Try.ntmps27
  go_wp2_with fail
  refine HOF.out.mono ?_
  rintro e w2 ⟨rfl, hP, hb2⟩
  have HBW := Lib.hid (HE.out.trans (hb2.mono HE.out.size))
  clear HE HOF hb2 hb1
  have cP := hP.cells
  simp only [World.size_alloc] at cP ⊢
  go_wp2_with fail
  refine wp_loop_rounds 7 ?_
  rw [rounds_succ]
  go_wp2_with fail
  refine (refName_any ot HOK.out.1.1 _).mono ?_
  rintro e w' ⟨rfl, rfl⟩
  rcases hb0 : isNm ot with _ | _
  · have HB := Lib.hid hb0
    clear hb0
    go_wp2_with fail
    go_ret
    exact ⟨congrArg (fun n => Ending.returned (.int .i64 n)) (show (2 : Int) = chkN ⟨⟨ot, oi, or_⟩, ⟨st, si, sr⟩⟩ from by simp [chkN, chkT, HB.out]), HBW.out⟩
  have HB0 := Lib.hid hb0
  clear hb0
  go_wp2_with fail
  rw [rounds_succ]
  go_wp2_with fail
  refine (refName_any oi HOK.out.1.2.1 _).mono ?_
  rintro e w' ⟨rfl, rfl⟩
  rcases hb1 : isNm oi with _ | _
  · have HB := Lib.hid hb1
    clear hb1
    go_wp2_with fail
    go_ret
    exact ⟨congrArg (fun n => Ending.returned (.int .i64 n)) (show (2 : Int) = chkN ⟨⟨ot, oi, or_⟩, ⟨st, si, sr⟩⟩ from by simp [chkN, chkT, HB.out]), HBW.out⟩
  have HB1 := Lib.hid hb1
  clear hb1
  go_wp2_with fail
  rw [rounds_succ]
  go_wp2_with fail
  refine (refName_any or_ HOK.out.1.2.2 _).mono ?_
  rintro e w' ⟨rfl, rfl⟩
  rcases hb2 : isNm or_ with _ | _
  · have HB := Lib.hid hb2
    clear hb2
    go_wp2_with fail
    go_ret
    exact ⟨congrArg (fun n => Ending.returned (.int .i64 n)) (show (2 : Int) = chkN ⟨⟨ot, oi, or_⟩, ⟨st, si, sr⟩⟩ from by simp [chkN, chkT, HB.out]), HBW.out⟩
  have HB2 := Lib.hid hb2
  clear hb2
  go_wp2_with fail
  rw [rounds_succ]
  go_wp2_with fail
  refine (refName_any st HOK.out.2.1 _).mono ?_
  rintro e w' ⟨rfl, rfl⟩
  rcases hb3 : isNm st with _ | _
  · have HB := Lib.hid hb3
    clear hb3
    go_wp2_with fail
    go_ret
    exact ⟨congrArg (fun n => Ending.returned (.int .i64 n)) (show (2 : Int) = chkN ⟨⟨ot, oi, or_⟩, ⟨st, si, sr⟩⟩ from by simp [chkN, chkT, HB.out]), HBW.out⟩
  have HB3 := Lib.hid hb3
  clear hb3
  go_wp2_with fail
  rw [rounds_succ]
  go_wp2_with fail
  refine (refName_any si HOK.out.2.2.1 _).mono ?_
  rintro e w' ⟨rfl, rfl⟩
  rcases hb4 : isNm si with _ | _
  · have HB := Lib.hid hb4
    clear hb4
    go_wp2_with fail
    go_ret
    exact ⟨congrArg (fun n => Ending.returned (.int .i64 n)) (show (2 : Int) = chkN ⟨⟨ot, oi, or_⟩, ⟨st, si, sr⟩⟩ from by simp [chkN, chkT, HB.out]), HBW.out⟩
  have HB4 := Lib.hid hb4
  clear hb4
  go_wp2_with fail
  rw [rounds_succ]
  go_wp2_with fail
  refine (refName_any sr HOK.out.2.2.2 _).mono ?_
  rintro e w' ⟨rfl, rfl⟩
  rcases hb5 : isNm sr with _ | _
  · have HB5 := Lib.hid hb5
    clear hb5
    by_cases h0 : sr.size = 0
    · obtain rfl := ba_size_eq h0
      clear h0
      go_wp2_with fail
      rw [rounds_succ]
      go_wp2_with fail
      go_ret
      exact ⟨congrArg (fun n => Ending.returned (.int .i64 n)) (show (0 : Int) = chkN ⟨⟨ot, oi, or_⟩, ⟨st, si, ⟨#[]⟩⟩⟩ from by simp [chkN, chkT, HB0.out, HB1.out, HB2.out, HB3.out, HB4.out, show (ByteArray.mk #[]).size = 0 from rfl]), HBW.out⟩
    · have hne := ba_size_ne h0
      have H0 := Lib.hid h0
      clear h0
      go_wp2_with fail
      go_ret
      exact ⟨congrArg (fun n => Ending.returned (.int .i64 n)) (show (2 : Int) = chkN ⟨⟨ot, oi, or_⟩, ⟨st, si, sr⟩⟩ from by simp [chkN, chkT, HB5.out, H0.out]), HBW.out⟩
  · have HB5 := Lib.hid hb5
    clear hb5
    go_wp2_with fail
    rw [rounds_succ]
    go_wp2_with fail
    go_ret
    exact ⟨congrArg (fun n => Ending.returned (.int .i64 n)) (show (0 : Int) = chkN ⟨⟨ot, oi, or_⟩, ⟨st, si, sr⟩⟩ from by simp [chkN, chkT, HB0.out, HB1.out, HB2.out, HB3.out, HB4.out, HB5.out]), HBW.out⟩

end Go.Proofs.Ytipddhcfcehcaaa
namespace Go.Proofs.Ytipddhcfcehcaaa
open Go Go.RowKit Go.Maps Go.Shelf

set_option maxRecDepth 100000 in
set_option maxHeartbeats 2000000 in
theorem thisP_any (r : RT) : ∀ (pv : Value) (w : World), RTAt (· < w.heap.size) w r pv → Calls Try.prog 60 #[rV r pv] w fun e w' => e = .returned (.bool r.this) ∧ Below w.heap.size w w' := by
  induction r using RT.ind with
  | h r ih =>
  intro pv w hat
  have HE := Lib.hid r.this_eq
  obtain ⟨k, ra, rb, ps⟩ := r
  obtain ⟨ao, c, rfl, -⟩ := hat.rows
  dsimp only [RT.k, RT.ps] at HE ih
  have IH := Lib.hid ih
  have hb0 : Ext w (w.alloc (.cells #[.int .i64 k, .string ra, .string rb, .slice ao ps.length c] 72)) := Ext.alloc _ _
  have HB0 := Lib.hid hb0
  have hbk := (Blk.made w #[.int .i64 k, .string ra, .string rb, .slice ao ps.length c] 72).cells
  have HCF := Lib.hid (containsRF_any _ ps k ra rb _ 60 #[] (enters_of Try.func60 (by kernel_rfl) rfl) RT.this (hat.up hb0) (fun i hi W pvi hW hati => ih ps[i] (List.getElem_mem hi) pvi W hati))
  unfold rV
  dsimp only [RT.k, RT.a, RT.b, RT.ps]
  clear ih hat hb0
  by_cases h1 : k = 1
  · subst h1
    go_enter Try.func60, Try.ntmps60
    go_wp2_with fail
    go_ret
    exact ⟨by rw [HE.out]; simp, HB0.out⟩
  have q1 : (k == 1) = false := by rw [beq_eq_false_iff_ne]; exact h1
  have HK := Lib.hid q1
  clear h1
  go_enter Try.func60, Try.ntmps60
  go_wp2_with fail
  refine HCF.out.mono ?_
  rintro e w2 ⟨rfl, hb2⟩
  have HBE := Lib.hid (Ext.trans HB0.out hb2)
  clear HCF hb2 hbk
  go_wp2_with fail
  go_ret
  exact ⟨by rw [HE.out, HK.out]; simp, HBE.out⟩

end Go.Proofs.Ytipddhcfcehcaaa
namespace Go.Proofs.Ytipddhcfcehcaaa
open Go Go.RowKit Go.Maps Go.Shelf

/-- Is a type there? -/
def tyIn (ts : List TyS) (n : ByteArray) : Bool := ts.any fun t => decide (t.name = n)
theorem look_tyL (ts : List TyS) (n : ByteArray) (z : Value) : lookV false z bV (lookA (tyL ts) n) = if tyIn ts n then .bool true else z := by
  induction ts with
  | nil => rfl
  | cons t ts ih =>
    unfold tyIn tyL at *
    rw [List.map_cons, lookA, List.any_cons]
    by_cases h : t.name = n
    · simp [h, lookV, bV]
    · rw [if_neg h, ih]
      simp [h]
/-- Which tuples may be written, or what is wrong first. -/
def wrM (ts : List TyS) (t : Tup) : Int := if (lookA (refsOf ts) ⟨t.o.t, t.o.r⟩).isSome && (tyIn ts t.s.t && (decide (t.s.r.size = 0) || (lookA (refsOf ts) ⟨t.s.t, t.s.r⟩).isSome)) then (if ((lookA (refsOf ts) ⟨t.o.t, t.o.r⟩).getD (.mk 0 ByteArray.empty ByteArray.empty [])).this then 0 else 9) else 4
def wrN (ts : List TyS) (t : Tup) : Int := if chkT t then wrM ts t else 2

set_option maxRecDepth 100000 in
set_option maxHeartbeats 4000000 in
theorem writesP_any (ts : List TyS) (tv : Value) (t : Tup) (w : World) (h : TysAt (· < w.heap.size) w ts tv) (hok : ∀ t ∈ ts, t.Ok) (hu : uniqOk ts = true) (hsz : (refsOf ts).length ≤ 1099511627776) (ht : t.Ok) :
    Calls Try.prog 30 #[.agg #[tv], tV t] w fun e w' => e = .returned (.int .i64 (wrN ts t)) ∧ Below w.heap.size w w' := by
  obtain ⟨⟨ot, oi, or_⟩, ⟨st, si, sr⟩⟩ := t
  have hx1 : Ext w ((w.alloc (.cells #[tv] 24)).alloc (.cells #[.string ot, .string oi, .string or_, .string st, .string si, .string sr] 35)) := (Ext.alloc _ _).trans (Ext.alloc _ _)
  have HX := Lib.hid hx1
  have HCK := Lib.hid (check_any ⟨⟨ot, oi, or_⟩, ⟨st, si, sr⟩⟩ ht ((w.alloc (.cells #[tv] 24)).alloc (.cells #[.string ot, .string oi, .string or_, .string st, .string si, .string sr] 35)))
  have HS := Lib.hid ((Blk.made w #[tv] 24).alloc (.cells #[.string ot, .string oi, .string or_, .string st, .string si, .string sr] 35))
  have HT := Lib.hid (Blk.made' (w := w.alloc (.cells #[tv] 24)) (B := w.heap.size + 1) (by simp) #[.string ot, .string oi, .string or_, .string st, .string si, .string sr] 35)
  have HTS := Lib.hid h
  have HOK := Lib.hid hok
  have HU := Lib.hid hu
  have HSZ := Lib.hid hsz
  have HTO := Lib.hid ht
  have hS := HS.out.cells
  have hT := HT.out.cells
  have HW0 := Lib.hid (show wrN ts ⟨⟨ot, oi, or_⟩, ⟨st, si, sr⟩⟩ = if chkT ⟨⟨ot, oi, or_⟩, ⟨st, si, sr⟩⟩ then wrM ts ⟨⟨ot, oi, or_⟩, ⟨st, si, sr⟩⟩ else 2 from rfl)
  unfold tV at HCK
  unfold tV
  dsimp only at HCK ⊢
  clear h hok hu hsz ht hx1
  go_enter Try.func30, Try.ntmps30
  go_wp2_with fail
  refine HCK.out.mono ?_
  rintro e w2 ⟨rfl, hb2⟩
  have HB2 := Lib.hid (show Below w.heap.size w w2 from Ext.trans HX.out hb2)
  have HS2 := Lib.hid (HS.out.below hb2)
  have HT2 := Lib.hid (HT.out.below hb2)
  have s2 := HS2.out.cells
  clear HCK hS hT hb2
  unfold chkN
  cases hck : chkT ⟨⟨ot, oi, or_⟩, ⟨st, si, sr⟩⟩ with
  | false =>
    have HF := Lib.hid (show wrN ts ⟨⟨ot, oi, or_⟩, ⟨st, si, sr⟩⟩ = 2 from by rw [HW0.out, hck]; rfl)
    rw [show (if false = true then (0 : Int) else 2) = 2 from rfl]
    clear hck
    go_wp2_with fail
    go_ret
    exact ⟨by rw [HF.out]; rfl, HB2.out⟩
  | true =>
  have HW := Lib.hid (show wrN ts ⟨⟨ot, oi, or_⟩, ⟨st, si, sr⟩⟩ = wrM ts ⟨⟨ot, oi, or_⟩, ⟨st, si, sr⟩⟩ from by rw [HW0.out, hck]; rfl)
  rw [show (if true = true then (0 : Int) else 2) = 0 from rfl]
  have HO := Lib.hid (open_bk ts tv _ (HTS.out.up HB2.out) HOK.out HU.out HSZ.out)
  clear hck HW0
  go_wp2_with fail
  refine HO.out.mono ?_
  rintro e w3 ⟨b1, b2, b3, rfl, hbk, hb3⟩
  have HB3 := Lib.hid (show Below w.heap.size w w3 from HB2.out.trans (hb3.mono HB2.out.size))
  obtain ⟨wa, hwa⟩ : ∃ x, x = w3.alloc (.cells #[.map (some b1), .map (some b2), .map (some b3)] 117) := ⟨_, rfl⟩
  have xa : Ext w3 wa := by rw [hwa]; exact Ext.alloc _ _
  have HBC := Lib.hid (show Blk wa w3.heap.size #[.map (some b1), .map (some b2), .map (some b3)] 117 from by rw [hwa]; exact Blk.made _ _ _)
  have HTA := Lib.hid (HT2.out.below (hb3.trans (Below.mono xa hb3.size)))
  have hbka := hbk.up xa
  obtain ⟨z, hlk, hzat, hz1, -⟩ := hbka.R.look ⟨ot, or_⟩ ⟨HTO.out.1.1, HTO.out.1.2.2⟩
  obtain ⟨zo, zc, hzv, -⟩ := hzat.rows
  have HZ1 := Lib.hid hz1
  have HZA := Lib.hid hzat
  have HZV := Lib.hid hzv
  generalize hokk : (lookA (refsOf ts) ⟨ot, or_⟩).isSome = ok at *
  have HOKK := Lib.hid hokk
  unfold rvV rV r2V at hlk
  dsimp only at hlk
  rw [hzv] at hlk
  obtain ⟨wb, hwb⟩ : ∃ x, x = wa.alloc (.cells #[.int .i64 z.1.k, .string z.1.a, .string z.1.b, .slice zo z.1.ps.length zc] 72) := ⟨_, rfl⟩
  have xb : Ext wa wb := by rw [hwb]; exact Ext.alloc _ _
  have eb : wb.heap.size = wa.heap.size + 1 := by rw [hwb]; simp
  have HRB := Lib.hid (show Blk wb wa.heap.size #[.int .i64 z.1.k, .string z.1.a, .string z.1.b, .slice zo z.1.ps.length zc] 72 from by rw [hwb]; exact Blk.made _ _ _)
  have HZB := Lib.hid (hzat.up xb)
  have hbkb := hbka.up xb
  obtain ⟨y, hlky, hyat, -, -⟩ := hbkb.R.look ⟨st, sr⟩ ⟨HTO.out.2.1, HTO.out.2.2.2⟩
  obtain ⟨yo, yc, hyv, -⟩ := hyat.rows
  generalize hsub : (lookA (refsOf ts) ⟨st, sr⟩).isSome = sub at *
  have HSUB := Lib.hid hsub
  unfold rvV rV r2V at hlky
  dsimp only at hlky
  rw [hyv] at hlky
  obtain ⟨wc, hwc⟩ : ∃ x, x = wb.alloc (.cells #[.int .i64 y.1.k, .string y.1.a, .string y.1.b, .slice yo y.1.ps.length yc] 72) := ⟨_, rfl⟩
  have xc : Ext wb wc := by rw [hwc]; exact Ext.alloc _ _
  have hty := (hbkb.up xc).T.look strK strV_inj Try.underlying83 (Try.zeroValue4 _) false (str_key st HTO.out.2.1)
  rw [look_tyL] at hty
  obtain ⟨tb, htb⟩ : ∃ tb, tb = tyIn ts st := ⟨_, rfl⟩
  rw [← htb] at hty
  have HTB := Lib.hid htb
  have HTHC := Lib.hid (thisP_any z.1 z.2 wc (HZB.out.up xc))
  unfold rV at HTHC
  rw [hzv] at HTHC
  have ca := HBC.out.cells
  have cb := (HBC.out.below xb).cells
  have cc := (HBC.out.below (xb.trans xc)).cells
  have ta := HTA.out.cells
  have tb2 := (HTA.out.below xb).cells
  have tc := (HTA.out.below (xb.trans xc)).cells
  have rc := (HRB.out.below xc).cells
  have HB5 := Lib.hid (show Below w.heap.size w wc from HB3.out.trans (Below.mono (xa.trans (xb.trans xc)) HB3.out.size))
  have hsz := HB3.out.size
  clear HO hbk hb3 hbka hbkb hzat hzv hyat hyv xa xb xc eb hz1 s2 htb hokk hsub hsz
  subst hwc hwb hwa
  cases ok with
  | false =>
    have HF := Lib.hid (show wrN ts ⟨⟨ot, oi, or_⟩, ⟨st, si, sr⟩⟩ = 4 from by
      rw [HW.out]
      unfold wrM; dsimp only; rw [HOKK.out]; rfl)
    go_wp2_with fail
    go_ret
    exact ⟨by rw [HF.out]; rfl, HB5.out⟩
  | true =>
  cases tb with
  | false =>
    have HF := Lib.hid (show wrN ts ⟨⟨ot, oi, or_⟩, ⟨st, si, sr⟩⟩ = 4 from by
      rw [HW.out]
      unfold wrM; dsimp only; rw [HOKK.out, ← HTB.out]; rfl)
    go_wp2_with fail
    go_ret
    exact ⟨by rw [HF.out]; rfl, HB5.out⟩
  | true =>
  by_cases hsr : sr.size = 0
  · obtain rfl := ba_size_eq hsr
    clear hsr
    have HM := Lib.hid (show wrN ts ⟨⟨ot, oi, or_⟩, ⟨st, si, ⟨#[]⟩⟩⟩ = if z.1.this then 0 else 9 from by
      rw [HW.out]
      unfold wrM
      dsimp only
      rw [HOKK.out, ← HTB.out]
      obtain ⟨r, hr⟩ := Option.isSome_iff_exists.1 HOKK.out
      rw [hr, HZ1.out r hr]
      rfl)
    go_wp2_with fail
    refine HTHC.out.mono ?_
    rintro e w9 ⟨rfl, hb9⟩
    have HBE := Lib.hid (HB5.out.trans (hb9.mono HB5.out.size))
    clear HTHC hb9 ca cb cc ta tb2 tc rc hlk hlky hty
    cases hth : z.1.this with
    | true =>
      have HF := Lib.hid (HM.out.trans (by rw [hth]; rfl : _ = (0 : Int)))
      clear hth
      go_wp2_with fail
      go_ret
      exact ⟨by rw [HF.out]; rfl, HBE.out⟩
    | false =>
      have HF := Lib.hid (HM.out.trans (by rw [hth]; rfl : _ = (9 : Int)))
      clear hth
      go_wp2_with fail
      go_ret
      exact ⟨by rw [HF.out]; rfl, HBE.out⟩
  have hnesr := ba_size_ne hsr
  have HSR := Lib.hid hsr
  clear hsr
  cases sub with
  | false =>
    have HF := Lib.hid (show wrN ts ⟨⟨ot, oi, or_⟩, ⟨st, si, sr⟩⟩ = 4 from by
      rw [HW.out]
      unfold wrM; dsimp only; rw [HOKK.out, ← HTB.out, HSUB.out]; simp [HSR.out])
    go_wp2_with fail
    go_ret
    exact ⟨by rw [HF.out]; rfl, HB5.out⟩
  | true =>
    have HM := Lib.hid (show wrN ts ⟨⟨ot, oi, or_⟩, ⟨st, si, sr⟩⟩ = if z.1.this then 0 else 9 from by
      rw [HW.out]
      unfold wrM
      dsimp only
      rw [HOKK.out, ← HTB.out, HSUB.out]
      obtain ⟨r, hr⟩ := Option.isSome_iff_exists.1 HOKK.out
      rw [hr, HZ1.out r hr]
      simp)
    go_wp2_with fail
    refine HTHC.out.mono ?_
    rintro e w9 ⟨rfl, hb9⟩
    have HBE := Lib.hid (HB5.out.trans (hb9.mono HB5.out.size))
    clear HTHC hb9 ca cb cc ta tb2 tc rc hlk hlky hty
    cases hth : z.1.this with
    | true =>
      have HF := Lib.hid (HM.out.trans (by rw [hth]; rfl : _ = (0 : Int)))
      clear hth
      go_wp2_with fail
      go_ret
      exact ⟨by rw [HF.out]; rfl, HBE.out⟩
    | false =>
      have HF := Lib.hid (HM.out.trans (by rw [hth]; rfl : _ = (9 : Int)))
      clear hth
      go_wp2_with fail
      go_ret
      exact ⟨by rw [HF.out]; rfl, HBE.out⟩

end Go.Proofs.Ytipddhcfcehcaaa
