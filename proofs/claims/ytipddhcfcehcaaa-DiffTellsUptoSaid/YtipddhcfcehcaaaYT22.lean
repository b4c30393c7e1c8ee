/- Lemmas for the claim, no condition. -/
import Derived.Lib.Hide
import Derived.Test.YtipddhcfcehcaaaYT21
import Derived.Test.YtipddhcfcehcaaaYT3
import Derived.Test.YtipddhcfcehcaaaYT0
import Derived.Test.YtipddhcfcehcaaaYT1
import Derived.Test.YtipddhcfcehcaaaYT12
import Derived.Test.YtipddhcfcehcaaaYT19
import Derived.Test.YtipddhcfcehcaaaYT2
namespace Go.Proofs.Ytipddhcfcehcaaa

/-- A point, or a subject: type, id, relation. -/
structure P3 where
  t : ByteArray
  i : ByteArray
  r : ByteArray
deriving DecidableEq
/-- A tuple: its point, its subject. -/
structure Tup where
  o : P3
  s : P3
deriving DecidableEq
instance : Inhabited P3 := ⟨⟨ByteArray.empty, ByteArray.empty, ByteArray.empty⟩⟩
instance : Inhabited Tup := ⟨⟨default, default⟩⟩

/-- Has it a relation? -/
def P3.isSet (p : P3) : Prop := p.r.size ≠ 0
instance (p : P3) : Decidable p.isSet := by unfold P3.isSet; infer_instance

/-- What is come to along U. -/
inductive Reach (U : P3 → P3 → Prop) (p : P3) : P3 → Prop
  | refl : Reach U p p
  | tail {x r : P3} : Reach U p x → U x r → Reach U p r
theorem Reach.mono {U U' : P3 → P3 → Prop} (h : ∀ a b, U a b → U' a b) {p x : P3} (hr : Reach U p x) : Reach U' p x := by
  induction hr with
  | refl => exact .refl
  | tail _ hu ih => exact .tail ih (h _ _ hu)
end Go.Proofs.Ytipddhcfcehcaaa
namespace Go.Proofs.Ytipddhcfcehcaaa
open Go Go.RowKit

/-- Texts that a machine can hold. -/
def P3.Ok (p : P3) : Prop := p.t.size ≤ maxLen ∧ p.i.size ≤ maxLen ∧ p.r.size ≤ maxLen
def Tup.Ok (t : Tup) : Prop := t.o.Ok ∧ t.s.Ok

end Go.Proofs.Ytipddhcfcehcaaa
namespace Go.Proofs.Ytipddhcfcehcaaa
open Go Go.RowKit Go.Maps Go.Shelf

mutual
/-- What a rule needs, by a book of the relations P. -/
def RT.pneeds (P : List (R2 × RT)) (typ : ByteArray) : RT → List R2
  | .mk k a b ps => (if k = 2 then [⟨typ, a⟩] else if k = 3 then ⟨typ, a⟩ :: (whereP P b).map fun n => ⟨n, b⟩ else []) ++ pneedsL P typ ps
def pneedsL (P : List (R2 × RT)) (typ : ByteArray) : List RT → List R2 | [] => [] | r :: rs => r.pneeds P typ ++ pneedsL P typ rs
end
end Go.Proofs.Ytipddhcfcehcaaa
namespace Go.Proofs.Ytipddhcfcehcaaa
open Go Go.RowKit Go.Maps Go.Shelf

/-- What a relation's rule needs. -/
def needsP (ts : List TyS) (r : R2) : List R2 := match lookA (refsOf ts) r with | none => [] | some rule => rule.pneeds (refsOf ts) r.t
end Go.Proofs.Ytipddhcfcehcaaa
namespace Go.Proofs.Ytipddhcfcehcaaa
open Go Go.RowKit Go.Maps Go.Shelf

/-- What a relation reaches. -/
inductive ReachP (ts : List TyS) (r : R2) : R2 → Prop where
  | self : ReachP ts r r
  | step {x y : R2} : ReachP ts r x → y ∈ needsP ts x → ReachP ts r y
/-- All that it may reach. -/
def univP (ts : List TyS) (r : R2) : List R2 := r :: (refsOf ts).flatMap fun x => x.2.pneeds (refsOf ts) x.1.t
theorem needs_univ {ts : List TyS} {x y : R2} (h : y ∈ needsP ts x) : ∃ rule, lookA (refsOf ts) x = some rule ∧ y ∈ rule.pneeds (refsOf ts) x.t := by
  unfold needsP at h
  split at h
  · cases h
  · rename_i rule hl
    exact ⟨rule, hl, h⟩
theorem reach_univ {ts : List TyS} {r x : R2} (h : ReachP ts r x) : x ∈ univP ts r := by
  cases h with
  | self => exact List.mem_cons_self
  | step h1 h2 =>
    obtain ⟨rule, hl, hy⟩ := needs_univ h2
    exact List.mem_cons_of_mem _ (List.mem_flatMap.2 ⟨_, look_mem hl, hy⟩)
theorem nodup_le {α : Type} : ∀ {l u : List α}, l.Nodup → (∀ x ∈ l, x ∈ u) → l.length ≤ u.length
  | [], _, _, _ => Nat.zero_le _
  | a :: l, u, hn, hs => by
    obtain ⟨p, q, rfl⟩ := List.append_of_mem (hs a List.mem_cons_self)
    rw [List.nodup_cons] at hn
    have h1 := nodup_le (l := l) (u := p ++ q) hn.2 fun x hx => by
      have h2 := hs x (List.mem_cons_of_mem _ hx)
      rcases List.mem_append.1 h2 with h3 | h3
      · exact List.mem_append_left _ h3
      · rcases List.mem_cons.1 h3 with h3 | h3
        · subst h3; exact absurd hx hn.1
        · exact List.mem_append_right _ h3
    simp only [List.length_cons, List.length_append] at h1 ⊢
    omega
/-- The work list's state. -/
structure ClI (ts : List TyS) (r : R2) (S l : List R2) : Prop where
  inS : ∀ x ∈ S, ReachP ts r x
  inL : ∀ x ∈ l, ReachP ts r x
  step : ∀ x ∈ S, ∀ y ∈ needsP ts x, y ∈ S ∨ y ∈ l
  start : r ∈ S ∨ r ∈ l
  len : l.length ≤ 1 + S.length * 4096
theorem ClI.done {ts : List TyS} {r : R2} {S : List R2} (h : ClI ts r S []) (x : R2) : x ∈ S ↔ ReachP ts r x := by
  refine ⟨h.inS x, fun hr => ?_⟩
  induction hr with
  | self => exact h.start.elim id (fun h => by cases h)
  | step _ h2 ih => exact (h.step _ ih _ h2).elim id (fun h => by cases h)
theorem ClI.skip {ts : List TyS} {r x : R2} {S l : List R2} (h : ClI ts r S (l ++ [x])) (hx : x ∈ S) : ClI ts r S l := by
  refine ⟨h.inS, fun y hy => h.inL y (List.mem_append_left _ hy), fun a ha y hy => ?_, ?_, ?_⟩
  · rcases h.step a ha y hy with h1 | h1
    · exact .inl h1
    · rcases List.mem_append.1 h1 with h1 | h1
      · exact .inr h1
      · rw [List.mem_singleton.1 h1]; exact .inl hx
  · rcases h.start with h1 | h1
    · exact .inl h1
    · rcases List.mem_append.1 h1 with h1 | h1
      · exact .inr h1
      · rw [List.mem_singleton.1 h1]; exact .inl hx
  · have := h.len
    rw [List.length_append] at this
    omega
theorem ClI.more {ts : List TyS} {r x : R2} {S l ss : List R2} (h : ClI ts r S (l ++ [x])) (hx : ¬ x ∈ S) (hs : ∀ y, y ∈ ss ↔ y ∈ needsP ts x) (hl : ss.length ≤ 4096) : ClI ts r (addR S x) (l ++ ss) := by
  have hxr := h.inL x (by simp)
  have hlen : (addR S x).length = S.length + 1 := by unfold addR; rw [if_neg hx]; simp
  refine ⟨fun y hy => ?_, fun y hy => ?_, fun a ha y hy => ?_, ?_, ?_⟩
  · rcases (addR_mem _ _ _).1 hy with h1 | rfl
    · exact h.inS y h1
    · exact hxr
  · rcases List.mem_append.1 hy with h1 | h1
    · exact h.inL y (List.mem_append_left _ h1)
    · exact .step hxr ((hs y).1 h1)
  · rcases (addR_mem _ _ _).1 ha with h1 | rfl
    · rcases h.step a h1 y hy with h2 | h2
      · exact .inl ((addR_mem _ _ _).2 (.inl h2))
      · rcases List.mem_append.1 h2 with h2 | h2
        · exact .inr (List.mem_append_left _ h2)
        · exact .inl ((addR_mem _ _ _).2 (.inr (List.mem_singleton.1 h2)))
    · exact .inr (List.mem_append_right _ ((hs y).2 hy))
  · rcases h.start with h1 | h1
    · exact .inl ((addR_mem _ _ _).2 (.inl h1))
    · rcases List.mem_append.1 h1 with h1 | h1
      · exact .inr (List.mem_append_left _ h1)
      · exact .inl ((addR_mem _ _ _).2 (.inr (List.mem_singleton.1 h1)))
  · have := h.len
    rw [List.length_append] at this ⊢
    rw [hlen]
    simp only [List.length_cons, List.length_nil] at this
    omega
end Go.Proofs.Ytipddhcfcehcaaa
namespace Go.Proofs.Ytipddhcfcehcaaa
open Go Go.RowKit Go.Maps Go.Shelf

mutual
/-- Can a rule's relation have members, when those of S can? -/
def RT.pcan (P : List (R2 × RT)) (S : List R2) (typ : ByteArray) : RT → Bool
  | .mk k a b ps => if k = 1 then true else if k = 2 then decide ((⟨typ, a⟩ : R2) ∈ S) else if k = 3 then decide ((⟨typ, a⟩ : R2) ∈ S) && (whereP P b).any fun n => decide ((⟨n, b⟩ : R2) ∈ S) else if k = 4 then pcanN P S typ ps || decide (ps.length = 0) else pcanL P S typ ps
def pcanN (P : List (R2 × RT)) (S : List R2) (typ : ByteArray) : List RT → Bool | [] => false | r :: rs => r.pcan P S typ || pcanN P S typ rs
def pcanL (P : List (R2 × RT)) (S : List R2) (typ : ByteArray) : List RT → Bool | [] => true | r :: rs => r.pcan P S typ && pcanL P S typ rs
end
theorem pcanN_eq (P : List (R2 × RT)) (S : List R2) (typ : ByteArray) : ∀ l : List RT, pcanN P S typ l = l.any fun r => r.pcan P S typ
  | [] => rfl
  | r :: rs => by rw [pcanN, List.any_cons, pcanN_eq P S typ rs]
theorem pcanL_eq (P : List (R2 × RT)) (S : List R2) (typ : ByteArray) : ∀ l : List RT, pcanL P S typ l = l.all fun r => r.pcan P S typ
  | [] => rfl
  | r :: rs => by rw [pcanL, List.all_cons, pcanL_eq P S typ rs]
end Go.Proofs.Ytipddhcfcehcaaa
namespace Go.Proofs.Ytipddhcfcehcaaa
open Go Go.RowKit Go.Maps Go.Shelf

theorem pcan_mono (P : List (R2 × RT)) {S T : List R2} (h : ∀ x ∈ S, x ∈ T) (typ : ByteArray) (r : RT) : r.pcan P S typ = true → r.pcan P T typ = true := by
  induction r using RT.ind with
  | h r ih =>
    obtain ⟨k, a, b, ps⟩ := r
    dsimp only [RT.ps] at ih
    rw [RT.pcan, RT.pcan, pcanN_eq, pcanL_eq, pcanN_eq, pcanL_eq]
    intro hc
    split
    · rfl
    · rename_i h1
      rw [if_neg h1] at hc
      split
      · rename_i h2
        rw [if_pos h2] at hc
        exact decide_eq_true (h _ (of_decide_eq_true hc))
      · rename_i h2
        rw [if_neg h2] at hc
        split
        · rename_i h3
          rw [if_pos h3, Bool.and_eq_true, List.any_eq_true] at hc
          obtain ⟨hc1, n, hn, hc2⟩ := hc
          rw [Bool.and_eq_true, List.any_eq_true]
          exact ⟨decide_eq_true (h _ (of_decide_eq_true hc1)), n, hn, decide_eq_true (h _ (of_decide_eq_true hc2))⟩
        · rename_i h3
          rw [if_neg h3] at hc
          split
          · rename_i h4
            rw [if_pos h4, Bool.or_eq_true, List.any_eq_true] at hc
            rw [Bool.or_eq_true, List.any_eq_true]
            rcases hc with ⟨p, hp, hc⟩ | hc
            · exact .inl ⟨p, hp, ih p hp hc⟩
            · exact .inr hc
          · rename_i h4
            rw [if_neg h4, List.all_eq_true] at hc
            rw [List.all_eq_true]
            exact fun p hp => ih p hp (hc p hp)
/-- Closed under what can have members. -/
def ClosedP (ts : List TyS) (S : List R2) : Prop := ∀ x r, (x, r) ∈ refsOf ts → r.pcan (refsOf ts) S x.t = true → x ∈ S
/-- Within each closed set. -/
structure LeastP (ts : List TyS) (S : List R2) : Prop where
  sub : ∀ x ∈ S, x ∈ (refsOf ts).map (·.1)
  least : ∀ T, ClosedP ts T → ∀ x ∈ S, x ∈ T
theorem LeastP.nil (ts : List TyS) : LeastP ts [] := ⟨by simp, by simp⟩
theorem LeastP.add {ts : List TyS} {S : List R2} (h : LeastP ts S) {x : R2} {r : RT} (hx : (x, r) ∈ refsOf ts) (hc : r.pcan (refsOf ts) S x.t = true) : LeastP ts (addR S x) := by
  refine ⟨fun y hy => ?_, fun T hT y hy => ?_⟩
  · rcases (addR_mem _ _ _).1 hy with h1 | rfl
    · exact h.sub y h1
    · exact List.mem_map.2 ⟨_, hx, rfl⟩
  · rcases (addR_mem _ _ _).1 hy with h1 | rfl
    · exact h.least T hT y h1
    · exact hT _ r hx (pcan_mono _ (fun z hz => h.least T hT z hz) _ r hc)
theorem LeastP.len {ts : List TyS} {S : List R2} (h : LeastP ts S) (hn : S.Nodup) : S.length ≤ (refsOf ts).length := by
  have := nodup_le hn h.sub
  rwa [List.length_map] at this
theorem refs_okk {ts : List TyS} (h : ∀ t ∈ ts, t.Ok) {x : R2} {r : RT} (hx : (x, r) ∈ refsOf ts) : x.Ok ∧ r.Ok := by
  obtain ⟨t, ht, y, hy, e⟩ := refs_mem.1 hx
  injection e with e1 e2
  have h1 := h t ht
  have h2 := h1.2 y hy
  have h3 := h1.1
  have h4 := h2.1
  subst e1 e2
  refine ⟨⟨?_, ?_⟩, h2.2⟩ <;> unfold maxLen <;> dsimp only <;> omega

end Go.Proofs.Ytipddhcfcehcaaa
namespace Go.Proofs.Ytipddhcfcehcaaa
open Go Go.RowKit Go.Maps

def docB : ByteArray := ⟨#[100, 111, 99]⟩
/-- A plain line, by reckoning. -/
def lnOkB (s : ByteArray) (it : PIt) : Bool := decide (s.size ≤ 65536) && (decide (2 ≤ s.size) && (!(s.data.toList.head? == some 32) && (!(s.data.toList.head? == some 9) && (!(decide (s.extract 0 2 = ⟨#[47, 47]⟩)) && (s.data.toList.all plainC && decide (toksD s = it.toks))))))
theorem lnOk_of {s : ByteArray} {it : PIt} (h : lnOkB s it = true) : LnOk s it := by
  unfold lnOkB at h
  simp only [Bool.and_eq_true, decide_eq_true_eq, Bool.not_eq_true', decide_eq_false_iff_not] at h
  obtain ⟨h1, h2, h3, h4, h5, h6, h7⟩ := h
  have hhd : ∀ hp : 0 < s.size, s.data.toList.head? = some s[0] := fun hp => by
    rw [List.head?_eq_getElem?, List.getElem?_eq_getElem (by simpa using hp)]
    rfl
  refine ⟨h1, h2, fun hp => ⟨fun e => ?_, fun e => ?_⟩, h5, fun j hj => ?_, h7⟩
  · rw [hhd hp, e] at h3; exact absurd h3 (by decide)
  · rw [hhd hp, e] at h4; exact absurd h4 (by decide)
  · rw [List.all_eq_true] at h6
    exact h6 _ (by
      have : s[j] = s.data.toList[j]'(by simpa using hj) := rfl
      rw [this]; exact List.getElem_mem _)
theorem lnsOk_of {ls : List ByteArray} {its : List PIt} (h : (ls.zip its).all (fun p => lnOkB p.1 p.2) = true) : ∀ i (hi : i < its.length) (hj : i < ls.length), LnOk ls[i] its[i] := fun i hi hj => by
  rw [List.all_eq_true] at h
  have hz : i < (ls.zip its).length := by rw [List.length_zip]; omega
  have := h _ (List.getElem_mem hz)
  rw [List.getElem_zip] at this
  exact lnOk_of this
def PIt.fitB : PIt → Bool
  | .ty n => isNm n && decide (n ≠ ⟨#[116, 104, 105, 115]⟩)
  | .rel n x ys => isNm n && (decide (n ≠ ⟨#[116, 104, 105, 115]⟩) && (decide (n ≠ ⟨#[116, 121, 112, 101]⟩) && ((x :: ys).all isNm && decide (ys.length ≤ 100000))))
theorem fits_of {its : List PIt} (h : its.all PIt.fitB = true) : ∀ it ∈ its, it.Fit := fun it hit => by
  rw [List.all_eq_true] at h
  have := h it hit
  cases it with
  | ty n =>
    simp only [PIt.fitB, Bool.and_eq_true, decide_eq_true_eq] at this
    exact this
  | rel n x ys =>
    simp only [PIt.fitB, Bool.and_eq_true, decide_eq_true_eq] at this
    obtain ⟨h1, h2, h3, h4, h5⟩ := this
    exact ⟨h1, h2, h3, fun z hz => (List.all_eq_true.1 h4) z hz, h5⟩
/-- Rows in order with the same members are the same. -/
theorem UpR.eq : ∀ {a b : List R2}, UpR a → UpR b → (∀ x, x ∈ a ↔ x ∈ b) → a = b
  | [], [], _, _, _ => rfl
  | [], y :: b, _, _, h => absurd ((h y).2 List.mem_cons_self) (by simp)
  | x :: a, [], _, _, h => absurd ((h x).1 List.mem_cons_self) (by simp)
  | x :: a, y :: b, ha, hb, h => by
    have ha' := List.pairwise_cons.1 ha
    have hb' := List.pairwise_cons.1 hb
    have hxy : x = y := by
      rcases List.mem_cons.1 ((h x).1 List.mem_cons_self) with e | hx
      · exact e
      · rcases List.mem_cons.1 ((h y).2 List.mem_cons_self) with e | hy
        · exact e.symm
        · have := ltR_trans (ha'.1 y hy) (hb'.1 x hx)
          rw [ltR_irr] at this; cases this
    subst hxy
    refine congrArg _ (UpR.eq ha'.2 hb'.2 fun z => ?_)
    constructor
    · intro hz
      rcases List.mem_cons.1 ((h z).1 (List.mem_cons_of_mem _ hz)) with e | h1
      · subst e; have := ha'.1 z hz; rw [ltR_irr] at this; cases this
      · exact h1
    · intro hz
      rcases List.mem_cons.1 ((h z).2 (List.mem_cons_of_mem _ hz)) with e | h1
      · subst e; have := hb'.1 z hz; rw [ltR_irr] at this; cases this
      · exact h1
end Go.Proofs.Ytipddhcfcehcaaa
namespace Go.Proofs.Ytipddhcfcehcaaa
open Go Go.RowKit

/-- A change. -/
structure Ch where
  kind : Int
  ref : R2
deriving DecidableEq
instance : Inhabited Ch := ⟨⟨0, ⟨ByteArray.empty, ByteArray.empty⟩⟩⟩
def chV (c : Ch) : Value := .agg #[.int .i64 c.kind, .string c.ref.t, .string c.ref.r]
def chC (c : Ch) : List Value := [.int .i64 c.kind, .string c.ref.t, .string c.ref.r]
def chcs (l : List Ch) : List Value := l.flatMap chC
theorem chC_length (c : Ch) : (chC c).length = 3 := rfl
theorem chC_one (c : Ch) : ∀ u ∈ chC c, u.oneCell' = true := by
  intro u hu
  simp only [chC, List.mem_cons, List.not_mem_nil, or_false] at hu
  rcases hu with rfl | rfl | rfl <;> rfl
theorem chcs_length (l : List Ch) : (chcs l).length = l.length * 3 := flat_length chC_length l
theorem chcs_append (a b : List Ch) : chcs (a ++ b) = chcs a ++ chcs b := by unfold chcs; rw [List.flatMap_append]
theorem chcs_one (l : List Ch) : ∀ u ∈ chcs l, u.oneCell' = true := by
  intro u hu
  obtain ⟨c, _, hc⟩ := List.mem_flatMap.1 hu
  exact chC_one c u hc
theorem chT : ElemT Try.prog 50 63 3 40 := ElemT.mk' Try.underlying50 (show _ = some (some (.agg #[.int .i64 0, .string ByteArray.empty, .string ByteArray.empty]), 3, 40) by kernel_rfl) rfl (by decide)
def ordC (a b : Ch) : Int := ordR a.ref b.ref

set_option maxRecDepth 100000 in
set_option maxHeartbeats 1600000 in
theorem orderC_any (a b : Ch) (w : World) : Calls Try.prog 39 #[chV a, chV b] w (fun e w' => e = .returned (.int .i64 (ordC a b)) ∧ Gr w w') := by
  obtain ⟨ak, at_, ar⟩ := a
  obtain ⟨bk, bt, br⟩ := b
  unfold chV ordC
  dsimp only
  have hA := (Blk.made w #[.int .i64 ak, .string at_, .string ar] 63).alloc (.cells #[.int .i64 bk, .string bt, .string br] 63)
  have hB := Blk.made' (w := w.alloc (.cells #[.int .i64 ak, .string at_, .string ar] 63)) (B := w.heap.size + 1) (by simp) #[.int .i64 bk, .string bt, .string br] 63
  have hb0 : Gr w ((w.alloc (.cells #[.int .i64 ak, .string at_, .string ar] 63)).alloc (.cells #[.int .i64 bk, .string bt, .string br] 63)) := ((Gr.refl _).alloc _).alloc _
  go_enter Try.func39, Try.ntmps39
  go_wp2_with fail
  obtain ⟨wd, hwd⟩ : ∃ wd, wd = ((w.alloc (.cells #[.int .i64 ak, .string at_, .string ar] 63)).alloc (.cells #[.int .i64 bk, .string bt, .string br] 63)).drew := ⟨_, rfl⟩
  have hAd := hA.drew
  have hBd := hB.drew
  have hbd := hb0.drew
  rw [← hwd] at hAd hBd hbd
  refine region_walkN (Ext wd) (by rw [← hwd]; exact Ext.refl _) (by kernel_rfl) (by kernel_rfl) (fun _ _ d _ _ h => by cases d <;> exact h) ?_
  rw [← hwd]
  clear hwd hA hB hb0
  have h1 : ∀ W, Ext wd W → ∀ i, W.cell? ⟨w.heap.size, i, none⟩ = (#[.int .i64 ak, .string at_, .string ar] : Array Value)[i]? := fun W h => (hAd.below h).cells
  have h2 : ∀ W, Ext wd W → ∀ i, W.cell? ⟨w.heap.size + 1, i, none⟩ = (#[.int .i64 bk, .string bt, .string br] : Array Value)[i]? := fun W h => (hBd.below h).cells
  ((refine WalkN.take 0 _ ?_ (by simp only [List.getElem?_toArray, List.getElem?_cons_zero]; rfl) (by kernel_rfl) (by kernel_rfl) (by rfl) (fun W hW => ?_) ?_; rotate_left; · (go_simp; try with_reducible rfl)); simp only [Act.put, List.setIfInBounds_toArray, List.set_cons_zero, List.set_cons_succ]); ((refine WalkN.take 1 _ ?_ (by simp only [List.getElem?_toArray, List.getElem?_cons_succ, List.getElem?_cons_zero]; rfl) (by kernel_rfl) (by kernel_rfl) (by rfl) (fun W hW => ?_) ?_; rotate_left; · (go_simp; try with_reducible rfl)); simp only [Act.put, List.setIfInBounds_toArray, List.set_cons_zero, List.set_cons_succ]); ((refine WalkN.take 2 _ ?_ (by simp only [List.getElem?_toArray, List.getElem?_cons_succ, List.getElem?_cons_zero]; rfl) (by kernel_rfl) (by kernel_rfl) (by rfl) (fun W hW => ?_) ?_; rotate_left; · (go_simp; try with_reducible rfl)); simp only [Act.put, List.setIfInBounds_toArray, List.set_cons_zero, List.set_cons_succ]); ((refine WalkN.take 3 _ ?_ (by simp only [List.getElem?_toArray, List.getElem?_cons_succ, List.getElem?_cons_zero]; rfl) (by kernel_rfl) (by kernel_rfl) (by rfl) (fun W hW => ?_) ?_; rotate_left; · (go_simp; try with_reducible rfl)); simp only [Act.put, List.setIfInBounds_toArray, List.set_cons_zero, List.set_cons_succ]); ((refine WalkN.take 4 _ ?_ (by simp only [List.getElem?_toArray, List.getElem?_cons_succ, List.getElem?_cons_zero]; rfl) (by kernel_rfl) (by kernel_rfl) (by rfl) (fun W hW => ?_) ?_; rotate_left; · (go_simp; try with_reducible rfl)); simp only [Act.put, List.setIfInBounds_toArray, List.set_cons_zero, List.set_cons_succ]); ((refine WalkN.take 5 _ ?_ (by simp only [List.getElem?_toArray, List.getElem?_cons_succ, List.getElem?_cons_zero]; rfl) (by kernel_rfl) (by kernel_rfl) (by rfl) (fun W hW => ?_) ?_; rotate_left; · (go_simp; try with_reducible rfl)); simp only [Act.put, List.setIfInBounds_toArray, List.set_cons_zero, List.set_cons_succ]); ((refine WalkN.take 7 _ ?_ (by simp only [List.getElem?_toArray, List.getElem?_cons_succ, List.getElem?_cons_zero]; rfl) (by kernel_rfl) (by kernel_rfl) (by rfl) (fun W hW => ?_) ?_; rotate_left; · (go_simp; try with_reducible rfl)); simp only [Act.put, List.setIfInBounds_toArray, List.set_cons_zero, List.set_cons_succ]); ((refine WalkN.take 8 _ ?_ (by simp only [List.getElem?_toArray, List.getElem?_cons_succ, List.getElem?_cons_zero]; rfl) (by kernel_rfl) (by kernel_rfl) (by rfl) (fun W hW => ?_) ?_; rotate_left; · (go_simp; try with_reducible rfl)); simp only [Act.put, List.setIfInBounds_toArray, List.set_cons_zero, List.set_cons_succ]); ((refine WalkN.take 9 _ ?_ (by simp only [List.getElem?_toArray, List.getElem?_cons_succ, List.getElem?_cons_zero]; rfl) (by kernel_rfl) (by kernel_rfl) (by rfl) (fun W hW => ?_) ?_; rotate_left; · (go_simp; try with_reducible rfl)); simp only [Act.put, List.setIfInBounds_toArray, List.set_cons_zero, List.set_cons_succ]); ((refine WalkN.take 10 _ ?_ (by simp only [List.getElem?_toArray, List.getElem?_cons_succ, List.getElem?_cons_zero]; rfl) (by kernel_rfl) (by kernel_rfl) (by rfl) (fun W hW => ?_) ?_; rotate_left; · (go_simp; try with_reducible rfl)); simp only [Act.put, List.setIfInBounds_toArray, List.set_cons_zero, List.set_cons_succ]); ((refine WalkN.take 11 _ ?_ (by simp only [List.getElem?_toArray, List.getElem?_cons_succ, List.getElem?_cons_zero]; rfl) (by kernel_rfl) (by kernel_rfl) (by rfl) (fun W hW => ?_) ?_; rotate_left; · (go_simp; try with_reducible rfl)); simp only [Act.put, List.setIfInBounds_toArray, List.set_cons_zero, List.set_cons_succ]); ((refine WalkN.take 12 _ ?_ (by simp only [List.getElem?_toArray, List.getElem?_cons_succ, List.getElem?_cons_zero]; rfl) (by kernel_rfl) (by kernel_rfl) (by rfl) (fun W hW => ?_) ?_; rotate_left; · (go_simp; try with_reducible rfl)); simp only [Act.put, List.setIfInBounds_toArray, List.set_cons_zero, List.set_cons_succ])
  clear h1 h2
  have HP1 := Lib.hid (cmpS_any at_ bt wd)
  refine WalkN.one 6 (by kernel_rfl) ?_
  refine ⟨_, (by simp only [List.getElem?_toArray, List.getElem?_cons_succ, List.getElem?_cons_zero]; rfl), by rfl, fun K hK => ?_⟩
  go_simp
  refine HP1.out.mono ?_
  rintro e w1 ⟨rfl, rfl⟩
  refine hK.out _ _ (Ext.refl _) ?_
  clear hK HP1
  have HP2 := Lib.hid (cmpS_any ar br wd)
  refine WalkN.one 13 (by kernel_rfl) ?_
  refine ⟨_, (by simp only [List.getElem?_toArray, List.getElem?_cons_succ, List.getElem?_cons_zero]; rfl), by rfl, fun K hK => ?_⟩
  go_simp
  refine HP2.out.mono ?_
  rintro e w1 ⟨rfl, rfl⟩
  refine hK.out _ _ (Ext.refl _) ?_
  clear hK HP2
  refine WalkN.one 14 (by kernel_rfl) ?_
  refine ⟨_, (by simp only [List.getElem?_toArray, List.getElem?_cons_succ, List.getElem?_cons_zero]; rfl), by rfl, fun K hK => ?_⟩
  go_simp
  have hE : Ext wd (wd.alloc (.cells #[.int .i64 (cmpS at_ bt), .int .i64 (cmpS ar br)] 3)) := Ext.alloc _ _
  have hl : Sl (fun b => b = wd.heap.size) (wd.alloc (.cells #[.int .i64 (cmpS at_ bt), .int .i64 (cmpS ar br)] 3)) 1 (.slice (some ⟨wd.heap.size, 0, none⟩) 2 2) (icL [cmpS at_ bt, cmpS ar br]) := Sl.made wd _ 1 2 _ _ rfl (by decide) rfl
  refine hK.out _ _ hE ?_
  clear hK
  have HP4 := Lib.hid (orL_any _ _ _ _ hl)
  have hbe := hbd.alloc (.cells #[.int .i64 (cmpS at_ bt), .int .i64 (cmpS ar br)] 3)
  refine WalkN.one 15 (by kernel_rfl) ?_
  refine ⟨_, (by simp only [List.getElem?_toArray, List.getElem?_cons_succ, List.getElem?_cons_zero]; rfl), by rfl, fun K hK => ?_⟩
  go_simp
  refine HP4.out.mono ?_
  rintro e w1 ⟨rfl, rfl⟩
  refine hK.out _ _ hE ?_
  clear hK HP4
  ((refine WalkN.take 16 _ ?_ (by simp only [List.getElem?_toArray, List.getElem?_cons_succ, List.getElem?_cons_zero]; rfl) (by kernel_rfl) (by kernel_rfl) (by rfl) (fun W hW => ?_) ?_; rotate_left; · (go_simp; try with_reducible rfl)); simp only [Act.put, List.setIfInBounds_toArray, List.set_cons_zero, List.set_cons_succ])
  refine WalkN.done (by kernel_rfl) ?_
  go_wp2
  go_ret
  exact ⟨rfl, hbe⟩

theorem lt_ordC (a b : Ch) : Go.Proofs.ltOf ordC a b = ltR a.ref b.ref := by rw [← lt_ordR]; rfl
theorem swoC : Go.Sort.SWO (Go.Proofs.ltOf ordC) where
  irrefl x := by rw [lt_ordC]; exact ltR_irr x.ref
  trans x y z h k := by rw [lt_ordC] at *; exact ltR_trans h k
  ntrans x y z h k := by
    rw [lt_ordC] at *
    cases hxz : ltR x.ref z.ref with
    | false => rfl
    | true =>
      by_cases e1 : x.ref = y.ref
      · rw [← e1, hxz] at k; cases k
      · have h1 := ltR_total h e1
        have h2 := ltR_trans h1 hxz
        rw [h2] at k
        cases k
/-- Changes in order, each of another relation. -/
def UpC (l : List Ch) : Prop := l.Pairwise fun a b => ltR a.ref b.ref = true
theorem upC_sorted {l : List Ch} (hs : l.Pairwise fun a b => Go.Proofs.ltOf ordC b a = false) (hn : (l.map (·.ref)).Nodup) : UpC l := by
  refine List.pairwise_iff_getElem.2 fun i j hi hj hij => ?_
  have h1 := List.pairwise_iff_getElem.1 hs i j hi hj hij
  have h2 := List.pairwise_iff_getElem.1 hn i j (by simpa using hi) (by simpa using hj) hij
  rw [lt_ordC] at h1
  exact ltR_total h1 (fun e => h2 (by simpa using e.symm))
theorem sortC_any {w : World} {B : Nat} {v : Value} {l : List Ch} (h : Own w B 63 3 v (chcs l)) (hl : l.length < 4611686018427387904) (hn : (l.map (·.ref)).Nodup) :
    Calls Try.prog 38 #[v, .func (.func 39) #[] #[]] w fun e w' => e = .returned (.tuple #[]) ∧ ∃ l' : List Ch, l'.Perm l ∧ UpC l' ∧ Own w' B 63 3 v (chcs l') ∧ Kept (fun b => b < w.heap.size ∧ v.ownBlock ≠ some b) w w' := by
  refine Calls.mono (sort_own Try.sortC chC 3 chC_length (by decide) chC_one Try.isAgg63 Try.sizeOf63 ordC swoC 39 #[] (enters_of Try.func39 (by kernel_rfl) rfl) (fun W x y => orderC_any x y W) h hl) ?_
  rintro e w' ⟨rfl, l', hp, hs, ho, hk⟩
  exact ⟨rfl, l', hp, upC_sorted hs ((hp.map _).nodup_iff.2 hn), ho, hk⟩
theorem UpC.eq : ∀ {a b : List Ch}, UpC a → UpC b → (∀ x, x ∈ a ↔ x ∈ b) → a = b
  | [], [], _, _, _ => rfl
  | [], y :: b, _, _, h => absurd ((h y).2 List.mem_cons_self) (by simp)
  | x :: a, [], _, _, h => absurd ((h x).1 List.mem_cons_self) (by simp)
  | x :: a, y :: b, ha, hb, h => by
    have ha' := List.pairwise_cons.1 ha
    have hb' := List.pairwise_cons.1 hb
    have hxy : x = y := by
      rcases List.mem_cons.1 ((h x).1 List.mem_cons_self) with e | hx
      · exact e
      · rcases List.mem_cons.1 ((h y).2 List.mem_cons_self) with e | hy
        · exact e.symm
        · have := ltR_trans (ha'.1 y hy) (hb'.1 x hx)
          rw [ltR_irr] at this; cases this
    subst hxy
    refine congrArg _ (UpC.eq ha'.2 hb'.2 fun z => ?_)
    constructor
    · intro hz
      rcases List.mem_cons.1 ((h z).1 (List.mem_cons_of_mem _ hz)) with e | h1
      · subst e; have := ha'.1 z hz; rw [ltR_irr] at this; cases this
      · exact h1
    · intro hz
      rcases List.mem_cons.1 ((h z).2 (List.mem_cons_of_mem _ hz)) with e | h1
      · subst e; have := hb'.1 z hz; rw [ltR_irr] at this; cases this
      · exact h1

/-- The schema of one rule, by which diff writes it. -/
def oneS (r : RT) : List TyS := [⟨⟨#[120]⟩, [(⟨#[120]⟩, r)]⟩]
/-- A rule's text, as diff has it. -/
def dtext (r : RT) : ByteArray := schT (oneS r)
theorem one_print (r : RT) : printOk (oneS r) = r.textOk 0 := by
  unfold oneS printOk tyOk
  rw [List.all_cons, List.all_nil, List.all_cons, List.all_nil]
  unfold relOk
  rw [show ownB ⟨#[120]⟩ = true from by kernel_rfl, show decide ((⟨#[120]⟩ : ByteArray) ≠ ⟨#[116, 121, 112, 101]⟩) = true from by kernel_rfl]
  simp
theorem dtext_inj {r q : RT} (h : r.textOk 0 = true) (h' : q.textOk 0 = true) (ht : dtext r = dtext q) : r = q := by
  unfold dtext oneS schT tyT relsT relT at ht
  simp only [schT, relsT] at ht
  have h2 := congrArg TL ht
  simp only [TL_append, List.append_assoc] at h2
  have h3 := List.append_cancel_left (List.append_cancel_left (List.append_cancel_left (List.append_cancel_left (List.append_cancel_left h2))))
  exact ((all_levels r.sz r (Nat.le_refl _)).2.1 q 0 0 _ _ h h' (.inr ⟨_, .inr rfl⟩) (.inr ⟨_, .inr rfl⟩) h3).1

set_option maxRecDepth 100000 in
set_option maxHeartbeats 800000 in
theorem dtext_any (r : RT) (pv : Value) (w : World) (h : RTAt (· < w.heap.size) w r pv) (ht : r.textOk 0 = true) (hw : r.wt ≤ 500000000) : Calls Try.prog 63 #[rV r pv] w fun e w' => e = .returned (.string (dtext r)) ∧ Ext w w' := by
  obtain ⟨ao, c, rfl, -, -, -⟩ := h.rows
  obtain ⟨wa, hwa⟩ : ∃ x, x = w.alloc (.cells #[.int .i64 r.k, .string r.a, .string r.b, .slice ao r.ps.length c] 72) := ⟨_, rfl⟩
  obtain ⟨wb, hwb⟩ : ∃ x, x = wa.alloc (.cells #[.string ⟨#[120]⟩, .int .i64 r.k, .string r.a, .string r.b, .slice ao r.ps.length c] 82) := ⟨_, rfl⟩
  obtain ⟨wc, hwc⟩ : ∃ x, x = wb.alloc (.cells #[.string ⟨#[120]⟩, .slice (some ⟨w.heap.size + 1, 0, none⟩) 1 1] 49) := ⟨_, rfl⟩
  have xa : Ext w wa := by rw [hwa]; exact Ext.alloc _ _
  have xb : Ext wa wb := by rw [hwb]; exact Ext.alloc _ _
  have xc : Ext wb wc := by rw [hwc]; exact Ext.alloc _ _
  have ea : wa.heap.size = w.heap.size + 1 := by rw [hwa]; simp
  have eb : wb.heap.size = w.heap.size + 1 + 1 := by rw [hwb]; simp [ea]
  have s1 := (Own.lit wa (Nat.zero_le _) 82 5 1 #[.string ⟨#[120]⟩, .int .i64 r.k, .string r.a, .string r.b, .slice ao r.ps.length c] rfl (by decide) (by decide)).sl
  rw [← hwb, ea] at s1
  have s2 := (Own.lit wb (Nat.zero_le _) 49 2 1 #[.string ⟨#[120]⟩, .slice (some ⟨w.heap.size + 1, 0, none⟩) 1 1] rfl (by decide) (by decide)).sl
  rw [← hwc, eb] at s2
  have HTY := Lib.hid (show TysAt (· < wc.heap.size) wc (oneS r) (.slice (some ⟨w.heap.size + 1 + 1, 0, none⟩) 1 1) from ⟨[(⟨⟨#[120]⟩, [(⟨#[120]⟩, r)]⟩, .slice (some ⟨w.heap.size + 1, 0, none⟩) 1 1)], rfl, fun x hx => by
    rw [List.mem_singleton.1 hx]
    exact ⟨[((⟨#[120]⟩, r), .slice ao r.ps.length c)], rfl, fun y hy => by
      rw [List.mem_singleton.1 hy]
      exact h.up (xa.trans (xb.trans xc)), (s1.same fun b hb => xc.block b hb.2).mono fun b hb => Nat.lt_of_lt_of_le hb.2 xc.size⟩, s2.mono fun b hb => hb.2⟩)
  have HX := Lib.hid (show Ext w wc from xa.trans (xb.trans xc))
  have HP := Lib.hid (wprint_any (oneS r) _ wc HTY.out (by simp only [oneS, schB, relB]; have h0 : (⟨#[120]⟩ : ByteArray).size = 1 := rfl; omega))
  rw [one_print, ht] at HP
  have ra := (Blk.made w #[.int .i64 r.k, .string r.a, .string r.b, .slice ao r.ps.length c] 72).cells
  clear s1 s2 xa xb xc ea eb h hw ht HTY
  subst hwc hwb hwa
  unfold rV
  go_enter Try.func63, Try.ntmps63
  go_wp2_with fail
  refine HP.out.mono ?_
  rintro e w1 ⟨rfl, hb1⟩
  have HB1 := Lib.hid (show Ext w w1 from HX.out.trans hb1)
  clear hb1 HP ra
  go_wp2_with fail
  go_ret
  exact ⟨rfl, HB1.out⟩

end Go.Proofs.Ytipddhcfcehcaaa
