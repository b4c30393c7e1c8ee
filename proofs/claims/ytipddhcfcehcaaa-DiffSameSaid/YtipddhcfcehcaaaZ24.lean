/- The walk of sorted. The walk of need. The walks of Needs and Closure. The walk of Closure. The walk of can. The walk of Barren. The fixed schema: what its text is, plainly. No condition: lemmas. -/
import Derived.Test.YtipddhcfcehcaaaZ23
import Derived.Test.YtipddhcfcehcaaaZ13
import Derived.Test.YtipddhcfcehcaaaZ20
namespace Go.Proofs.Ytipddhcfcehcaaa
open Go Go.RowKit Go.Maps Go.Shelf

end Go.Proofs.Ytipddhcfcehcaaa
namespace Go.Proofs.Ytipddhcfcehcaaa
open Go Go.RowKit Go.Maps Go.Shelf

mutual
/-- What a rule needs, by a book of the relations P. -/
def RT.pneeds (P : List (R2 × RT)) (typ : ByteArray) : RT → List R2
  | .mk k a b ps => (if k = 2 then [⟨typ, a⟩] else if k = 3 then ⟨typ, a⟩ :: (whereP P b).map fun n => ⟨n, b⟩ else []) ++ pneedsL P typ ps
def pneedsL (P : List (R2 × RT)) (typ : ByteArray) : List RT → List R2 | [] => [] | r :: rs => r.pneeds P typ ++ pneedsL P typ rs
end
theorem pneedsL_eq (P : List (R2 × RT)) (typ : ByteArray) : ∀ l : List RT, pneedsL P typ l = l.flatMap fun r => r.pneeds P typ
  | [] => rfl
  | r :: rs => by rw [pneedsL, List.flatMap_cons, pneedsL_eq P typ rs]
theorem pneedsL_take (P : List (R2 × RT)) (typ : ByteArray) {l : List RT} {i : Nat} (hi : i < l.length) : pneedsL P typ (l.take (i + 1)) = pneedsL P typ (l.take i) ++ l[i].pneeds P typ := by
  rw [List.take_succ_eq_append_getElem hi, pneedsL_eq, pneedsL_eq, List.flatMap_append]
  simp only [List.flatMap_cons, List.flatMap_nil, List.append_nil]
theorem where_ok {ts : List TyS} (h : ∀ t ∈ ts, t.Ok) (b : ByteArray) : ∀ n ∈ whereP (refsOf ts) b, n.size ≤ maxLen := by
  intro n hn
  obtain ⟨x, hx, rfl⟩ := List.mem_map.1 hn
  obtain ⟨t, ht, r, hr, rfl⟩ := refs_mem.1 (List.mem_filter.1 hx).1
  have := (h t ht).1
  show t.name.size ≤ maxLen
  unfold maxLen
  omega
theorem BkW.lookF {w : World} {B b3 : Nat} {P : List (R2 × RT)} (h : BkW w B b3 P) (n : ByteArray) (hn : n.size ≤ maxLen) : ∃ v, Own w B 9 1 v (txs (whereP P n)) ∧ ∀ W, Below w.heap.size w W → (Instr.lookup 115 (.map (some b3)) (.string n) false).run Try.prog W = .ok v W := by
  obtain ⟨v, -, hov, lw, hM, -, -, hl⟩ := h.look n hn
  refine ⟨v, hov, fun W hW => ?_⟩
  have := (hM.below hW).look strK strV_inj Try.underlying115 (Try.zeroValue36 W) false (str_key n hn)
  rw [this]
  rcases hl with hl | ⟨hl, _, rfl⟩ <;> rw [hl] <;> rfl

end Go.Proofs.Ytipddhcfcehcaaa
namespace Go.Proofs.Ytipddhcfcehcaaa
open Go Go.RowKit Go.Maps Go.Shelf

/-- What a relation's rule needs. -/
def needsP (ts : List TyS) (r : R2) : List R2 := match lookA (refsOf ts) r with | none => [] | some rule => rule.pneeds (refsOf ts) r.t
theorem foldR_mem (l : List R2) : ∀ (S : List R2) (x : R2), x ∈ l.foldl addR S ↔ x ∈ S ∨ x ∈ l := by
  induction l with
  | nil => intro S x; simp
  | cons a l ih => intro S x; rw [List.foldl_cons, ih, addR_mem, List.mem_cons, or_assoc]
theorem foldR_len (l : List R2) : ∀ S : List R2, (l.foldl addR S).length ≤ S.length + l.length := by
  induction l with
  | nil => intro S; simp
  | cons a l ih =>
    intro S
    rw [List.foldl_cons]
    have h1 := ih (addR S a)
    have h2 := addR_len S a
    simp only [List.length_cons]
    omega
theorem BkR.lookF {S : Nat → Prop} {w : World} {b1 : Nat} {P : List (R2 × RT)} (h : BkR S w b1 P) (k : R2) (hk : k.Ok) : ∃ z : RV, (∀ W, Below w.heap.size w W → (Instr.lookup 114 (.map (some b1)) (r2V k) true).run Try.prog W = .ok (.tuple #[rvV z, .bool (lookA P k).isSome]) W) ∧ RTAt S w z.1 z.2 ∧ (∀ r, lookA P k = some r → z.1 = r) ∧ (lookA P k = none → z = (.mk 0 ByteArray.empty ByteArray.empty [], .slice none 0 0)) := by
  obtain ⟨lr, h1, h2, h3⟩ := h
  have hl := pairs_look (f := fun x : RV => x.1) (k := k) h2
  have hrun := fun W (hW : Below w.heap.size w W) => (h1.below hW).look refK r2V_inj Try.underlying114 (Try.zeroValue72 W) true (ref_key k hk)
  cases hlk : lookA lr k with
  | none =>
    rw [hlk] at hl
    refine ⟨(.mk 0 ByteArray.empty ByteArray.empty [], .slice none 0 0), fun W hW => ?_, ?_, ?_, fun _ => rfl⟩
    · have := hrun W hW
      rw [hlk] at this
      rw [this, ← hl]
      rfl
    · exact (RTAt.iff _ _).2 ⟨[], rfl, by simp, Sl.nil _ _ _⟩
    · intro r hr; rw [← hl] at hr; cases hr
  | some x =>
    rw [hlk] at hl
    refine ⟨x, fun W hW => ?_, h3 _ (look_mem hlk), ?_, ?_⟩
    · have := hrun W hW
      rw [hlk] at this
      rw [this, ← hl]
      rfl
    · intro r hr; rw [← hl] at hr; injection hr
    · intro hr; rw [← hl] at hr; cases hr
theorem rule_ok {ts : List TyS} (h : ∀ t ∈ ts, t.Ok) {k : R2} {r : RT} (hl : lookA (refsOf ts) k = some r) : r.Ok := by
  obtain ⟨t, ht, x, hx, e⟩ := refs_mem.1 (look_mem hl)
  injection e with _ e
  rw [e]
  exact ((h t ht).2 x hx).2

end Go.Proofs.Ytipddhcfcehcaaa
namespace Go.Proofs.Ytipddhcfcehcaaa
open Go Go.RowKit Go.Maps Go.Shelf

/-- What a relation reaches. -/
inductive ReachP (ts : List TyS) (r : R2) : R2 → Prop where
  | self : ReachP ts r r
  | step {x y : R2} : ReachP ts r x → y ∈ needsP ts x → ReachP ts r y
/-- All that it may reach. -/
def univP (ts : List TyS) (r : R2) : List R2 := r :: (refsOf ts).flatMap fun x => x.2.pneeds (refsOf ts) x.1.t
theorem needs_univ {ts : List TyS} {x y : R2} (h : y ∈ needsP ts x) : ∃ rule, lookA (refsOf ts) x = some rule ∧ y ∈ rule.pneeds (refsOf ts) x.t := by
  unfold needsP at h
  split at h
  · cases h
  · rename_i rule hl
    exact ⟨rule, hl, h⟩
theorem reach_univ {ts : List TyS} {r x : R2} (h : ReachP ts r x) : x ∈ univP ts r := by
  cases h with
  | self => exact List.mem_cons_self
  | step h1 h2 =>
    obtain ⟨rule, hl, hy⟩ := needs_univ h2
    exact List.mem_cons_of_mem _ (List.mem_flatMap.2 ⟨_, look_mem hl, hy⟩)
theorem nodup_le {α : Type} : ∀ {l u : List α}, l.Nodup → (∀ x ∈ l, x ∈ u) → l.length ≤ u.length
  | [], _, _, _ => Nat.zero_le _
  | a :: l, u, hn, hs => by
    obtain ⟨p, q, rfl⟩ := List.append_of_mem (hs a List.mem_cons_self)
    rw [List.nodup_cons] at hn
    have h1 := nodup_le (l := l) (u := p ++ q) hn.2 fun x hx => by
      have h2 := hs x (List.mem_cons_of_mem _ hx)
      rcases List.mem_append.1 h2 with h3 | h3
      · exact List.mem_append_left _ h3
      · rcases List.mem_cons.1 h3 with h3 | h3
        · subst h3; exact absurd hx hn.1
        · exact List.mem_append_right _ h3
    simp only [List.length_cons, List.length_append] at h1 ⊢
    omega
/-- The work list's state. -/
structure ClI (ts : List TyS) (r : R2) (S l : List R2) : Prop where
  inS : ∀ x ∈ S, ReachP ts r x
  inL : ∀ x ∈ l, ReachP ts r x
  step : ∀ x ∈ S, ∀ y ∈ needsP ts x, y ∈ S ∨ y ∈ l
  start : r ∈ S ∨ r ∈ l
  len : l.length ≤ 1 + S.length * 4096
theorem ClI.start' (ts : List TyS) (r : R2) : ClI ts r [] [r] := ⟨by simp, fun x hx => by rw [List.mem_singleton.1 hx]; exact .self, by simp, .inr List.mem_cons_self, by simp⟩
theorem ClI.done {ts : List TyS} {r : R2} {S : List R2} (h : ClI ts r S []) (x : R2) : x ∈ S ↔ ReachP ts r x := by
  refine ⟨h.inS x, fun hr => ?_⟩
  induction hr with
  | self => exact h.start.elim id (fun h => by cases h)
  | step _ h2 ih => exact (h.step _ ih _ h2).elim id (fun h => by cases h)
theorem ClI.skip {ts : List TyS} {r x : R2} {S l : List R2} (h : ClI ts r S (l ++ [x])) (hx : x ∈ S) : ClI ts r S l := by
  refine ⟨h.inS, fun y hy => h.inL y (List.mem_append_left _ hy), fun a ha y hy => ?_, ?_, ?_⟩
  · rcases h.step a ha y hy with h1 | h1
    · exact .inl h1
    · rcases List.mem_append.1 h1 with h1 | h1
      · exact .inr h1
      · rw [List.mem_singleton.1 h1]; exact .inl hx
  · rcases h.start with h1 | h1
    · exact .inl h1
    · rcases List.mem_append.1 h1 with h1 | h1
      · exact .inr h1
      · rw [List.mem_singleton.1 h1]; exact .inl hx
  · have := h.len
    rw [List.length_append] at this
    omega
theorem ClI.more {ts : List TyS} {r x : R2} {S l ss : List R2} (h : ClI ts r S (l ++ [x])) (hx : ¬ x ∈ S) (hs : ∀ y, y ∈ ss ↔ y ∈ needsP ts x) (hl : ss.length ≤ 4096) : ClI ts r (addR S x) (l ++ ss) := by
  have hxr := h.inL x (by simp)
  have hlen : (addR S x).length = S.length + 1 := by unfold addR; rw [if_neg hx]; simp
  refine ⟨fun y hy => ?_, fun y hy => ?_, fun a ha y hy => ?_, ?_, ?_⟩
  · rcases (addR_mem _ _ _).1 hy with h1 | rfl
    · exact h.inS y h1
    · exact hxr
  · rcases List.mem_append.1 hy with h1 | h1
    · exact h.inL y (List.mem_append_left _ h1)
    · exact .step hxr ((hs y).1 h1)
  · rcases (addR_mem _ _ _).1 ha with h1 | rfl
    · rcases h.step a h1 y hy with h2 | h2
      · exact .inl ((addR_mem _ _ _).2 (.inl h2))
      · rcases List.mem_append.1 h2 with h2 | h2
        · exact .inr (List.mem_append_left _ h2)
        · exact .inl ((addR_mem _ _ _).2 (.inr (List.mem_singleton.1 h2)))
    · exact .inr (List.mem_append_right _ ((hs y).2 hy))
  · rcases h.start with h1 | h1
    · exact .inl ((addR_mem _ _ _).2 (.inl h1))
    · rcases List.mem_append.1 h1 with h1 | h1
      · exact .inr (List.mem_append_left _ h1)
      · exact .inl ((addR_mem _ _ _).2 (.inr (List.mem_singleton.1 h1)))
  · have := h.len
    rw [List.length_append] at this ⊢
    rw [hlen]
    simp only [List.length_cons, List.length_nil] at this
    omega
theorem flat_le {α β : Type} (f : α → List β) (D : Nat) : ∀ l : List α, (∀ x ∈ l, (f x).length ≤ D) → (l.flatMap f).length ≤ l.length * D
  | [], _ => by simp
  | a :: l, h => by
    rw [List.flatMap_cons, List.length_append, List.length_cons, Nat.add_mul]
    have h1 := h a List.mem_cons_self
    have h2 := flat_le f D l fun x hx => h x (List.mem_cons_of_mem _ hx)
    omega
theorem univ_len {ts : List TyS} {r : R2} (h1 : (refsOf ts).length ≤ 4096) (h2 : ∀ x ∈ refsOf ts, (x.2.pneeds (refsOf ts) x.1.t).length ≤ 4096) : (univP ts r).length ≤ 16777217 := by
  unfold univP
  rw [List.length_cons]
  have h3 := flat_le (fun x : R2 × RT => x.2.pneeds (refsOf ts) x.1.t) 4096 (refsOf ts) h2
  have h4 : (refsOf ts).length * 4096 ≤ 4096 * 4096 := Nat.mul_le_mul_right _ h1
  omega
theorem pneeds_ok {ts : List TyS} (h : ∀ t ∈ ts, t.Ok) {typ : ByteArray} (ht : typ.size ≤ maxLen) (r : RT) : r.Ok → ∀ x ∈ r.pneeds (refsOf ts) typ, x.Ok := by
  induction r using RT.ind with
  | h r ih =>
    intro hok x hx
    obtain ⟨-, hoa, hob, hop⟩ := r.ok_iff.1 hok
    obtain ⟨k, a, b, ps⟩ := r
    dsimp only [RT.a, RT.b, RT.ps] at hoa hob hop ih
    have ha : a.size ≤ maxLen := by unfold maxLen; omega
    have hb : b.size ≤ maxLen := by unfold maxLen; omega
    rw [RT.pneeds] at hx
    rcases List.mem_append.1 hx with hx | hx
    · split at hx
      · rw [List.mem_singleton.1 hx]; exact ⟨ht, ha⟩
      · split at hx
        · rcases List.mem_cons.1 hx with rfl | hx
          · exact ⟨ht, ha⟩
          · obtain ⟨n, hn, rfl⟩ := List.mem_map.1 hx
            exact ⟨where_ok h b n hn, hb⟩
        · cases hx
    · rw [pneedsL_eq] at hx
      obtain ⟨p, hp, hx⟩ := List.mem_flatMap.1 hx
      exact ih p hp (hop p hp) x hx
theorem reach_ok {ts : List TyS} (h : ∀ t ∈ ts, t.Ok) {r : R2} (hr : r.Ok) {x : R2} (hx : ReachP ts r x) : x.Ok := by
  induction hx with
  | self => exact hr
  | step _ h2 ih =>
    obtain ⟨rule, hl, hy⟩ := needs_univ h2
    exact pneeds_ok h ih.1 rule (rule_ok h hl) _ hy
def mapLen (w : World) (b : Nat) : Nat := match w.heap[b]? with | some (.map es _) => es.size | _ => 0
theorem Mp.mapLen {P : Program} {k : TypeId} {κ α : Type} {kv : κ → Value} {ev : α → Value} {w : World} {b : Nat} {l : List (κ × α)} (h : Mp P k kv ev w b l) : mapLen w b = l.length := by
  obtain ⟨es, clock, hb, _, hm, _⟩ := h
  unfold Go.Proofs.Ytipddhcfcehcaaa.mapLen
  rw [hb]
  have := congrArg List.length hm
  simpa using this
def sliceLen : Value → Nat | .slice _ n _ => n | _ => 0
theorem Own.cut {w : World} {B : Nat} {e : TypeId} {sz : Nat} {ao : Option Addr} {n c : Nat} {xs : List Value} (h : Own w B e sz (.slice ao n c) xs) (k : Nat) (hk : k ≤ n) : Own w B e sz (.slice ao k c) (xs.take (k * sz)) := by
  obtain ⟨m, h⟩ := h
  have hks : k * sz ≤ n * sz := Nat.mul_le_mul_right _ hk
  rcases h.2 with ⟨hv, rfl⟩ | ⟨g, cap, cur, hv, hbg, hg, hnc, hcm, hcs, htake⟩
  · cases hv
    obtain rfl : k = 0 := by omega
    rw [Nat.zero_mul, List.take_zero]
    exact Own.nil _ _ _ _
  · cases hv
    have hl := h.1
    refine ⟨k, by rw [List.length_take]; omega, .inr ⟨g, c, cur, rfl, hbg, hg, by omega, hcm, hcs, ?_⟩⟩
    rw [← htake, List.take_take]
    congr 1
    omega
theorem QKept.tk {e : TypeId} {b B : Nat} {w w' : World} (h : Tk b w w') (hB : B ≤ w.heap.size) (hb : B ≤ b) : QKept e (· = b) B w w' := Kept.mono h fun x hx => by
  rcases hx with hx | ⟨h1, h2, _⟩
  · exact ⟨by omega, by omega⟩
  · exact ⟨h2, h1⟩

end Go.Proofs.Ytipddhcfcehcaaa
namespace Go.Proofs.Ytipddhcfcehcaaa
open Go Go.RowKit Go.Maps Go.Shelf

mutual
/-- Can a rule's relation have members, when those of S can? -/
def RT.pcan (P : List (R2 × RT)) (S : List R2) (typ : ByteArray) : RT → Bool
  | .mk k a b ps => if k = 1 then true else if k = 2 then decide ((⟨typ, a⟩ : R2) ∈ S) else if k = 3 then decide ((⟨typ, a⟩ : R2) ∈ S) && (whereP P b).any fun n => decide ((⟨n, b⟩ : R2) ∈ S) else if k = 4 then pcanN P S typ ps || decide (ps.length = 0) else pcanL P S typ ps
def pcanN (P : List (R2 × RT)) (S : List R2) (typ : ByteArray) : List RT → Bool | [] => false | r :: rs => r.pcan P S typ || pcanN P S typ rs
def pcanL (P : List (R2 × RT)) (S : List R2) (typ : ByteArray) : List RT → Bool | [] => true | r :: rs => r.pcan P S typ && pcanL P S typ rs
end
theorem pcanN_eq (P : List (R2 × RT)) (S : List R2) (typ : ByteArray) : ∀ l : List RT, pcanN P S typ l = l.any fun r => r.pcan P S typ
  | [] => rfl
  | r :: rs => by rw [pcanN, List.any_cons, pcanN_eq P S typ rs]
theorem pcanL_eq (P : List (R2 × RT)) (S : List R2) (typ : ByteArray) : ∀ l : List RT, pcanL P S typ l = l.all fun r => r.pcan P S typ
  | [] => rfl
  | r :: rs => by rw [pcanL, List.all_cons, pcanL_eq P S typ rs]
theorem set_look {w : World} {b : Nat} {S : List R2} (h : Mp Try.prog 61 r2V bV w b (blR S)) (x : R2) (hx : x.Ok) : (Instr.lookup 141 (.map (some b)) (r2V x) false).run Try.prog w = .ok (.bool (decide (x ∈ S))) w := by
  have := h.look refK r2V_inj Try.underlying141 (Try.zeroValue4 w) false (ref_key x hx)
  rw [this, look_blR]
  by_cases hin : x ∈ S
  · rw [if_pos hin, decide_eq_true hin]; rfl
  · rw [if_neg hin, decide_eq_false hin]; rfl

end Go.Proofs.Ytipddhcfcehcaaa
namespace Go.Proofs.Ytipddhcfcehcaaa
open Go Go.RowKit Go.Maps Go.Shelf

theorem pcan_mono (P : List (R2 × RT)) {S T : List R2} (h : ∀ x ∈ S, x ∈ T) (typ : ByteArray) (r : RT) : r.pcan P S typ = true → r.pcan P T typ = true := by
  induction r using RT.ind with
  | h r ih =>
    obtain ⟨k, a, b, ps⟩ := r
    dsimp only [RT.ps] at ih
    rw [RT.pcan, RT.pcan, pcanN_eq, pcanL_eq, pcanN_eq, pcanL_eq]
    intro hc
    split
    · rfl
    · rename_i h1
      rw [if_neg h1] at hc
      split
      · rename_i h2
        rw [if_pos h2] at hc
        exact decide_eq_true (h _ (of_decide_eq_true hc))
      · rename_i h2
        rw [if_neg h2] at hc
        split
        · rename_i h3
          rw [if_pos h3, Bool.and_eq_true, List.any_eq_true] at hc
          obtain ⟨hc1, n, hn, hc2⟩ := hc
          rw [Bool.and_eq_true, List.any_eq_true]
          exact ⟨decide_eq_true (h _ (of_decide_eq_true hc1)), n, hn, decide_eq_true (h _ (of_decide_eq_true hc2))⟩
        · rename_i h3
          rw [if_neg h3] at hc
          split
          · rename_i h4
            rw [if_pos h4, Bool.or_eq_true, List.any_eq_true] at hc
            rw [Bool.or_eq_true, List.any_eq_true]
            rcases hc with ⟨p, hp, hc⟩ | hc
            · exact .inl ⟨p, hp, ih p hp hc⟩
            · exact .inr hc
          · rename_i h4
            rw [if_neg h4, List.all_eq_true] at hc
            rw [List.all_eq_true]
            exact fun p hp => ih p hp (hc p hp)
/-- Closed under what can have members. -/
def ClosedP (ts : List TyS) (S : List R2) : Prop := ∀ x r, (x, r) ∈ refsOf ts → r.pcan (refsOf ts) S x.t = true → x ∈ S
/-- Within each closed set. -/
structure LeastP (ts : List TyS) (S : List R2) : Prop where
  sub : ∀ x ∈ S, x ∈ (refsOf ts).map (·.1)
  least : ∀ T, ClosedP ts T → ∀ x ∈ S, x ∈ T
theorem LeastP.nil (ts : List TyS) : LeastP ts [] := ⟨by simp, by simp⟩
theorem LeastP.add {ts : List TyS} {S : List R2} (h : LeastP ts S) {x : R2} {r : RT} (hx : (x, r) ∈ refsOf ts) (hc : r.pcan (refsOf ts) S x.t = true) : LeastP ts (addR S x) := by
  refine ⟨fun y hy => ?_, fun T hT y hy => ?_⟩
  · rcases (addR_mem _ _ _).1 hy with h1 | rfl
    · exact h.sub y h1
    · exact List.mem_map.2 ⟨_, hx, rfl⟩
  · rcases (addR_mem _ _ _).1 hy with h1 | rfl
    · exact h.least T hT y h1
    · exact hT _ r hx (pcan_mono _ (fun z hz => h.least T hT z hz) _ r hc)
theorem LeastP.len {ts : List TyS} {S : List R2} (h : LeastP ts S) (hn : S.Nodup) : S.length ≤ (refsOf ts).length := by
  have := nodup_le hn h.sub
  rwa [List.length_map] at this
def msB (R M : Nat) (n : Int) : Nat := (R - M) * 2 + if n < (M : Int) then 1 else 0
theorem msB_same {R M : Nat} {n : Int} (h : n < (M : Int)) : msB R M (M : Int) < msB R M n := by
  unfold msB
  rw [if_neg (Int.lt_irrefl _), if_pos h]
  omega
theorem msB_more {R M M' : Nat} {n m : Int} (h : n < (M : Int)) (h1 : M < M') (h2 : M' ≤ R) : msB R M' m < msB R M n := by
  unfold msB
  rw [if_pos h]
  split <;> omega
theorem blR_len (S : List R2) : (blR S).length = S.length := by simp [blR]
theorem mp_nodup {w : World} {b : Nat} {S : List R2} (h : Mp Try.prog 61 r2V bV w b (blR S)) : S.Nodup := by have := h.nodup; rwa [blR_keys] at this
theorem refs_okk {ts : List TyS} (h : ∀ t ∈ ts, t.Ok) {x : R2} {r : RT} (hx : (x, r) ∈ refsOf ts) : x.Ok ∧ r.Ok := by
  obtain ⟨t, ht, y, hy, e⟩ := refs_mem.1 hx
  injection e with e1 e2
  have h1 := h t ht
  have h2 := h1.2 y hy
  have h3 := h1.1
  have h4 := h2.1
  subst e1 e2
  refine ⟨⟨?_, ?_⟩, h2.2⟩ <;> unfold maxLen <;> dsimp only <;> omega

end Go.Proofs.Ytipddhcfcehcaaa
namespace Go.Proofs.Ytipddhcfcehcaaa
open Go Go.RowKit Go.Maps

def docB : ByteArray := ⟨#[100, 111, 99]⟩
def txt06 : ByteArray := ⟨#[116, 121, 112, 101, 32, 100, 111, 99, 10, 97, 32, 61, 32, 98, 10, 98, 32, 61, 32, 97, 10, 99, 32, 61, 32, 116, 104, 105, 115, 32, 124, 32, 97]⟩
def its06 : List PIt := [.ty docB, .rel ⟨#[97]⟩ ⟨#[98]⟩ [], .rel ⟨#[98]⟩ ⟨#[97]⟩ [], .rel ⟨#[99]⟩ ⟨#[116, 104, 105, 115]⟩ [⟨#[97]⟩]]
def lns06 : List ByteArray := [⟨#[116, 121, 112, 101, 32, 100, 111, 99]⟩, ⟨#[97, 32, 61, 32, 98]⟩, ⟨#[98, 32, 61, 32, 97]⟩, ⟨#[99, 32, 61, 32, 116, 104, 105, 115, 32, 124, 32, 97]⟩]
def ts06 : List TyS := [⟨docB, [(⟨#[97]⟩, .mk 2 ⟨#[98]⟩ ⟨#[]⟩ []), (⟨#[98]⟩, .mk 2 ⟨#[97]⟩ ⟨#[]⟩ []), (⟨#[99]⟩, .mk 4 ⟨#[]⟩ ⟨#[]⟩ [.mk 1 ⟨#[]⟩ ⟨#[]⟩ [], .mk 2 ⟨#[97]⟩ ⟨#[]⟩ []])]⟩]
theorem lines06 : linesD txt06 = lns06 := by kernel_rfl
theorem step06 : its06.foldl stepD [] = ts06 := by kernel_rfl
/-- A plain line, by reckoning. -/
def lnOkB (s : ByteArray) (it : PIt) : Bool := decide (s.size ≤ 65536) && (decide (2 ≤ s.size) && (!(s.data.toList.head? == some 32) && (!(s.data.toList.head? == some 9) && (!(decide (s.extract 0 2 = ⟨#[47, 47]⟩)) && (s.data.toList.all plainC && decide (toksD s = it.toks))))))
theorem lnOk_of {s : ByteArray} {it : PIt} (h : lnOkB s it = true) : LnOk s it := by
  unfold lnOkB at h
  simp only [Bool.and_eq_true, decide_eq_true_eq, Bool.not_eq_true', decide_eq_false_iff_not] at h
  obtain ⟨h1, h2, h3, h4, h5, h6, h7⟩ := h
  have hhd : ∀ hp : 0 < s.size, s.data.toList.head? = some s[0] := fun hp => by
    rw [List.head?_eq_getElem?, List.getElem?_eq_getElem (by simpa using hp)]
    rfl
  refine ⟨h1, h2, fun hp => ⟨fun e => ?_, fun e => ?_⟩, h5, fun j hj => ?_, h7⟩
  · rw [hhd hp, e] at h3; exact absurd h3 (by decide)
  · rw [hhd hp, e] at h4; exact absurd h4 (by decide)
  · rw [List.all_eq_true] at h6
    exact h6 _ (by
      have : s[j] = s.data.toList[j]'(by simpa using hj) := rfl
      rw [this]; exact List.getElem_mem _)
theorem lnsOk_of {ls : List ByteArray} {its : List PIt} (h : (ls.zip its).all (fun p => lnOkB p.1 p.2) = true) : ∀ i (hi : i < its.length) (hj : i < ls.length), LnOk ls[i] its[i] := fun i hi hj => by
  rw [List.all_eq_true] at h
  have hz : i < (ls.zip its).length := by rw [List.length_zip]; omega
  have := h _ (List.getElem_mem hz)
  rw [List.getElem_zip] at this
  exact lnOk_of this
theorem lnsOk06 : (lns06.zip its06).all (fun p => lnOkB p.1 p.2) = true := by kernel_rfl
def PIt.fitB : PIt → Bool
  | .ty n => isNm n && decide (n ≠ ⟨#[116, 104, 105, 115]⟩)
  | .rel n x ys => isNm n && (decide (n ≠ ⟨#[116, 104, 105, 115]⟩) && (decide (n ≠ ⟨#[116, 121, 112, 101]⟩) && ((x :: ys).all isNm && decide (ys.length ≤ 100000))))
theorem fits_of {its : List PIt} (h : its.all PIt.fitB = true) : ∀ it ∈ its, it.Fit := fun it hit => by
  rw [List.all_eq_true] at h
  have := h it hit
  cases it with
  | ty n =>
    simp only [PIt.fitB, Bool.and_eq_true, decide_eq_true_eq] at this
    exact this
  | rel n x ys =>
    simp only [PIt.fitB, Bool.and_eq_true, decide_eq_true_eq] at this
    obtain ⟨h1, h2, h3, h4, h5⟩ := this
    exact ⟨h1, h2, h3, fun z hz => (List.all_eq_true.1 h4) z hz, h5⟩
theorem fits06 : its06.all PIt.fitB = true := by kernel_rfl
theorem uniq06 : uniqOk ts06 = true := by kernel_rfl
theorem chk06_ts : chk06 ts06 = 0 := by kernel_rfl
theorem ok06 : ∀ t ∈ ts06, t.Ok := by
  intro t ht
  obtain rfl := List.mem_singleton.1 ht
  refine ⟨by decide, fun r hr => ?_⟩
  simp only [List.mem_cons, List.not_mem_nil, or_false] at hr
  rcases hr with rfl | rfl | rfl
  · exact ⟨by decide, by simp [RT.Ok, okL]; decide⟩
  · exact ⟨by decide, by simp [RT.Ok, okL]; decide⟩
  · exact ⟨by decide, by simp [RT.Ok, okL]; decide⟩

/-- Rows in order with the same members are the same. -/
theorem UpR.eq : ∀ {a b : List R2}, UpR a → UpR b → (∀ x, x ∈ a ↔ x ∈ b) → a = b
  | [], [], _, _, _ => rfl
  | [], y :: b, _, _, h => absurd ((h y).2 List.mem_cons_self) (by simp)
  | x :: a, [], _, _, h => absurd ((h x).1 List.mem_cons_self) (by simp)
  | x :: a, y :: b, ha, hb, h => by
    have ha' := List.pairwise_cons.1 ha
    have hb' := List.pairwise_cons.1 hb
    have hxy : x = y := by
      rcases List.mem_cons.1 ((h x).1 List.mem_cons_self) with e | hx
      · exact e
      · rcases List.mem_cons.1 ((h y).2 List.mem_cons_self) with e | hy
        · exact e.symm
        · have := ltR_trans (ha'.1 y hy) (hb'.1 x hx)
          rw [ltR_irr] at this; cases this
    subst hxy
    refine congrArg _ (UpR.eq ha'.2 hb'.2 fun z => ?_)
    constructor
    · intro hz
      rcases List.mem_cons.1 ((h z).1 (List.mem_cons_of_mem _ hz)) with e | h1
      · subst e; have := ha'.1 z hz; rw [ltR_irr] at this; cases this
      · exact h1
    · intro hz
      rcases List.mem_cons.1 ((h z).2 (List.mem_cons_of_mem _ hz)) with e | h1
      · subst e; have := hb'.1 z hz; rw [ltR_irr] at this; cases this
      · exact h1
def bar06 : List R2 := [⟨docB, ⟨#[97]⟩⟩, ⟨docB, ⟨#[98]⟩⟩]
theorem barren06 {S ss : List R2} (hl : LeastP ts06 S) (hc : ClosedP ts06 S) (hu : UpR ss) (hm : ∀ x, x ∈ ss ↔ x ∈ (refsOf ts06).map (·.1) ∧ ¬ x ∈ S) : ss = bar06 := by
  have hrefs : (refsOf ts06).map (·.1) = [⟨docB, ⟨#[97]⟩⟩, ⟨docB, ⟨#[98]⟩⟩, ⟨docB, ⟨#[99]⟩⟩] := rfl
  have hc1 : (⟨docB, ⟨#[99]⟩⟩ : R2) ∈ S := hc _ (.mk 4 ⟨#[]⟩ ⟨#[]⟩ [.mk 1 ⟨#[]⟩ ⟨#[]⟩ [], .mk 2 ⟨#[97]⟩ ⟨#[]⟩ []]) (by
    show _ ∈ [_, _, _]
    exact List.mem_cons_of_mem _ (List.mem_cons_of_mem _ List.mem_cons_self)) (by simp [RT.pcan, pcanN])
  have hT : ClosedP ts06 [⟨docB, ⟨#[99]⟩⟩] := fun x r hx hp => by
    have hx' : (x, r) ∈ [((⟨docB, ⟨#[97]⟩⟩ : R2), RT.mk 2 ⟨#[98]⟩ ⟨#[]⟩ []), (⟨docB, ⟨#[98]⟩⟩, .mk 2 ⟨#[97]⟩ ⟨#[]⟩ []), (⟨docB, ⟨#[99]⟩⟩, .mk 4 ⟨#[]⟩ ⟨#[]⟩ [.mk 1 ⟨#[]⟩ ⟨#[]⟩ [], .mk 2 ⟨#[97]⟩ ⟨#[]⟩ []])] := hx
    simp only [List.mem_cons, Prod.mk.injEq, List.not_mem_nil, or_false] at hx'
    rcases hx' with ⟨rfl, rfl⟩ | ⟨rfl, rfl⟩ | ⟨rfl, rfl⟩
    · exact absurd hp (by decide)
    · exact absurd hp (by decide)
    · exact List.mem_cons_self
  have hS : ∀ x, x ∈ S ↔ x = ⟨docB, ⟨#[99]⟩⟩ := fun x => ⟨fun hx => List.mem_singleton.1 (hl.least _ hT x hx), fun e => e ▸ hc1⟩
  refine hu.eq (show UpR bar06 from ?_) fun x => ?_
  · exact List.pairwise_cons.2 ⟨fun y hy => by obtain rfl := List.mem_singleton.1 hy; kernel_rfl, List.pairwise_singleton _ _⟩
  · rw [hm x, hrefs, hS x]
    unfold bar06
    simp only [List.mem_cons, List.not_mem_nil, or_false]
    constructor
    · rintro ⟨h | h | h, hn⟩
      · exact .inl h
      · exact .inr h
      · exact absurd h hn
    · rintro (rfl | rfl)
      · exact ⟨.inl rfl, by decide⟩
      · exact ⟨.inr (.inl rfl), by decide⟩

end Go.Proofs.Ytipddhcfcehcaaa
