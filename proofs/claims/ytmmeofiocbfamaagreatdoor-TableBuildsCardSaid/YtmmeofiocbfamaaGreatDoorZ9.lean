/- A region whose order is open, and whose last operation leaves the class of worlds: it waits for all that is taken. bloom's next. bloom's Make. No condition: lemmas. -/
import Derived.Test.YtmmeofiocbfamaaGreatDoorZ1
import Derived.Test.YtmmeofiocbfamaaGreatDoorZ8
namespace Go.Proofs.YtmmeofiocbfamaaGreatDoor
open Go Go.RowKit

/-- Number i comes ahead of number j. -/
def ahead (ops : Array Oper) : Nat → Nat → Nat → Bool
  | 0, _, _ => false
  | f + 1, i, j => match ops[j]? with
    | some o => o.after.any fun e => Region.binds .any e && (e.on == i || ahead ops f i e.on)
    | none => false

/-- What is listed is listed with what comes ahead of it. -/
def Closed (ops : Array Oper) (l : Array Bool) : Prop :=
  ∀ j o, ops[j]? = some o → l.getD j false = true → ∀ e ∈ o.after, Region.binds .any e = true → l.getD e.on false = true

theorem ahead_listed {ops : Array Oper} {l : Array Bool} (hc : Closed ops l) : ∀ (f i j : Nat), ahead ops f i j = true →
    (∀ o, ops[j]? = some o → ∀ e ∈ o.after, Region.binds .any e = true → l.getD e.on false = true) → l.getD i false = true
  | 0, _, _, h, _ => by simp [ahead] at h
  | f + 1, i, j, h, hl => by
    unfold ahead at h
    cases ho : ops[j]? with
    | none => rw [ho] at h; simp at h
    | some o =>
      rw [ho] at h
      simp only [Array.any_eq_true', Bool.and_eq_true, Bool.or_eq_true, beq_iff_eq] at h
      obtain ⟨e, he, hb, h⟩ := h
      have h1 := hl o ho e he hb
      rcases h with h | h
      · exact h ▸ h1
      · exact ahead_listed hc f i e.on h fun o' ho' e' he' hb' => hc _ o' ho' h1 e' he' hb'

theorem Closed.set {ops : Array Oper} {l : Array Bool} (hc : Closed ops l) {j : Nat} (hj : j ∈ Region.ready .any ops l) : Closed ops (l.setIfInBounds j true) := by
  intro k o ho hk e he hb
  refine getD_set_true ?_
  by_cases hkj : k = j
  · subst hkj
    obtain ⟨_, o', ho', hall⟩ := mem_ready.1 hj
    rw [ho] at ho'
    cases ho'
    exact hall e he hb
  · rw [getD_set_ne false (Ne.symm hkj)] at hk
    exact hc k o ho hk e he hb

theorem Closed.start (ops : Array Oper) (n : Nat) : Closed ops (Array.replicate n false) := by
  intro j o _ hj
  simp only [Array.getD_eq_getD_getElem?, Array.getElem?_replicate] at hj
  split at hj <;> simp at hj

section
variable {P : Program} {ops : Array Oper} {Q : Exit → Act → World → Prop} {S : World → Prop} {L : Nat}

/-- Whatever order: the class is held behind each but L. -/
def wpAnyL (P : Program) (ops : Array Oper) (Q : Exit → Act → World → Prop) (S : World → Prop) (L : Nat) : Nat → Array Bool → Act → World → Prop
  | 0, l, a, w => Region.ready .any ops l = [] ∧ Q .normal a w
  | f + 1, l, a, w => (Region.ready .any ops l = [] → Q .normal a w) ∧
      ∀ i ∈ Region.ready .any ops l, wpOp P ops Q i (fun a' w' => (i ≠ L → S w') ∧ wpAnyL P ops Q S L f (l.setIfInBounds i true) a' w') a w

theorem wpAnyL_any : ∀ (f : Nat) (l : Array Bool) (a : Act) (w : World), wpAnyL P ops Q S L f l a w → wpAny P .any ops Q f l a w
  | 0, _, _, _, h => h
  | f + 1, _, _, _, h => ⟨h.1, fun i hi => wpOp_mono (fun a' w' k => wpAnyL_any f _ a' w' k.2) (h.2 i hi)⟩

theorem wpAnyL_done {l : Array Bool} {a : Act} {w : World} (hr : Region.ready .any ops l = []) (h : Q .normal a w) : ∀ f, wpAnyL P ops Q S L f l a w
  | 0 => ⟨hr, h⟩
  | _ + 1 => ⟨fun _ => h, by rw [hr]; simp⟩

theorem unlisted {l : Array Bool} {i : Nat} (h : l.getD i true = false) (k : l.getD i false = true) : False := by
  rcases Nat.lt_or_ge i l.size with h' | h'
  · simp [h'] at h k
    rw [h] at k
    cases k
  · simp [Array.getElem?_eq_none h'] at k

/-- What yields the same in each world of the class, and comes ahead of L, may be taken. -/
theorem wpAnyL_take {i : Nat} {oi : Oper} {v : Value} (hi : ops[i]? = some oi) (hsel : Region.noSelect ops = true)
    (hQ : ∀ c a w, Q (.panic c) (Act.put a oi.dst v) w → Q (.panic c) a w) {n : Nat} (hL : ahead ops n i L = true) :
    ∀ (f : Nat) (l : Array Bool) (a : Act) (w : World), Closed ops l →
      (∀ j oj, ops[j]? = some oj → j ≠ i → l.getD j true = false → (∀ e ∈ oj.after, Region.binds .any e = true → e.on ≠ i) → oi.apart ops oj = true) →
      i ∈ Region.ready .any ops l → YieldsIf P ops S oi v a → S w → wpAnyL P ops Q S L f (l.setIfInBounds i true) (a.put oi.dst v) w → wpAnyL P ops Q S L (f + 1) l a w := by
  intro f
  induction f with
  | zero =>
    intro l a w _ _ hr hy hS H
    refine ⟨fun h => (by rw [h] at hr; cases hr), fun j hj => ?_⟩
    by_cases hji : j = i
    · subst hji
      exact hy.wpOp hi hS ⟨fun _ => hS, H⟩
    · have := ready_mono hj hji
      rw [H.1] at this
      cases this
  | succ f ih =>
    intro l a w hc hfree hr hy hS H
    refine ⟨fun h => (by rw [h] at hr; cases hr), fun j hj => ?_⟩
    by_cases hji : j = i
    · subst hji
      exact hy.wpOp hi hS ⟨fun _ => hS, H⟩
    · obtain ⟨hjun, oj, hoj, hall⟩ := mem_ready.1 hj
      have hiun := (mem_ready.1 hr).1
      have hjL : j ≠ L := by
        intro e
        subst e
        exact unlisted hiun (ahead_listed hc n i j hL fun o ho e he hb => by rw [hoj] at ho; cases ho; exact hall e he hb)
      have hnot : ∀ e ∈ oj.after, Region.binds .any e = true → e.on ≠ i := fun e he hb heq => unlisted hiun (heq ▸ hall e he hb)
      have h2 := wpOp_putIf hoj (hfree j oj hoj hji hjun hnot) (fun cs b => Region.noSelect_spec hsel i oi cs b hi) (fun cs b => Region.noSelect_spec hsel j oj cs b hoj) hQ hy (H.2 j (ready_mono hj hji))
      refine wpOp_mono (fun a' w' k => ⟨k.2.1, ih (l.setIfInBounds j true) a' w' (hc.set hj) (fun m om hom hmi hun hno => ?_) (ready_mono hr (Ne.symm hji)) k.1 (k.2.1 hjL) ?_⟩) h2
      · refine hfree m om hom hmi ?_ hno
        by_cases hjm : j = m
        · exact hjm ▸ hjun
        · rwa [getD_set_ne true hjm] at hun
      · rw [Array.setIfInBounds_comm _ _ hji]
        exact k.2.2

/-- What is to be shown from here on. -/
def WalkL (P : Program) (ops : Array Oper) (Q : Exit → Act → World → Prop) (S : World → Prop) (L : Nat) : Nat → Array Bool → Act → World → Prop
  | 0, l, a, w => Region.ready .any ops l = [] ∧ Q .normal a w
  | f + 1, l, a, w => (Region.ready .any ops l = [] ∧ Q .normal a w) ∨
      (∃ i o v, ops[i]? = some o ∧ Region.free .any ops l i = true ∧ (Region.ready .any ops l).contains i = true ∧ ahead ops ops.size i L = true ∧ YieldsIf P ops S o v a ∧ WalkL P ops Q S L f (l.setIfInBounds i true) (a.put o.dst v) w) ∨
      (Region.ready .any ops l ≠ [] ∧ ∀ i ∈ Region.ready .any ops l, ∃ o, ops[i]? = some o ∧ ∀ K' : Act → World → Prop, Shut (∀ a' w', S w' → WalkL P ops Q S L f (l.setIfInBounds i true) a' w' → K' a' w') →
        if Region.wanted o (yielded ops a.tmps) = true then Oper.wp P o a w K' Q else K' (a.put o.dst undef) w) ∨
      (Region.ready .any ops l = [L] ∧ Region.ready .any ops (l.setIfInBounds L true) = [] ∧ ∃ o, ops[L]? = some o ∧ Region.wanted o (yielded ops a.tmps) = true ∧ ∀ K' : Act → World → Prop, Shut (∀ a' w', Q .normal a' w' → K' a' w') → Oper.wp P o a w K' Q)

theorem walkL_sound (hns : Region.noSelect ops = true) (hQ : ∀ c a d v w, Q (.panic c) (Act.put a d v) w → Q (.panic c) a w) :
    ∀ (f : Nat) (l : Array Bool) (a : Act) (w : World), Closed ops l → S w → WalkL P ops Q S L f l a w → wpAnyL P ops Q S L f l a w
  | 0, _, _, _, _, _, h => h
  | f + 1, l, a, w, hc, hs, h => by
    rcases h with ⟨h1, h2⟩ | ⟨i, o, v, ho, hf, hr, hL, hy, h⟩ | ⟨hne, h⟩ | ⟨h1, h2, o, ho, hw, h⟩
    · exact wpAnyL_done h1 h2 _
    · exact wpAnyL_take ho hns (fun c a w => hQ c a _ _ w) hL f l a w hc (Region.free_spec ho hf) (by simpa using hr) hy hs (walkL_sound hns hQ f _ _ w (hc.set (by simpa using hr)) hs h)
    · refine ⟨fun e => absurd e hne, fun i hi => ?_⟩
      obtain ⟨o, ho, hst⟩ := h i hi
      exact wpOp_step ho (fun K' hK => hst K' (fun a' w' he hw => hK a' w' ⟨fun _ => he, walkL_sound hns hQ f _ a' w' (hc.set hi) he hw⟩))
    · refine ⟨fun e => (by rw [e] at h1; exact absurd h1.symm (List.cons_ne_nil _ _)), fun i hi => ?_⟩
      rw [h1] at hi
      obtain rfl : i = L := by simpa using hi
      exact wpOp_step ho (fun K' hK => by rw [if_pos hw]; exact h K' (fun a' w' hq => hK a' w' ⟨fun e => absurd rfl e, wpAnyL_done h2 hq _⟩))

theorem region_walkL {id : Nat} {a : Act} {w : World} (L : Nat) (S : World → Prop) (hS : S w.drew) (hm : P.follows .mixedOrders = true) (hns : Region.noSelect ops = true) (hQ : ∀ c a d v w, Q (.panic c) (Act.put a d v) w → Q (.panic c) a w)
    (h : WalkL P ops Q S L ops.size (Array.replicate ops.size false) a w.drew) : (Code.region id ops true).wp P Q a w :=
  wp_region_any hm (wpAnyL_any _ _ _ _ (walkL_sound hns hQ _ _ a w.drew (Closed.start _ _) hS h))

theorem WalkL.take {f : Nat} {l : Array Bool} {a : Act} {w : World} (i : Nat) (o : Oper) (v : Value) (ho : ops[i]? = some o) (hf : Region.free .any ops l i = true) (hr : (Region.ready .any ops l).contains i = true) (hL : ahead ops ops.size i L = true)
    (hw : Region.wanted o (yielded ops a.tmps) = true) (hy : ∀ W, S W → (execOp a.eval o).run P W = .ok (.value v) W) (h : WalkL P ops Q S L f (l.setIfInBounds i true) (a.put o.dst v) w) : WalkL P ops Q S L (f + 1) l a w :=
  .inr (.inl ⟨i, o, v, ho, hf, hr, hL, .inl ⟨hw, hy⟩, h⟩)

/-- What is owed for number i: it is made, and the walk goes on. -/
def MadeL (P : Program) (ops : Array Oper) (Q : Exit → Act → World → Prop) (S : World → Prop) (L f : Nat) (l : Array Bool) (a : Act) (w : World) (i : Nat) : Prop :=
  ∃ o, ops[i]? = some o ∧ Region.wanted o (yielded ops a.tmps) = true ∧ ∀ K' : Act → World → Prop, Shut (∀ a' w', S w' → WalkL P ops Q S L f (l.setIfInBounds i true) a' w' → K' a' w') → Oper.wp P o a w K' Q

theorem WalkL.one {f : Nat} {l : Array Bool} {a : Act} {w : World} (i : Nat) (hr : Region.ready .any ops l = [i]) (h : MadeL P ops Q S L f l a w i) : WalkL P ops Q S L (f + 1) l a w := by
  refine .inr (.inr (.inl ⟨by rw [hr]; simp, fun j hj => ?_⟩))
  rw [hr] at hj
  obtain rfl : j = i := by simpa using hj
  obtain ⟨o, ho, hw, h⟩ := h
  exact ⟨o, ho, fun K hK => by rw [if_pos hw]; exact h K hK⟩

theorem WalkL.last {f : Nat} {l : Array Bool} {a : Act} {w : World} (hr : Region.ready .any ops l = [L]) (hr' : Region.ready .any ops (l.setIfInBounds L true) = [])
    (h : ∃ o, ops[L]? = some o ∧ Region.wanted o (yielded ops a.tmps) = true ∧ ∀ K' : Act → World → Prop, Shut (∀ a' w', Q .normal a' w' → K' a' w') → Oper.wp P o a w K' Q) : WalkL P ops Q S L (f + 1) l a w :=
  .inr (.inr (.inr ⟨hr, hr', h⟩))
end

end Go.Proofs.YtmmeofiocbfamaaGreatDoor
namespace Go.Proofs.YtmmeofiocbfamaaGreatDoor
open Go Go.RowKit

/-- A probe that lies at b. -/
def Prb (w : World) (b : Nat) (at_ step size : Nat) : Prop := Blk w b #[.int .u64 at_, .int .u64 step, .int .u64 size] 99

set_option maxRecDepth 100000 in
set_option maxHeartbeats 1000000 in
theorem probe_next (b at_ step size : Nat) (w : World) (h : Prb w b at_ step size) (ha : at_ ≤ 1000000000000) (hs : step ≤ 1000000000000) (h0 : 0 < size) (h1 : size ≤ 1000000000) :
    Calls Tryz.prog 63 #[.pointer (some ⟨b, 0, none⟩)] w fun e w' => e = .returned (.tuple #[.int .i64 (at_ % size / 8 : Nat), .int .u8 (2 ^ (at_ % size % 8) : Nat)]) ∧ Prb w' b (at_ + step) step size ∧ Kept (fun x => x ≠ b) w w' := by
  have HB := Lib.hid h
  have hz : ¬ (size = 0) := by omega
  obtain ⟨k, hk⟩ : ∃ k, k = at_ % size := ⟨_, rfl⟩
  have htm : (at_ : Int).tmod (size : Int) = (k : Int) := by rw [hk]; exact (Int.ofNat_tmod at_ size).symm
  have HKL := Lib.hid (show k < 1000000000 from by have := Nat.mod_lt at_ h0; omega)
  rw [← hk]
  clear hk
  clear h
  go_enter Tryz.func63, Tryz.ntmps63
  go_wp2_with fail
  obtain ⟨wd, hwd⟩ : ∃ wd, wd = w.drew := ⟨_, rfl⟩
  have HBd := Lib.hid (show Blk wd b #[.int .u64 at_, .int .u64 step, .int .u64 size] 99 from by rw [hwd]; exact HB.out.drew)
  have HKd := Lib.hid (show Kept (fun x => x ≠ b) w wd from by rw [hwd]; exact (Kept.refl _ w).drew)
  refine region_walkN (fun W => W = wd) (by rw [← hwd]) (by kernel_rfl) (by kernel_rfl) (fun _ _ d _ _ h => by cases d <;> exact h) ?_
  rw [← hwd]
  have g : ∀ W, W = wd → ∀ i, W.cell? ⟨b, i, none⟩ = (#[.int .u64 (at_ : Int), .int .u64 (step : Int), .int .u64 (size : Int)] : Array Value)[i]? := fun W h => by subst h; exact HBd.out.cells
  clear hwd
  ((refine WalkN.take 0 _ ?_ (by simp only [List.getElem?_toArray, List.getElem?_cons_zero]; rfl) (by kernel_rfl) (by kernel_rfl) (by rfl) (fun W hW => ?_) ?_; rotate_left; · (go_simp; try with_reducible rfl)); simp only [Act.put, List.setIfInBounds_toArray, List.set_cons_zero, List.set_cons_succ]); ((refine WalkN.take 1 _ ?_ (by simp only [List.getElem?_toArray, List.getElem?_cons_succ, List.getElem?_cons_zero]; rfl) (by kernel_rfl) (by kernel_rfl) (by rfl) (fun W hW => ?_) ?_; rotate_left; · (go_simp; try with_reducible rfl)); simp only [Act.put, List.setIfInBounds_toArray, List.set_cons_zero, List.set_cons_succ]); ((refine WalkN.take 2 _ ?_ (by simp only [List.getElem?_toArray, List.getElem?_cons_succ, List.getElem?_cons_zero]; rfl) (by kernel_rfl) (by kernel_rfl) (by rfl) (fun W hW => ?_) ?_; rotate_left; · (go_simp; try with_reducible rfl)); simp only [Act.put, List.setIfInBounds_toArray, List.set_cons_zero, List.set_cons_succ]); ((refine WalkN.take 3 _ ?_ (by simp only [List.getElem?_toArray, List.getElem?_cons_succ, List.getElem?_cons_zero]; rfl) (by kernel_rfl) (by kernel_rfl) (by rfl) (fun W hW => ?_) ?_; rotate_left; · (go_simp; try with_reducible rfl)); simp only [Act.put, List.setIfInBounds_toArray, List.set_cons_zero, List.set_cons_succ]); ((refine WalkN.take 4 _ ?_ (by simp only [List.getElem?_toArray, List.getElem?_cons_succ, List.getElem?_cons_zero]; rfl) (by kernel_rfl) (by kernel_rfl) (by rfl) (fun W hW => ?_) ?_; rotate_left; · (go_simp; try with_reducible rfl)); simp only [Act.put, List.setIfInBounds_toArray, List.set_cons_zero, List.set_cons_succ]); ((refine WalkN.take 5 _ ?_ (by simp only [List.getElem?_toArray, List.getElem?_cons_succ, List.getElem?_cons_zero]; rfl) (by kernel_rfl) (by kernel_rfl) (by rfl) (fun W hW => ?_) ?_; rotate_left; · (go_simp; try with_reducible rfl)); simp only [Act.put, List.setIfInBounds_toArray, List.set_cons_zero, List.set_cons_succ]); ((refine WalkN.take 6 _ ?_ (by simp only [List.getElem?_toArray, List.getElem?_cons_succ, List.getElem?_cons_zero]; rfl) (by kernel_rfl) (by kernel_rfl) (by rfl) (fun W hW => ?_) ?_; rotate_left; · (go_simp; try with_reducible rfl)); simp only [Act.put, List.setIfInBounds_toArray, List.set_cons_zero, List.set_cons_succ]); ((refine WalkN.take 7 _ ?_ (by simp only [List.getElem?_toArray, List.getElem?_cons_succ, List.getElem?_cons_zero]; rfl) (by kernel_rfl) (by kernel_rfl) (by rfl) (fun W hW => ?_) ?_; rotate_left; · (go_simp; try with_reducible rfl)); simp only [Act.put, List.setIfInBounds_toArray, List.set_cons_zero, List.set_cons_succ]); ((refine WalkN.take 8 _ ?_ (by simp only [List.getElem?_toArray, List.getElem?_cons_succ, List.getElem?_cons_zero]; rfl) (by kernel_rfl) (by kernel_rfl) (by rfl) (fun W hW => ?_) ?_; rotate_left; · (go_simp; try with_reducible rfl)); simp only [Act.put, List.setIfInBounds_toArray, List.set_cons_zero, List.set_cons_succ]); ((refine WalkN.take 9 _ ?_ (by simp only [List.getElem?_toArray, List.getElem?_cons_succ, List.getElem?_cons_zero]; rfl) (by kernel_rfl) (by kernel_rfl) (by rfl) (fun W hW => ?_) ?_; rotate_left; · (go_simp; try with_reducible rfl)); simp only [Act.put, List.setIfInBounds_toArray, List.set_cons_zero, List.set_cons_succ])
  refine WalkN.done (by kernel_rfl) ?_
  clear g htm hz
  go_wp2_with fail
  obtain ⟨we, hwe⟩ : ∃ we, we = wd.drew := ⟨_, rfl⟩
  have HBe := Lib.hid (show Blk we b #[.int .u64 at_, .int .u64 step, .int .u64 size] 99 from by rw [hwe]; exact HBd.out.drew)
  have HKe := Lib.hid (show Kept (fun x => x ≠ b) w we from by rw [hwe]; exact HKd.out.drew)
  refine region_walkL 11 (fun W => W = we) (by rw [← hwe]) (by kernel_rfl) (by kernel_rfl) (fun _ _ d _ _ h => by cases d <;> exact h) ?_
  rw [← hwe]
  have g : ∀ W, W = we → ∀ i, W.cell? ⟨b, i, none⟩ = (#[.int .u64 (at_ : Int), .int .u64 (step : Int), .int .u64 (size : Int)] : Array Value)[i]? := fun W h => by subst h; exact HBe.out.cells
  have gf := HBe.out.free
  have gc := HBe.out.cells
  have ew : IntKind.u64.wrap ((at_ : Int) + (step : Int)) = ((at_ + step : Nat) : Int) := by
    have e : ∀ n : Int, IntKind.u64.wrap n = n % 18446744073709551616 := fun n => by simp [IntKind.wrap, IntKind.bits, IntKind.signed]
    rw [e]; omega
  clear hwe
  ((refine WalkL.take 0 _ ?_ (by simp only [List.getElem?_toArray, List.getElem?_cons_zero]; rfl) (by kernel_rfl) (by kernel_rfl) (by kernel_rfl) (by rfl) (fun W hW => ?_) ?_; rotate_left; · (go_simp; try with_reducible rfl)); simp only [Act.put, List.setIfInBounds_toArray, List.set_cons_zero, List.set_cons_succ]); ((refine WalkL.take 1 _ ?_ (by simp only [List.getElem?_toArray, List.getElem?_cons_succ, List.getElem?_cons_zero]; rfl) (by kernel_rfl) (by kernel_rfl) (by kernel_rfl) (by rfl) (fun W hW => ?_) ?_; rotate_left; · (go_simp; try with_reducible rfl)); simp only [Act.put, List.setIfInBounds_toArray, List.set_cons_zero, List.set_cons_succ]); ((refine WalkL.take 2 _ ?_ (by simp only [List.getElem?_toArray, List.getElem?_cons_succ, List.getElem?_cons_zero]; rfl) (by kernel_rfl) (by kernel_rfl) (by kernel_rfl) (by rfl) (fun W hW => ?_) ?_; rotate_left; · (go_simp; try with_reducible rfl)); simp only [Act.put, List.setIfInBounds_toArray, List.set_cons_zero, List.set_cons_succ]); ((refine WalkL.take 3 _ ?_ (by simp only [List.getElem?_toArray, List.getElem?_cons_succ, List.getElem?_cons_zero]; rfl) (by kernel_rfl) (by kernel_rfl) (by kernel_rfl) (by rfl) (fun W hW => ?_) ?_; rotate_left; · (go_simp; try with_reducible rfl)); simp only [Act.put, List.setIfInBounds_toArray, List.set_cons_zero, List.set_cons_succ]); ((refine WalkL.take 4 _ ?_ (by simp only [List.getElem?_toArray, List.getElem?_cons_succ, List.getElem?_cons_zero]; rfl) (by kernel_rfl) (by kernel_rfl) (by kernel_rfl) (by rfl) (fun W hW => ?_) ?_; rotate_left; · (go_simp; try with_reducible rfl)); simp only [Act.put, List.setIfInBounds_toArray, List.set_cons_zero, List.set_cons_succ]); ((refine WalkL.take 5 _ ?_ (by simp only [List.getElem?_toArray, List.getElem?_cons_succ, List.getElem?_cons_zero]; rfl) (by kernel_rfl) (by kernel_rfl) (by kernel_rfl) (by rfl) (fun W hW => ?_) ?_; rotate_left; · (go_simp; try with_reducible rfl)); simp only [Act.put, List.setIfInBounds_toArray, List.set_cons_zero, List.set_cons_succ]); ((refine WalkL.take 6 _ ?_ (by simp only [List.getElem?_toArray, List.getElem?_cons_succ, List.getElem?_cons_zero]; rfl) (by kernel_rfl) (by kernel_rfl) (by kernel_rfl) (by rfl) (fun W hW => ?_) ?_; rotate_left; · (go_simp; try with_reducible rfl)); simp only [Act.put, List.setIfInBounds_toArray, List.set_cons_zero, List.set_cons_succ]); ((refine WalkL.take 7 _ ?_ (by simp only [List.getElem?_toArray, List.getElem?_cons_succ, List.getElem?_cons_zero]; rfl) (by kernel_rfl) (by kernel_rfl) (by kernel_rfl) (by rfl) (fun W hW => ?_) ?_; rotate_left; · (go_simp; try with_reducible rfl)); simp only [Act.put, List.setIfInBounds_toArray, List.set_cons_zero, List.set_cons_succ]); ((refine WalkL.take 8 _ ?_ (by simp only [List.getElem?_toArray, List.getElem?_cons_succ, List.getElem?_cons_zero]; rfl) (by kernel_rfl) (by kernel_rfl) (by kernel_rfl) (by rfl) (fun W hW => ?_) ?_; rotate_left; · (go_simp; try with_reducible rfl)); simp only [Act.put, List.setIfInBounds_toArray, List.set_cons_zero, List.set_cons_succ]); ((refine WalkL.take 9 _ ?_ (by simp only [List.getElem?_toArray, List.getElem?_cons_succ, List.getElem?_cons_zero]; rfl) (by kernel_rfl) (by kernel_rfl) (by kernel_rfl) (by rfl) (fun W hW => ?_) ?_; rotate_left; · (go_simp; try with_reducible rfl)); simp only [Act.put, List.setIfInBounds_toArray, List.set_cons_zero, List.set_cons_succ]); ((refine WalkL.take 10 _ ?_ (by simp only [List.getElem?_toArray, List.getElem?_cons_succ, List.getElem?_cons_zero]; rfl) (by kernel_rfl) (by kernel_rfl) (by kernel_rfl) (by rfl) (fun W hW => ?_) ?_; rotate_left; · (go_simp; try with_reducible rfl)); simp only [Act.put, List.setIfInBounds_toArray, List.set_cons_zero, List.set_cons_succ])
  refine WalkL.last (by kernel_rfl) (by kernel_rfl) ?_
  refine ⟨_, (by simp only [List.getElem?_toArray, List.getElem?_cons_succ, List.getElem?_cons_zero]; rfl), by rfl, fun K hK => ?_⟩
  go_simp
  refine hK.out _ _ ?_
  have HP := Lib.hid (show Prb (we.setCell ⟨b, 0, none⟩ (.int .u64 ((at_ : Int) + (step : Int)))) b (at_ + step) step size from HBe.out.set_to 0 _ (by rfl))
  have HK2 := Lib.hid (show Kept (fun x => x ≠ b) w (we.setCell ⟨b, 0, none⟩ (.int .u64 ((at_ : Int) + (step : Int)))) from HKe.out.set (a := ⟨b, 0, none⟩) (fun h => h rfl) _)
  generalize we.setCell ⟨b, 0, none⟩ (.int .u64 ((at_ : Int) + (step : Int))) = w5 at *
  have hm7 : bits .and .u64 (k : Int) 7 = ((k % 8 : Nat) : Int) := by
    have := u64_and_nat k 7 (by have := HKL.out; omega) (by decide)
    rw [nat_mask3] at this
    exact this
  have hk8 : k % 8 < 8 := Nat.mod_lt _ (by decide)
  have hkl := HKL.out
  have HV1 := Lib.hid (show ((k : Int) / 8) = ((k / 8 : Nat) : Int) from by omega)
  have HV2 := Lib.hid (show ((2 : Int) ^ (k % 8) % 256) = ((2 ^ (k % 8) : Nat) : Int) from by
    generalize k % 8 = m at hk8
    match m, hk8 with
    | 0, _ => rfl
    | 1, _ => rfl
    | 2, _ => rfl
    | 3, _ => rfl
    | 4, _ => rfl
    | 5, _ => rfl
    | 6, _ => rfl
    | 7, _ => rfl)
  clear hK g gf gc ew HBd HBe HKd HKe HB
  go_wp2_with fail
  go_ret2
  exact ⟨by rw [← HV1.out, ← HV2.out]; rfl, HP.out, HK2.out⟩

end Go.Proofs.YtmmeofiocbfamaaGreatDoor
namespace Go.Proofs.YtmmeofiocbfamaaGreatDoor
open Go Go.RowKit

theorem bloom_info : (Tryz.prog.info? 5).map (fun i => (i.zero, i.size, i.bytes)) = some (some (.int .u8 0), 1, 1) := by kernel_rfl
theorem make8 (n : Nat) (h : n ≤ 100000000) (z : Int) (hz : z = (n : Int)) : ∀ W, (Instr.makeSlice 24 (.int .i64 z) (.int .i64 (z + 1))).run Tryz.prog W = .ok (.slice (some ⟨W.heap.size, 0, none⟩) n (n + 1)) (W.alloc (.cells (madeCells #[.int .u8 0] (n + 1)) 5)) := by
  subst hz
  intro W
  obtain ⟨i, hi, hzz⟩ := Option.map_eq_some_iff.1 bloom_info
  simp only [Prod.mk.injEq] at hzz
  obtain ⟨hz, hs, hb⟩ := hzz
  have := run_make (P := Tryz.prog) W 24 5 i (.int .u8 0) Tryz.underlying24 hi hz .i64 .i64 n (n + 1) (by omega) (by omega) (by rw [hb]; omega) (by omega)
  rw [this, hs, Nat.mul_one]
  rfl
/-- The filter under work: n bytes with room for one more. -/
def FilG (w : World) (g n : Nat) (l : List UInt8) : Prop := l.length = n ∧ w.ownsRow g 5 1 (.slice (some ⟨g, 0, none⟩) n (n + 1)) n (bc l)
theorem FilG.made (w : World) (n : Nat) (h : n ≤ 100000000) : FilG (w.alloc (.cells (madeCells #[.int .u8 0] (n + 1)) 5)) w.heap.size n (List.replicate n 0) := by
  refine ⟨List.length_replicate, by rw [bc_length, List.length_replicate]; omega, .inr ⟨w.heap.size, n + 1, _, rfl, Nat.le_refl _, heap_alloc_new w _, by omega, by unfold maxLen; omega, by rw [size_madeCells]; omega, ?_⟩⟩
  apply List.ext_getElem?
  intro j
  rw [List.getElem?_take]
  by_cases hj : j < n
  · rw [if_pos (by omega)]
    simp [madeCells, bc, show j < n + 1 by omega, hj, Nat.mod_one]
  · rw [if_neg (by omega)]
    simp [bc, show n ≤ j by omega]
theorem FilG.keep {w w' : World} {g n : Nat} {l : List UInt8} (h : FilG w g n l) (e : w'.heap[g]? = w.heap[g]?) : FilG w' g n l := by
  refine ⟨h.1, h.2.1, ?_⟩
  rcases h.2.2 with ⟨h', _⟩ | ⟨g', cap', cur, h', hb, hg, r⟩
  · simp at h'
  · have h2 := h'
    simp only [Value.slice.injEq, Option.some.injEq, Addr.mk.injEq, and_true, true_and] at h2
    obtain ⟨rfl, rfl⟩ := h2
    exact .inr ⟨g, n + 1, cur, rfl, hb, e.trans hg, r⟩
theorem FilG.cell {w : World} {g n : Nat} {l : List UInt8} (h : FilG w g n l) {k : Nat} (hk : k < n) : w.cell? ⟨g, k, none⟩ = some (.int .u8 ((l.getD k 0).toNat : Nat)) := by
  rw [h.2.cellAt k (by omega)]
  have := h.1
  simp [bc, List.getD_eq_getElem?_getD, List.getElem?_eq_getElem (show k < l.length by omega)]
theorem FilG.lt {w : World} {g n : Nat} {l : List UInt8} (h : FilG w g n l) : g < w.heap.size := (h.2.lt g rfl).2
theorem FilG.set {w : World} {g n : Nat} {l : List UInt8} (h : FilG w g n l) (k : Nat) (m : Nat) (hm : m < 256) : FilG (w.setCell ⟨g, k, none⟩ (.int .u8 m)) g n (l.set k (UInt8.ofNat m)) := by
  refine ⟨by rw [List.length_set]; exact h.1, ?_⟩
  have := (h.2.stored k (.int .u8 m)).1
  have e : bc (l.set k (UInt8.ofNat m)) = (bc l).set k (.int .u8 m) := by
    unfold bc
    rw [List.map_set]
    congr 2
    simp only [UInt8.toNat_ofNat']
    omega
  rw [e]; exact this
theorem fillK_snoc (n i : Nat) (l key : List UInt8) : fillK n (i + 1) l key = setB (fillK n i l key) (plcN key (8 * n) i) := by
  unfold fillK
  rw [List.range_succ, List.foldl_append, List.foldl_cons, List.foldl_nil]
theorem foldk_snoc (n m : Nat) (z : List UInt8) (ks : List (List UInt8)) (i : Nat) (hi : i < ks.length) : (ks.take (i + 1)).foldl (fillK n m) z = fillK n m ((ks.take i).foldl (fillK n m) z) ks[i] := by
  rw [List.take_succ_eq_append_getElem hi, List.foldl_append, List.foldl_cons, List.foldl_nil]
theorem bitsN_bound (b : Int) : 1 ≤ bitsN b ∧ bitsN b ≤ 40 := by unfold bitsN; omega
theorem bitsN_eq (b : Int) : min (max b 1) 40 = ((bitsN b : Nat) : Int) := by unfold bitsN; omega

set_option maxRecDepth 100000 in
set_option maxHeartbeats 1000000 in
theorem make_any {S : Nat → Prop} (v : Value) (ks : List ByteArray) (b : Int) (w : World) (hSw : ∀ b, S b → b < w.heap.size) (h : Sl S w 1 v (sc ks)) (hl : ks.length ≤ 1000000) (hk : ∀ k ∈ ks, k.size ≤ 1000000000) :
    Calls Tryz.prog 32 #[v, .int .i64 b] w fun e w' => ∃ v', e = .returned v' ∧ Own w' w.heap.size 5 1 v' (bc (bloomB (ks.map fun k => k.data.toList) b)) ∧ Ext w w' := by
  have HS := Lib.hid h
  obtain ⟨ao, c, rfl, hlc, hcm, -, hcell⟩ := Sl.strs0 h
  have HC := Lib.hid hcell
  have HK := Lib.hid hk
  have HSW := Lib.hid hSw
  have HBE := Lib.hid (bitsN_eq b)
  have HBB := Lib.hid (bitsN_bound b)
  have HBL := Lib.hid (show bloomB (ks.map fun k => k.data.toList) b = (ks.map fun k => k.data.toList).foldl (fillK (bloomN ks.length (bitsN b)) (manyN (bitsN b))) (List.replicate (bloomN ks.length (bitsN b)) 0) ++ [UInt8.ofNat (manyN (bitsN b))] from by unfold bloomB; rw [List.length_map])
  generalize bitsN b = bn at *
  have hm : (ks.length : Int) * (bn : Int) = ((ks.length * bn : Nat) : Int) := by simp
  have hmb : ks.length * bn ≤ 40000000 := by have := Nat.mul_le_mul hl HBB.out.2; omega
  have HN := Lib.hid (show bloomN ks.length bn = (max (ks.length * bn) 64 + 7) / 8 from rfl)
  clear hcell h hk hSw
  go_enter Tryz.func32, Tryz.ntmps32
  have hbe := HBE.out
  generalize ks.length * bn = lb at *
  have hmk := make8 ((max lb 64 + 7) / 8) (by omega) ((max (lb : Int) 64 + 7) / 8) (by omega)
  have HN8 := Lib.hid (show (max (lb : Int) 64 + 7) / 8 = (((max lb 64 + 7) / 8 : Nat) : Int) from by omega)
  have HNB := Lib.hid (show 8 ≤ (max lb 64 + 7) / 8 ∧ (max lb 64 + 7) / 8 ≤ 10000000 from by omega)
  rw [HN.out] at HBL
  rw [HN8.out] at hmk
  clear HN
  generalize hn : (max lb 64 + 7) / 8 = n at *
  clear hn
  have hnb := HNB.out
  have hn8 := HN8.out
  go_wp2_with fail
  have HF0 := Lib.hid (FilG.made w n (by omega))
  have HX0 := Lib.hid (Ext.alloc w (.cells (madeCells #[.int .u8 0] (n + 1)) 5))
  generalize w.alloc (.cells (madeCells #[.int .u8 0] (n + 1)) 5) = wm at *
  clear hmk hn8 hm hbe
  have HMN := Lib.hid (manyN_bound bn)
  generalize hmn : manyN bn = m at *
  have HMM := Lib.hid hmn
  clear hmn
  generalize hks : ks.map (fun k => k.data.toList) = kl at *
  have HKL := Lib.hid (show kl.length = ks.length ∧ ∀ i (h : i < ks.length) (h' : i < kl.length), kl[i] = ks[i].data.toList from by subst hks; exact ⟨by rw [List.length_map], fun i h h' => by rw [List.getElem_map]⟩)
  have HKE := Lib.hid hks
  clear hks
  go_loopw [28] (fun iv wr => ∃ i : Nat, i ≤ ks.length ∧ iv = .int .i64 i ∧ FilG wr w.heap.size n ((kl.take i).foldl (fillK n m) (List.replicate n 0)) ∧ Ext w wr) (fun iv _ => ks.length - (intOf iv).toNat)
  case atStart => exact ⟨0, by omega, rfl, HF0.out, HX0.out⟩
  case round =>
    obtain ⟨i, hi, rfl, hf, hx⟩ := hrel
    have HF := Lib.hid hf
    have HX := Lib.hid hx
    clear hf hx
    by_cases hlt : i < ks.length
    · obtain ⟨bk, off, rfl, hbk, hcc⟩ := HC.out (by omega)
      have hcell := HX.out.cell (hcc i hlt)
      have HKS := Lib.hid (show (ks[i]).size ≤ 1000000000 from HK.out _ (List.getElem_mem hlt))
      have HI := Lib.hid (foldk_snoc n m (List.replicate n 0) kl i (by rw [HKL.out.1]; exact hlt))
      rw [HKL.out.2 i hlt (by rw [HKL.out.1]; exact hlt)] at HI
      generalize (kl.take i).foldl (fillK n m) (List.replicate n 0) = l0 at *
      generalize ks[i] = key at *
      clear hcc
      have HST := Lib.hid (show ∀ W, Calls Tryz.prog 61 #[.string key, .int .i64 (8 * (n : Int))] W fun e w' => e = .returned (.agg #[.int .u64 (hashB key.data.toList % 4294967296 : Nat), .int .u64 (stepD key.data.toList), .int .u64 (8 * n : Nat)]) ∧ Ext W w' from fun W => start_any key (8 * n) W HKS.out (by omega))
      have HH := Lib.hid (show hashB key.data.toList < 18446744073709551616 from hashF_lt (by decide) _)
      have HSD := Lib.hid (show stepD key.data.toList ≤ 4294967296 from by unfold stepD; have := HH.out; split <;> omega)
      have HPL := Lib.hid (show ∀ j, plcN key.data.toList (8 * n) j = (hashB key.data.toList % 4294967296 + j * stepD key.data.toList) % (8 * n) from fun _ => rfl)
      have HH2 := Lib.hid (show hashB key.data.toList % 4294967296 < 4294967296 from Nat.mod_lt _ (by decide))
      clear HH
      generalize hashB key.data.toList % 4294967296 = h0 at *
      generalize stepD key.data.toList = sd at *
      have hm8 : (n : Int) * 8 = ((8 * n : Nat) : Int) := by omega
      go_wp2_with fail
      refine (HST.out wr).mono ?_
      rintro e w1 ⟨rfl, hx1⟩
      have HX1 := Lib.hid (HX.out.trans hx1)
      have HF1 := Lib.hid (HF.out.keep (hx1.block _ HF.out.lt))
      clear HST hx1 hcell HF HX hm8
      go_wp2_with fail
      have HP2 := Lib.hid (show Prb (w1.alloc (.cells #[.int .u64 (h0 : Int), .int .u64 (sd : Int), .int .u64 (8 * (n : Int))] 99)) w1.heap.size h0 sd (8 * n) from Blk.made w1 _ _)
      have HX2 := Lib.hid (HX1.out.trans (Ext.alloc w1 (.cells #[.int .u64 (h0 : Int), .int .u64 (sd : Int), .int .u64 (8 * (n : Int))] 99)))
      have HF2 := Lib.hid (HF1.out.keep ((Ext.alloc w1 (.cells #[.int .u64 (h0 : Int), .int .u64 (sd : Int), .int .u64 (8 * (n : Int))] 99)).block _ HF1.out.lt))
      have HPB := Lib.hid (show w.heap.size < w1.heap.size from HF1.out.lt)
      generalize w1.alloc (.cells #[.int .u64 (h0 : Int), .int .u64 (sd : Int), .int .u64 (8 * (n : Int))] 99) = w2 at *
      have HMC := Lib.hid (show Calls Tryz.prog 62 #[.int .i64 bn] w2 fun e w' => e = .returned (.int .i64 m) ∧ w' = w2 from by have := many_any bn w2 HBB.out.2; rw [HMM.out] at this; exact this)
      generalize w1.heap.size = pb at *
      clear HX1 HF1
      refine HMC.out.mono ?_
      rintro e w3 ⟨rfl, rfl⟩
      clear HMC
      go_wp2_with fail
      go_loopw [38] (fun jv wr => ∃ j : Nat, j ≤ m ∧ jv = .int .i64 j ∧ FilG wr w.heap.size n (fillK n j l0 key.data.toList) ∧ Prb wr pb (h0 + j * sd) sd (8 * n) ∧ Ext w wr) (fun jv _ => m - (intOf jv).toNat)
      case atStart => exact ⟨0, by omega, rfl, HF2.out, by rw [Nat.zero_mul]; exact HP2.out, HX2.out⟩
      case round =>
        clear HF2 HP2 HX2
        obtain ⟨j, hj, rfl, hf, hp, hx⟩ := hrel
        have HF := Lib.hid hf
        have HP := Lib.hid hp
        have HX := Lib.hid hx
        clear hf hp hx
        by_cases hlj : j < m
        · have HM := Lib.hid hlj
          have hjs : j * sd ≤ 30 * 4294967296 := Nat.mul_le_mul (by have := HMN.out; omega) HSD.out
          have HN := Lib.hid (probe_next pb (h0 + j * sd) sd (8 * n) _ HP.out (by have := HH2.out; omega) (by have := HSD.out; omega) (by omega) (by omega))
          rw [← HPL.out j] at HN
          have HK8 := Lib.hid (fillK_snoc n j l0 key.data.toList)
          have HPLT := Lib.hid (plcN_lt key.data.toList n j (by omega))
          generalize fillK n j l0 key.data.toList = lj at *
          generalize plcN key.data.toList (8 * n) j = pl at *
          clear hjs
          have hmb := HMN.out
          have ej : wrap64 ((j : Int) + 1) = ((j + 1 : Nat) : Int) := by unfold wrap64; omega
          have em : m - (intOf (Value.int .i64 ((j + 1 : Nat) : Int))).toNat < m - (intOf (Value.int .i64 (j : Int))).toNat := by simp [intOf]; omega
          have EJ := Lib.hid ej
          clear ej hmb
          go_wp2_with fail
          refine HN.out.mono ?_
          rintro e w4 ⟨rfl, hp4, hk4⟩
          have HP4 := Lib.hid hp4
          have HX4 := Lib.hid (show Ext w w4 from Below.trans HX.out (hk4.below fun b hb => by have := HPB.out; omega))
          have HF4 := Lib.hid (HF.out.keep (hk4.block _ (by have := HPB.out; omega)))
          clear hp4 hk4 HP HX HF HN
          have hc4 := HF4.out.cell HPLT.out
          have hf4 := HF4.out.2.frozenAt (pl / 8)
          have hpl := HPLT.out
          go_wp2_with fail
          clear hpl hc4 hf4
          have hpw : (2 : Nat) ^ (pl % 8) < 256 := by
            have : (2 : Nat) ^ (pl % 8) < 2 ^ 8 := Nat.pow_lt_pow_right (by omega) (by omega)
            exact this
          have e1 : bits .or .u8 (((lj[pl / 8]?.getD 0).toNat : Nat) : Int) (2 ^ (pl % 8)) = (((lj[pl / 8]?.getD 0).toNat ||| 2 ^ (pl % 8) : Nat) : Int) := by
            have := u8_or_nat (lj[pl / 8]?.getD 0).toNat (2 ^ (pl % 8)) (UInt8.toNat_lt _) hpw
            rw [← this]; rfl
          rw [e1]
          rw [EJ.out]
          have hset := HF4.out.set (pl / 8) ((lj[pl / 8]?.getD 0).toNat ||| 2 ^ (pl % 8)) (or_lt8 _ _ (UInt8.toNat_lt _))
          refine ⟨⟨j + 1, HM.out, rfl, ?_, ?_, ?_⟩, em⟩
          · rw [HK8.out]; unfold setB; rw [List.getD_eq_getElem?_getD]; exact hset
          · have := HP4.out.other (a := ⟨w.heap.size, pl / 8, none⟩) (by show pb ≠ w.heap.size; have := HPB.out; omega) (.int .u8 (((lj[pl / 8]?.getD 0).toNat ||| 2 ^ (pl % 8) : Nat) : Int))
            rw [show h0 + j * sd + sd = h0 + (j + 1) * sd from by rw [Nat.succ_mul]; omega] at this
            exact this
          · exact Below.setCell HX4.out (Nat.le_refl _) _
        · obtain rfl : j = m := by omega
          go_wp2_with fail
          go_roundw
          case rel =>
            refine ⟨i + 1, by omega, by go_num, ?_, HX.out⟩
            rw [HI.out]; exact HF.out
          case measure => simp [intOf]; omega
    · obtain rfl : i = ks.length := by omega
      have e := HKL.out.1
      rw [List.take_of_length_le (by omega)] at HF
      have HMC := Lib.hid (show Calls Tryz.prog 62 #[.int .i64 bn] wr fun e w' => e = .returned (.int .i64 m) ∧ w' = wr from by have := many_any bn wr HBB.out.2; rw [HMM.out] at this; exact this)
      generalize kl.foldl (fillK n m) (List.replicate n 0) = lf at *
      have HCO := Lib.hid (show bc lf ++ [Value.int .u8 (m : Int)] = bc (lf ++ [UInt8.ofNat m]) from by
        have := HMN.out
        unfold bc
        rw [List.map_append]
        congr 1
        show [Value.int .u8 (m : Int)] = [Value.int .u8 ((UInt8.ofNat m).toNat : Int)]
        rw [show (UInt8.ofNat m).toNat = m from by simp only [UInt8.toNat_ofNat']; omega])
      have HLF := Lib.hid HF.out.1
      have HOW := Lib.hid (show Own wr w.heap.size 5 1 (.slice (some ⟨w.heap.size, 0, none⟩) n (n + 1)) (bc lf) from ⟨n, HF.out.2⟩)
      have hm256 : (m : Int) % 256 = (m : Int) := by have := HMN.out; omega
      clear HC HK HSW HKL
      go_wp2_with fail
      refine HMC.out.mono ?_
      rintro e w3 ⟨rfl, rfl⟩
      clear HMC
      go_wp2_with (at_builtin; go_must (refine wpList_own_lit bytesT rfl (.tmp 53) (.tmp 57) rfl rfl HOW.out rfl rfl (by simp [Value.oneCell']) (by rw [bc_length, HLF.out]; simp; omega) (by rw [bc_length, HLF.out]; simp; omega) HX.out.size ?_; intro v5 w5 hown5 hb5 hgr5; have HO5 := Lib.hid (show Own w5 w.heap.size 5 1 v5 (bc (lf ++ [UInt8.ofNat m])) from by rw [← HCO.out]; exact hown5); have HX5 := Lib.hid (show Ext w w5 from Below.trans HX.out hb5); obtain ⟨ao5, n5, c5, rfl, -, -, -⟩ := hown5.sl.len; clear hown5 hb5 hgr5))
      go_ret
      exact ⟨_, rfl, by rw [HKE.out, HBL.out]; exact HO5.out, HX5.out⟩

end Go.Proofs.YtmmeofiocbfamaaGreatDoor
