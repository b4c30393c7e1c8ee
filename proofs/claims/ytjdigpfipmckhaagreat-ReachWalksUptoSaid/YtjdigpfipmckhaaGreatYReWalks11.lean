/- Lemmas for the claim, no condition. -/
import Derived.Test.YtjdigpfipmckhaaGreatYReWalks10
import Derived.Test.YtjdigpfipmckhaaGreatYReWalks0
namespace Go.Proofs.YtjdigpfipmckhaaGreat
open Go Go.RowKit Go.Maps
set_option maxRecDepth 100000 in
set_option maxHeartbeats 400000 in
theorem indexI_any {S : Nat → Prop} (v : Value) (l : List Int) (k : Int) (w : World) (h : Sl S w 1 v (ic l)) :
    Calls Tryz.prog 183 #[v, .int .i64 k] w fun e w' => (∃ i : Int, e = .returned (.int .i64 i) ∧ (0 ≤ i ↔ k ∈ l)) ∧ w' = w := by
  obtain ⟨ao, c, rfl, hlc, hcm, hc⟩ := h.ints
  have HC := Lib.hid hc
  clear hc h
  go_enter Tryz.func183, Tryz.ntmps183
  go_wp2_with fail
  go_loopw [5, 8] (fun _ iv wr => ∃ i : Nat, i ≤ l.length ∧ iv = .int .i64 i ∧ (∀ j (hj : j < l.length), j < i → l[j] ≠ k) ∧ wr = w) (fun _ iv _ => l.length - (intOf iv).toNat)
  case atStart => exact ⟨0, Nat.zero_le _, rfl, (fun _ _ h => absurd h (Nat.not_lt_zero _)), rfl⟩
  case round =>
    obtain ⟨i, hi, rfl, hall, rfl⟩ := hrel
    have HALL := Lib.hid hall
    clear hall
    by_cases hlt : i < l.length
    · obtain ⟨b, off, rfl, -, hcl⟩ := HC.out i hlt
      by_cases he : l[i] = k
      · have HM := Lib.hid (show k ∈ l from he ▸ List.getElem_mem hlt)
        rw [he] at hcl
        clear he
        go_wp2_with fail
        go_ret
        exact ⟨⟨_, rfl, ⟨fun _ => HM.out, fun _ => by omega⟩⟩, rfl⟩
      · have HN := Lib.hid (show ∀ j (hj : j < l.length), j < i + 1 → l[j] ≠ k from fun j hj h => (Nat.lt_succ_iff_lt_or_eq.1 h).elim (fun e => HALL.out j hj e) (fun e => by subst e; exact he))
        generalize l[i] = x at *
        have hne : ¬ (k = x) := fun e => he e.symm
        have hnb : (k == x) = false := by simpa using hne
        have HIL := Lib.hid hlt
        clear he
        go_wp2_with fail
        go_roundw
        case rel => exact ⟨i + 1, HIL.out, by go_num, HN.out, trivial⟩
        case measure => have := HIL.out; simp [intOf]; omega
    · obtain rfl : i = l.length := by omega
      have HN := Lib.hid (show k ∉ l from fun hk => by obtain ⟨j, hj, e⟩ := List.getElem_of_mem hk; exact HALL.out j hj hj e)
      go_wp2_with fail
      go_ret
      exact ⟨⟨_, rfl, ⟨fun h => absurd h (by decide), fun h => absurd h HN.out⟩⟩, rfl⟩
set_option maxRecDepth 100000 in
theorem containsI_any {S : Nat → Prop} (v : Value) (l : List Int) (k : Int) (w : World) (h : Sl S w 1 v (ic l)) :
    Calls Tryz.prog 157 #[v, .int .i64 k] w fun e w' => e = .returned (.bool (decide (k ∈ l))) ∧ w' = w := by
  have HI := Lib.hid (indexI_any v l k w h)
  obtain ⟨ao, c, rfl, -, -, -⟩ := h.ints
  clear h
  go_enter Tryz.func157, Tryz.ntmps157
  go_wp2_with fail
  refine HI.out.mono ?_
  rintro e w1 ⟨⟨i, rfl, hi⟩, rfl⟩
  by_cases hk : k ∈ l
  · have h0 := hi.2 hk
    clear hi
    go_wp2_with fail
    go_ret
    exact ⟨by rw [decide_eq_true hk]; rfl, rfl⟩
  · have h0 : ¬ (0 ≤ i) := fun h => hk (hi.1 h)
    have hd : decide (0 ≤ i) = false := decide_eq_false h0
    clear hi h0
    go_wp2_with fail
    go_ret
    exact ⟨by rw [decide_eq_false hk]; rfl, rfl⟩
end Go.Proofs.YtjdigpfipmckhaaGreat
namespace Go.Proofs.YtjdigpfipmckhaaGreat
open Go Go.RowKit
theorem pointsT : ElemT Tryz.prog 34 30 3 48 := ElemT.mk' Tryz.underlying34 (show _ = some (some (.agg #[.string ByteArray.empty, .string ByteArray.empty, .string ByteArray.empty]), 3, 48) by kernel_rfl) rfl (by decide)
theorem subsT : ElemT Tryz.prog 52 63 3 48 := ElemT.mk' Tryz.underlying52 (show _ = some (some (.agg #[.string ByteArray.empty, .string ByteArray.empty, .string ByteArray.empty]), 3, 48) by kernel_rfl) rfl (by decide)
theorem pcs_length (l : List P3) : (pcs l).length = 3 * l.length := by
  unfold pcs
  induction l with
  | nil => rfl
  | cons a r ih => rw [List.flatMap_cons, List.length_append, ih, pC_length, List.length_cons]; omega
theorem pcs_one (l : List P3) : ∀ u ∈ pcs l, u.oneCell' = true := by
  intro u hu
  obtain ⟨a, _, ha⟩ := List.mem_flatMap.1 hu
  exact pC_one a u ha
theorem pcs_append (a b : List P3) : pcs (a ++ b) = pcs a ++ pcs b := List.flatMap_append
theorem pcs_single (a : P3) : pcs [a] = pC a := by simp [pcs]
end Go.Proofs.YtjdigpfipmckhaaGreat
namespace Go.Proofs.YtjdigpfipmckhaaGreat
open Go Go.RowKit
def ahead (ops : Array Oper) : Nat → Nat → Nat → Bool
  | 0, _, _ => false
  | f + 1, i, j => match ops[j]? with
    | some o => o.after.any fun e => Region.binds .any e && (e.on == i || ahead ops f i e.on)
    | none => false
def Closed (ops : Array Oper) (l : Array Bool) : Prop :=
  ∀ j o, ops[j]? = some o → l.getD j false = true → ∀ e ∈ o.after, Region.binds .any e = true → l.getD e.on false = true
theorem ahead_listed {ops : Array Oper} {l : Array Bool} (hc : Closed ops l) : ∀ (f i j : Nat), ahead ops f i j = true →
    (∀ o, ops[j]? = some o → ∀ e ∈ o.after, Region.binds .any e = true → l.getD e.on false = true) → l.getD i false = true
  | 0, _, _, h, _ => by simp [ahead] at h
  | f + 1, i, j, h, hl => by
    unfold ahead at h
    cases ho : ops[j]? with
    | none => rw [ho] at h; simp at h
    | some o =>
      rw [ho] at h
      simp only [Array.any_eq_true', Bool.and_eq_true, Bool.or_eq_true, beq_iff_eq] at h
      obtain ⟨e, he, hb, h⟩ := h
      have h1 := hl o ho e he hb
      rcases h with h | h
      · exact h ▸ h1
      · exact ahead_listed hc f i e.on h fun o' ho' e' he' hb' => hc _ o' ho' h1 e' he' hb'
theorem Closed.set {ops : Array Oper} {l : Array Bool} (hc : Closed ops l) {j : Nat} (hj : j ∈ Region.ready .any ops l) : Closed ops (l.setIfInBounds j true) := by
  intro k o ho hk e he hb
  refine getD_set_true ?_
  by_cases hkj : k = j
  · subst hkj
    obtain ⟨_, o', ho', hall⟩ := mem_ready.1 hj
    rw [ho] at ho'
    cases ho'
    exact hall e he hb
  · rw [getD_set_ne false (Ne.symm hkj)] at hk
    exact hc k o ho hk e he hb
theorem Closed.start (ops : Array Oper) (n : Nat) : Closed ops (Array.replicate n false) := by
  intro j o _ hj
  simp only [Array.getD_eq_getD_getElem?, Array.getElem?_replicate] at hj
  split at hj <;> simp at hj
section
variable {P : Program} {ops : Array Oper} {Q : Exit → Act → World → Prop} {S : World → Prop} {L : Nat}
def wpAnyL (P : Program) (ops : Array Oper) (Q : Exit → Act → World → Prop) (S : World → Prop) (L : Nat) : Nat → Array Bool → Act → World → Prop
  | 0, l, a, w => Region.ready .any ops l = [] ∧ Q .normal a w
  | f + 1, l, a, w => (Region.ready .any ops l = [] → Q .normal a w) ∧
      ∀ i ∈ Region.ready .any ops l, wpOp P ops Q i (fun a' w' => (i ≠ L → S w') ∧ wpAnyL P ops Q S L f (l.setIfInBounds i true) a' w') a w
theorem wpAnyL_any : ∀ (f : Nat) (l : Array Bool) (a : Act) (w : World), wpAnyL P ops Q S L f l a w → wpAny P .any ops Q f l a w
  | 0, _, _, _, h => h
  | f + 1, _, _, _, h => ⟨h.1, fun i hi => wpOp_mono (fun a' w' k => wpAnyL_any f _ a' w' k.2) (h.2 i hi)⟩
theorem wpAnyL_done {l : Array Bool} {a : Act} {w : World} (hr : Region.ready .any ops l = []) (h : Q .normal a w) : ∀ f, wpAnyL P ops Q S L f l a w
  | 0 => ⟨hr, h⟩
  | _ + 1 => ⟨fun _ => h, by rw [hr]; simp⟩
theorem unlisted {l : Array Bool} {i : Nat} (h : l.getD i true = false) (k : l.getD i false = true) : False := by
  rcases Nat.lt_or_ge i l.size with h' | h'
  · simp [h'] at h k
    rw [h] at k
    cases k
  · simp [Array.getElem?_eq_none h'] at k
theorem wpAnyL_take {i : Nat} {oi : Oper} {v : Value} (hi : ops[i]? = some oi) (hsel : Region.noSelect ops = true)
    (hQ : ∀ c a w, Q (.panic c) (Act.put a oi.dst v) w → Q (.panic c) a w) {n : Nat} (hL : ahead ops n i L = true) :
    ∀ (f : Nat) (l : Array Bool) (a : Act) (w : World), Closed ops l →
      (∀ j oj, ops[j]? = some oj → j ≠ i → l.getD j true = false → (∀ e ∈ oj.after, Region.binds .any e = true → e.on ≠ i) → oi.apart ops oj = true) →
      i ∈ Region.ready .any ops l → YieldsIf P ops S oi v a → S w → wpAnyL P ops Q S L f (l.setIfInBounds i true) (a.put oi.dst v) w → wpAnyL P ops Q S L (f + 1) l a w := by
  intro f
  induction f with
  | zero =>
    intro l a w _ _ hr hy hS H
    refine ⟨fun h => (by rw [h] at hr; cases hr), fun j hj => ?_⟩
    by_cases hji : j = i
    · subst hji
      exact hy.wpOp hi hS ⟨fun _ => hS, H⟩
    · have := ready_mono hj hji
      rw [H.1] at this
      cases this
  | succ f ih =>
    intro l a w hc hfree hr hy hS H
    refine ⟨fun h => (by rw [h] at hr; cases hr), fun j hj => ?_⟩
    by_cases hji : j = i
    · subst hji
      exact hy.wpOp hi hS ⟨fun _ => hS, H⟩
    · obtain ⟨hjun, oj, hoj, hall⟩ := mem_ready.1 hj
      have hiun := (mem_ready.1 hr).1
      have hjL : j ≠ L := by
        intro e
        subst e
        exact unlisted hiun (ahead_listed hc n i j hL fun o ho e he hb => by rw [hoj] at ho; cases ho; exact hall e he hb)
      have hnot : ∀ e ∈ oj.after, Region.binds .any e = true → e.on ≠ i := fun e he hb heq => unlisted hiun (heq ▸ hall e he hb)
      have h2 := wpOp_putIf hoj (hfree j oj hoj hji hjun hnot) (fun cs b => Region.noSelect_spec hsel i oi cs b hi) (fun cs b => Region.noSelect_spec hsel j oj cs b hoj) hQ hy (H.2 j (ready_mono hj hji))
      refine wpOp_mono (fun a' w' k => ⟨k.2.1, ih (l.setIfInBounds j true) a' w' (hc.set hj) (fun m om hom hmi hun hno => ?_) (ready_mono hr (Ne.symm hji)) k.1 (k.2.1 hjL) ?_⟩) h2
      · refine hfree m om hom hmi ?_ hno
        by_cases hjm : j = m
        · exact hjm ▸ hjun
        · rwa [getD_set_ne true hjm] at hun
      · rw [Array.setIfInBounds_comm _ _ hji]
        exact k.2.2
def WalkL (P : Program) (ops : Array Oper) (Q : Exit → Act → World → Prop) (S : World → Prop) (L : Nat) : Nat → Array Bool → Act → World → Prop
  | 0, l, a, w => Region.ready .any ops l = [] ∧ Q .normal a w
  | f + 1, l, a, w => (Region.ready .any ops l = [] ∧ Q .normal a w) ∨
      (∃ i o v, ops[i]? = some o ∧ Region.free .any ops l i = true ∧ (Region.ready .any ops l).contains i = true ∧ ahead ops ops.size i L = true ∧ YieldsIf P ops S o v a ∧ WalkL P ops Q S L f (l.setIfInBounds i true) (a.put o.dst v) w) ∨
      (Region.ready .any ops l ≠ [] ∧ ∀ i ∈ Region.ready .any ops l, ∃ o, ops[i]? = some o ∧ ∀ K' : Act → World → Prop, Shut (∀ a' w', S w' → WalkL P ops Q S L f (l.setIfInBounds i true) a' w' → K' a' w') →
        if Region.wanted o (yielded ops a.tmps) = true then Oper.wp P o a w K' Q else K' (a.put o.dst undef) w) ∨
      (Region.ready .any ops l = [L] ∧ Region.ready .any ops (l.setIfInBounds L true) = [] ∧ ∃ o, ops[L]? = some o ∧ Region.wanted o (yielded ops a.tmps) = true ∧ ∀ K' : Act → World → Prop, Shut (∀ a' w', Q .normal a' w' → K' a' w') → Oper.wp P o a w K' Q)
theorem walkL_sound (hns : Region.noSelect ops = true) (hQ : ∀ c a d v w, Q (.panic c) (Act.put a d v) w → Q (.panic c) a w) :
    ∀ (f : Nat) (l : Array Bool) (a : Act) (w : World), Closed ops l → S w → WalkL P ops Q S L f l a w → wpAnyL P ops Q S L f l a w
  | 0, _, _, _, _, _, h => h
  | f + 1, l, a, w, hc, hs, h => by
    rcases h with ⟨h1, h2⟩ | ⟨i, o, v, ho, hf, hr, hL, hy, h⟩ | ⟨hne, h⟩ | ⟨h1, h2, o, ho, hw, h⟩
    · exact wpAnyL_done h1 h2 _
    · exact wpAnyL_take ho hns (fun c a w => hQ c a _ _ w) hL f l a w hc (Region.free_spec ho hf) (by simpa using hr) hy hs (walkL_sound hns hQ f _ _ w (hc.set (by simpa using hr)) hs h)
    · refine ⟨fun e => absurd e hne, fun i hi => ?_⟩
      obtain ⟨o, ho, hst⟩ := h i hi
      exact wpOp_step ho (fun K' hK => hst K' (fun a' w' he hw => hK a' w' ⟨fun _ => he, walkL_sound hns hQ f _ a' w' (hc.set hi) he hw⟩))
    · refine ⟨fun e => (by rw [e] at h1; exact absurd h1.symm (List.cons_ne_nil _ _)), fun i hi => ?_⟩
      rw [h1] at hi
      obtain rfl : i = L := by simpa using hi
      exact wpOp_step ho (fun K' hK => by rw [if_pos hw]; exact h K' (fun a' w' hq => hK a' w' ⟨fun e => absurd rfl e, wpAnyL_done h2 hq _⟩))
theorem region_walkL {id : Nat} {a : Act} {w : World} (L : Nat) (S : World → Prop) (hS : S w.drew) (hm : P.follows .mixedOrders = true) (hns : Region.noSelect ops = true) (hQ : ∀ c a d v w, Q (.panic c) (Act.put a d v) w → Q (.panic c) a w)
    (h : WalkL P ops Q S L ops.size (Array.replicate ops.size false) a w.drew) : (Code.region id ops true).wp P Q a w :=
  wp_region_any hm (wpAnyL_any _ _ _ _ (walkL_sound hns hQ _ _ a w.drew (Closed.start _ _) hS h))
theorem WalkL.take {f : Nat} {l : Array Bool} {a : Act} {w : World} (i : Nat) (o : Oper) (v : Value) (ho : ops[i]? = some o) (hf : Region.free .any ops l i = true) (hr : (Region.ready .any ops l).contains i = true) (hL : ahead ops ops.size i L = true)
    (hw : Region.wanted o (yielded ops a.tmps) = true) (hy : ∀ W, S W → (execOp a.eval o).run P W = .ok (.value v) W) (h : WalkL P ops Q S L f (l.setIfInBounds i true) (a.put o.dst v) w) : WalkL P ops Q S L (f + 1) l a w :=
  .inr (.inl ⟨i, o, v, ho, hf, hr, hL, .inl ⟨hw, hy⟩, h⟩)
def TkL (P : Program) (ops : Array Oper) (Q : Exit → Act → World → Prop) (S : World → Prop) (L : Nat) : List Nat → Nat → Array Bool → Act → World → Prop
  | [], f, l, a, w => WalkL P ops Q S L f l a w
  | i :: is, f, l, a, w => ∃ g, f = g + 1 ∧ ∃ o v, ops[i]? = some o ∧ Region.free .any ops l i = true ∧ (Region.ready .any ops l).contains i = true ∧ ahead ops ops.size i L = true ∧ Region.wanted o (yielded ops a.tmps) = true ∧ (∀ W, S W → (execOp a.eval o).run P W = .ok (.value v) W) ∧ TkL P ops Q S L is g (l.setIfInBounds i true) (a.put o.dst v) w
theorem WalkL.tk (is : List Nat) : ∀ {f : Nat} {l : Array Bool} {a : Act} {w : World}, TkL P ops Q S L is f l a w → WalkL P ops Q S L f l a w := by
  induction is with
  | nil => exact fun h => h
  | cons i is ih =>
    rintro f l a w ⟨g, rfl, o, v, ho, hf, hr, hL, hw, hy, h⟩
    exact WalkL.take i o v ho hf hr hL hw hy (ih h)
theorem TkL.c {f : Nat} {l : Array Bool} {a : Act} {w : World} {i : Nat} {is : List Nat} (o : Oper) (v : Value) (ho : ops[i]? = some o) (hf : Region.free .any ops l i = true) (hr : (Region.ready .any ops l).contains i = true) (hL : ahead ops ops.size i L = true)
    (hw : Region.wanted o (yielded ops a.tmps) = true) (hy : ∀ W, S W → (execOp a.eval o).run P W = .ok (.value v) W) (h : TkL P ops Q S L is f (l.setIfInBounds i true) (a.put o.dst v) w) : TkL P ops Q S L (i :: is) (f + 1) l a w :=
  ⟨f, rfl, o, v, ho, hf, hr, hL, hw, hy, h⟩
theorem TkL.n {f : Nat} {l : Array Bool} {a : Act} {w : World} (h : WalkL P ops Q S L f l a w) : TkL P ops Q S L [] f l a w := h
def MadeL (P : Program) (ops : Array Oper) (Q : Exit → Act → World → Prop) (S : World → Prop) (L f : Nat) (l : Array Bool) (a : Act) (w : World) (i : Nat) : Prop :=
  ∃ o, ops[i]? = some o ∧ Region.wanted o (yielded ops a.tmps) = true ∧ ∀ K' : Act → World → Prop, Shut (∀ a' w', S w' → WalkL P ops Q S L f (l.setIfInBounds i true) a' w' → K' a' w') → Oper.wp P o a w K' Q
theorem WalkL.one {f : Nat} {l : Array Bool} {a : Act} {w : World} (i : Nat) (hr : Region.ready .any ops l = [i]) (h : MadeL P ops Q S L f l a w i) : WalkL P ops Q S L (f + 1) l a w := by
  refine .inr (.inr (.inl ⟨by rw [hr]; simp, fun j hj => ?_⟩))
  rw [hr] at hj
  obtain rfl : j = i := by simpa using hj
  obtain ⟨o, ho, hw, h⟩ := h
  exact ⟨o, ho, fun K hK => by rw [if_pos hw]; exact h K hK⟩
theorem WalkL.last {f : Nat} {l : Array Bool} {a : Act} {w : World} (hr : Region.ready .any ops l = [L]) (hr' : Region.ready .any ops (l.setIfInBounds L true) = [])
    (h : ∃ o, ops[L]? = some o ∧ Region.wanted o (yielded ops a.tmps) = true ∧ ∀ K' : Act → World → Prop, Shut (∀ a' w', Q .normal a' w' → K' a' w') → Oper.wp P o a w K' Q) : WalkL P ops Q S L (f + 1) l a w :=
  .inr (.inr (.inr ⟨hr, hr', h⟩))
end
end Go.Proofs.YtjdigpfipmckhaaGreat
namespace Go.Proofs.YtjdigpfipmckhaaGreat
open Go Go.RowKit Go.Maps
set_option maxRecDepth 100000 in
set_option maxHeartbeats 1600000 in
theorem number_any (wp am B : Nat) (tv fi sm pv fv : Value) (ps : List P3) (p : P3) (w : World) (hp : p.Ok) (h : WkAt w wp am B tv fi sm ps pv fv) (hB : B ≤ wp ∧ B ≤ am) (hl : ps.length ≤ 1073741824) :
    Calls Tryz.prog 52 #[.pointer (some ⟨wp, 0, none⟩), pV p] w fun e w' => ∃ pv', e = .returned (.int .i64 (numD ps p : Nat)) ∧ WkAt w' wp am B tv fi sm (putP ps p) pv' fv ∧ Fine wp am w w' pv pv' := by
  have HBB := Lib.hid hB
  have HB0 := Lib.hid (show B ≤ w.heap.size from by have := h.box.lt; omega)
  have HLT := Lib.hid (show wp < w.heap.size ∧ am < w.heap.size from ⟨h.box.lt, h.num.lt⟩)
  have HOK := Lib.hid hp
  have HPT := Lib.hid h.ptNe
  have HPL := Lib.hid h.pts.block
  obtain ⟨po, n, pc, rfl, hn, -, -⟩ := h.pts.sl.len
  rw [pcs_length] at hn
  obtain rfl : n = ps.length := by omega
  have HK := Lib.hid (point_key p hp)
  have HLK := Lib.hid (look_zip p ps 0)
  have HPU := Lib.hid (put_zip p ps)
  have HNW := Lib.hid (numD_new ps p)
  have HPP := Lib.hid (show putP ps p = if p ∈ ps then ps else ps ++ [p] from rfl)
  obtain ⟨pt, pi, pr⟩ := p
  have hx1 := Ext.alloc w (.cells #[.string pt, .string pi, .string pr] 30)
  have HW1 := Lib.hid (h.ext hx1)
  have HP1 := Lib.hid (Blk.made w #[.string pt, .string pi, .string pr] 30)
  have HX1 := Lib.hid hx1
  clear hx1 h hB hp hn
  unfold pV
  dsimp only
  go_enter Tryz.func52, Tryz.ntmps52
  go_wp2_with fail
  obtain ⟨wd, hwd⟩ : ∃ wd, wd = (w.alloc (.cells #[.string pt, .string pi, .string pr] 30)).drew := ⟨_, rfl⟩
  have HWd := Lib.hid (show WkAt wd wp am B tv fi sm ps (.slice po ps.length pc) fv from by rw [hwd]; exact HW1.out.ext (Ext.drew _))
  have HPd := Lib.hid (show Blk wd w.heap.size #[.string pt, .string pi, .string pr] 30 from by rw [hwd]; exact HP1.out.drew)
  have HXd := Lib.hid (show Ext w wd from by rw [hwd]; exact HX1.out.trans (Ext.drew _))
  refine region_walkN (Ext wd) (by rw [← hwd]; exact Ext.refl _) (by kernel_rfl) (by kernel_rfl) (fun _ _ d _ _ h => by cases d <;> exact h) ?_
  rw [← hwd]
  clear hwd HW1 HP1 HX1
  have h1 := fun W (h : Ext wd W) => (HWd.out.box.below h).cells
  have h2 := fun W (h : Ext wd W) => (HPd.out.below h).cells
  have hlook := fun W (h : Ext wd W) => (HWd.out.num.below h).look pointK pV_inj Tryz.underlying114 (Tryz.zeroValue3 W) true HK.out
  rw [HLK.out] at hlook
  by_cases hm : (⟨pt, pi, pr⟩ : P3) ∈ ps
  · rw [if_pos hm, Nat.zero_add] at hlook
    have HR := Lib.hid (show putP ps ⟨pt, pi, pr⟩ = ps from by rw [HPP.out, if_pos hm])
    clear hm
    unfold lookV pV at hlook
    dsimp only at hlook
    (refine WalkN.tk [0, 1, 2, 3, 4, 5, 6, 7, 8, 9, 10] ?_; (iterate 11 ((refine TkN.c _ ?_ (by simp only [gtA, gtS, gtZ]; rfl) (by kernel_rfl) (by kernel_rfl) (by rfl) (fun W hW => ?_) ?_; rotate_left; · (go_simp; try with_reducible rfl)); simp only [Act.put, puA, puZ, puS])); refine TkN.n ?_)
    refine WalkN.done (by kernel_rfl) ?_
    clear h1 h2 hlook
    go_wp2_with fail
    go_ret
    exact ⟨_, rfl, by rw [HR.out]; exact HWd.out, Fine.of _ _ _ HXd.out⟩
  · rw [if_neg hm] at hlook
    have HR := Lib.hid (show putP ps ⟨pt, pi, pr⟩ = ps ++ [⟨pt, pi, pr⟩] from by rw [HPP.out, if_neg hm])
    have HNN := Lib.hid (HNW.out hm)
    have HPN := Lib.hid (HPU.out hm)
    clear hm
    unfold lookV pV at hlook
    dsimp only at hlook
    (refine WalkN.tk [0, 1, 2, 3, 4, 5, 6, 7, 8, 9, 10] ?_; (iterate 11 ((refine TkN.c _ ?_ (by simp only [gtA, gtS, gtZ]; rfl) (by kernel_rfl) (by kernel_rfl) (by rfl) (fun W hW => ?_) ?_; rotate_left; · (go_simp; try with_reducible rfl)); simp only [Act.put, puA, puZ, puS])); refine TkN.n ?_)
    refine WalkN.done (by kernel_rfl) ?_
    clear h1 h2 hlook
    have hcw := HWd.out.box.cells
    go_wp2_with fail
    clear hcw
    obtain ⟨we, hwe⟩ : ∃ we, we = wd.drew := ⟨_, rfl⟩
    have HWe := Lib.hid (show WkAt we wp am B tv fi sm ps (.slice po ps.length pc) fv from by rw [hwe]; exact HWd.out.ext (Ext.drew _))
    have HPe := Lib.hid (show Blk we w.heap.size #[.string pt, .string pi, .string pr] 30 from by rw [hwe]; exact HPd.out.drew)
    have HXe := Lib.hid (show Ext w we from by rw [hwe]; exact HXd.out.trans (Ext.drew _))
    refine region_walkN (Kept (· ≠ am) we) (by rw [← hwe]; exact Kept.refl _ _) (by kernel_rfl) (by kernel_rfl) (fun _ _ d _ _ h => by cases d <;> exact h) ?_
    rw [← hwe]
    clear hwe HWd HPd HXd
    have HNEP := Lib.hid (show w.heap.size ≠ am from fun e => HWe.out.num.notCells _ _ _ (e ▸ HPe.out))
    have h1 := fun W (h : Kept (· ≠ am) we W) => (h.blk HWe.out.box HWe.out.ne).cells
    have h2 := fun W (h : Kept (· ≠ am) we W) => (h.blk HPe.out HNEP.out).cells
    (refine WalkN.tk [0, 1, 2, 3, 4, 5] ?_; (iterate 6 ((refine TkN.c _ ?_ (by simp only [gtA, gtS, gtZ]; rfl) (by kernel_rfl) (by kernel_rfl) (by rfl) (fun W hW => ?_) ?_; rotate_left; · (go_simp; try with_reducible rfl)); simp only [Act.put, puA, puZ, puS])); refine TkN.n ?_)
    clear h1 h2
    obtain ⟨wf, hrun, hMf, hTf⟩ := HWe.out.num.store pointK pV_inj Tryz.underlying114 HK.out (ps.length : Nat)
    rw [HPN.out] at hMf
    unfold pV at hrun
    dsimp only at hrun
    refine WalkN.one 6 (by kernel_rfl) ?_
    refine ⟨_, (by simp only [gtA, gtS, gtZ]; rfl), by rfl, fun K hK => ?_⟩
    go_simp
    refine hK.out _ _ hTf.kept ?_
    clear hK hrun
    refine WalkN.done (by kernel_rfl) ?_
    have HBf := Lib.hid (hTf.kept.blk HWe.out.box HWe.out.ne)
    have HPf := Lib.hid (hTf.kept.blk HPe.out HNEP.out)
    have HMf := Lib.hid hMf
    have HOf := Lib.hid (HWe.out.pts.keepOwn fun g hg => hTf.kept.block g (HPT.out g hg).2)
    have HQf := Lib.hid (show Kept (KX wp am w (.slice po ps.length pc)) w wf from (Below.kept HXe.out fun x hx => hx.1).trans (hTf.kept.mono fun x hx => hx.2.2.1))
    have HZf := Lib.hid (show w.heap.size ≤ wf.heap.size from by rw [hTf.size]; exact HXe.out.size)
    clear hMf hTf HWe HPe HNEP HXe
    go_wp2_with fail
    obtain ⟨wg, hwg⟩ : ∃ wg, wg = wf.drew := ⟨_, rfl⟩
    have HBg := Lib.hid (show Blk wg wp _ _ from by rw [hwg]; exact HBf.out.drew)
    have HPg := Lib.hid (show Blk wg w.heap.size _ _ from by rw [hwg]; exact HPf.out.drew)
    have HMg := Lib.hid (HMf.out.below (show Below wf.heap.size wf wg from by rw [hwg]; exact (Below.refl _ _).drew))
    have HOg := Lib.hid (HOf.out.below (show Below wf.heap.size wf wg from by rw [hwg]; exact (Below.refl _ _).drew))
    have HQg := Lib.hid (show Kept (KX wp am w (.slice po ps.length pc)) w wg from by rw [hwg]; exact HQf.out.drew)
    have HZg := Lib.hid (show w.heap.size ≤ wg.heap.size from by rw [hwg]; exact HZf.out)
    refine region_walkL 12 (Kept (fun x => x < wg.heap.size ∧ Value.ownBlock (.slice po ps.length pc) ≠ some x) wg) (by rw [← hwg]; exact Kept.refl _ _) (by kernel_rfl) (by kernel_rfl) (fun _ _ d _ _ h => by cases d <;> exact h) ?_
    rw [← hwg]
    clear hwg HBf HPf HMf HOf HQf HZf
    have h1 := fun W (h : Kept (fun x => x < wg.heap.size ∧ Value.ownBlock (.slice po ps.length pc) ≠ some x) wg W) => (h.blk HBg.out ⟨HBg.out.lt, fun e => (HPT.out _ e).1 rfl⟩).cells
    have h2 := fun W (h : Kept (fun x => x < wg.heap.size ∧ Value.ownBlock (.slice po ps.length pc) ≠ some x) wg W) => (h.blk HPg.out ⟨HPg.out.lt, fun e => by have := (HPL.out _ e).2; omega⟩).cells
    (refine WalkL.tk [0, 1, 2, 3, 4, 5, 6] ?_; (iterate 7 ((refine TkL.c _ ?_ (by simp only [gtA, gtS, gtZ]; rfl) (by kernel_rfl) (by kernel_rfl) (by kernel_rfl) (by rfl) (fun W hW => ?_) ?_; rotate_left; · (go_simp; try with_reducible rfl)); simp only [Act.put, puA, puZ, puS])); refine TkL.n ?_)
    clear h1 h2
    have hE1 : Ext wg (wg.alloc (.cells #[.string pt, .string pi, .string pr] 30)) := Ext.alloc _ _
    refine WalkL.one 7 (by kernel_rfl) ?_
    refine ⟨_, (by simp only [gtA, gtS, gtZ]; rfl), by rfl, fun K hK => ?_⟩
    go_simp
    refine hK.out _ _ ((Kept.refl _ _).alloc (fun x hx => hx.1) _) ?_
    clear hK
    refine WalkL.one 8 (by kernel_rfl) ?_
    refine ⟨_, (by simp only [gtA, gtS, gtZ]; rfl), by rfl, fun K hK => ?_⟩
    refine wp_ownw pointsT (.tmp 35) (.tmp 37) rfl rfl (HOg.out.below hE1) (m := 1) (news := pC ⟨pt, pi, pr⟩) rfl rfl (fun j u hu => ?_) (pC_one _) (by rw [pcs_length, pC_length]; omega) (by rw [pcs_length, pC_length]; omega) (by have := HZg.out; have := HB0.out; simp; omega) (fun v2 w2 hown2 hw2 hg2 => ?_)
    · rw [Addr.add_lit, cell_of_row _ wg.heap.size (0 + j) #[.string pt, .string pi, .string pr] 30 (0, 0) (heap_alloc_new wg _), Nat.zero_add]
      simpa [pC] using hu
    have hkg : Kept (fun x => x < wg.heap.size ∧ Value.ownBlock (.slice po ps.length pc) ≠ some x) wg w2 := ⟨hg2.os.trans rfl, hg2.tape.trans rfl, hg2.output.trans rfl, Nat.le_trans (by simp) hg2.size, fun x hx => (hg2.block x (by have := hx.1; simp; omega) (fun e => hx.2 e.symm)).trans (Below.heap_alloc wg _ x hx.1)⟩
    have HQ2 := Lib.hid (show Kept (KX wp am w (.slice po ps.length pc)) w w2 from HQg.out.trans (hkg.mono fun x hx => ⟨Nat.lt_of_lt_of_le hx.1 HZg.out, hx.2.2.2⟩))
    have HWH := Lib.hid (show ∀ g, v2.ownBlock = some g → (Value.slice po ps.length pc).ownBlock = some g ∨ w.heap.size ≤ g from fun g hg => (hw2 g hg).imp id fun e => by have := HZg.out; simp at e; omega)
    have HB2 := Lib.hid (hkg.blk HBg.out ⟨HBg.out.lt, fun e => (HPT.out _ e).1 rfl⟩)
    have HM2 := Lib.hid (HMg.out.kept hkg ⟨HMg.out.lt, fun e => (HPT.out _ e).2 rfl⟩)
    refine hK.out _ _ hkg ?_
    clear hK
    simp only [Act.put, puA, puZ, puS]
    have HO2 := Lib.hid (show Own w2 B 30 3 v2 (pcs (ps ++ [⟨pt, pi, pr⟩])) from by rw [pcs_append, pcs_single]; exact hown2)
    have HW2 := Lib.hid (show ∀ g, v2.ownBlock = some g → g ≠ wp ∧ g ≠ am from fun g hg => (hw2 g hg).elim (fun e => HPT.out g e) (fun e => by have h1 := HB2.out.lt; have h2 := HBg.out.lt; have h3 := HMg.out.lt; simp at e; omega))
    obtain ⟨o2, n2, c2, rfl, -, -, -⟩ := hown2.sl.len
    clear hkg hown2 hw2 hg2 hE1 HBg HMg HOg HQg HPg
    (refine WalkL.tk [9, 10, 11] ?_; (iterate 3 ((refine TkL.c _ ?_ (by simp only [gtA, gtS, gtZ]; rfl) (by kernel_rfl) (by kernel_rfl) (by kernel_rfl) (by rfl) (fun W hW => ?_) ?_; rotate_left; · (go_simp; try with_reducible rfl)); simp only [Act.put, puA, puZ, puS])); refine TkL.n ?_)
    have hbf := HB2.out.cells
    have hbz := HB2.out.free
    refine WalkL.last (by kernel_rfl) (by kernel_rfl) ?_
    refine ⟨_, (by simp only [gtA, gtS, gtZ]; rfl), by rfl, fun K hK => ?_⟩
    go_simp
    refine hK.out _ _ ?_
    clear hK hbf hbz
    go_wp2_with fail
    go_ret
    refine ⟨.slice o2 n2 c2, by rw [HNN.out]; rfl, ?_, ?_⟩
    · rw [HR.out]
      exact ⟨HB2.out.set_to 4 _ rfl, HM2.out.same (Below.heap_setCell _ _ _ _ (fun e => HM2.out.notCells _ _ _ (show w2.heap[am]? = _ from by rw [show am = wp from e]; exact HB2.out))), HO2.out.keepOwn fun g hg => Below.heap_setCell _ _ _ _ (HW2.out g hg).1⟩
    · exact ⟨HQ2.out.set (fun h => h.2.1 rfl) _, HWH.out⟩
end Go.Proofs.YtjdigpfipmckhaaGreat
