/- Lemmas for the claim, no condition. -/
import Derived.Test.YtipddhcfcehcaaaYT4
import Derived.Test.YtipddhcfcehcaaaYT12
import Derived.Test.YtipddhcfcehcaaaYT13
import Derived.Test.YtipddhcfcehcaaaYT3
import Derived.Test.YtipddhcfcehcaaaYT1
namespace Go.Proofs.Ytipddhcfcehcaaa
open Go Go.RowKit Go.Maps

abbrev RV := RT × Value
def rvV (x : RV) : Value := rV x.1 x.2
abbrev WV := List ByteArray × Value
def wvV (x : WV) : Value := x.2
def txs (l : List ByteArray) : List Value := l.map Value.string
theorem txs_one (l : List ByteArray) : ∀ u ∈ txs l, u.oneCell' = true := by
  intro u hu
  obtain ⟨s, _, rfl⟩ := List.mem_map.1 hu
  rfl
theorem txs_length (l : List ByteArray) : (txs l).length = l.length := by simp [txs]
theorem txs_append (a b : List ByteArray) : txs (a ++ b) = txs a ++ txs b := by simp [txs]
theorem textsT : ElemT Try.prog 36 9 1 16 := ElemT.mk' Try.underlying36 (show _ = some (some (.string ByteArray.empty), 1, 16) by kernel_rfl) rfl (by decide)
/-- The relations of a type, of a schema, with their rules. -/
def relsOf (n : ByteArray) (l : List (ByteArray × RT)) : List (R2 × RT) := l.map fun r => (⟨n, r.1⟩, r.2)
def refsOf (ts : List TyS) : List (R2 × RT) := ts.flatMap fun t => relsOf t.name t.rels
/-- Which types have a relation. -/
def whereP (P : List (R2 × RT)) (n : ByteArray) : List ByteArray := (P.filter fun x => decide (x.1.r = n)).map (·.1.t)
def optL (l : List ByteArray) : Option (List ByteArray) := if l = [] then none else some l
theorem whereP_snoc (P : List (R2 × RT)) (x : R2 × RT) (n : ByteArray) : whereP (P ++ [x]) n = if x.1.r = n then whereP P n ++ [x.1.t] else whereP P n := by
  unfold whereP
  rw [List.filter_append, List.map_append]
  by_cases h : x.1.r = n
  · simp [h]
  · simp [h]
theorem refsOf_append (a b : List TyS) : refsOf (a ++ b) = refsOf a ++ refsOf b := List.flatMap_append
theorem refsOf_take {l : List TyS} {i : Nat} (hi : i < l.length) : refsOf (l.take (i + 1)) = refsOf (l.take i) ++ relsOf l[i].name l[i].rels := by
  rw [List.take_succ_eq_append_getElem hi, refsOf_append]
  simp [refsOf]
theorem relsOf_take {n : ByteArray} {l : List (ByteArray × RT)} {i : Nat} (hi : i < l.length) : relsOf n (l.take (i + 1)) = relsOf n (l.take i) ++ [(⟨n, l[i].1⟩, l[i].2)] := by
  rw [List.take_succ_eq_append_getElem hi]
  simp only [relsOf, List.map_append, List.map_cons, List.map_nil]
/-- The rows of the map of texts' rows: the call's own, each in a block of its own. -/
structure WhRows (w : World) (B : Nat) (lw : List (ByteArray × WV)) : Prop where
  rows : ∀ x ∈ lw, x.2.1 ≠ [] ∧ Own w B 9 1 x.2.2 (txs x.2.1)
  apart : ∀ x ∈ lw, ∀ y ∈ lw, x.1 ≠ y.1 → x.2.2.ownBlock ≠ y.2.2.ownBlock
/-- A book's rules: of the relations P. The parts lie in S. -/
def BkR (S : Nat → Prop) (w : World) (b1 : Nat) (P : List (R2 × RT)) : Prop :=
  ∃ lr : List (R2 × RV), Mp Try.prog 61 r2V rvV w b1 lr ∧ lr.map (fun x => (x.1, x.2.1)) = P ∧ ∀ x ∈ lr, RTAt S w x.2.1 x.2.2
/-- Where a book's relations stand, being made. -/
def BkW (w : World) (B b3 : Nat) (P : List (R2 × RT)) : Prop :=
  ∃ lw : List (ByteArray × WV), Mp Try.prog 9 Value.string wvV w b3 lw ∧ WhRows w B lw ∧ ∀ n, (lookA lw n).map (·.1) = optL (whereP P n)
theorem Own.notMap {w : World} {B : Nat} {e : TypeId} {sz : Nat} {v : Value} {xs : List Value} (h : Own w B e sz v xs) {b : Nat} (hb : ∀ cs t fr, w.heap[b]? ≠ some (.cells cs t fr)) : ∀ g, v.ownBlock = some g → g ≠ b := by
  intro g hg he
  obtain ⟨n, h⟩ := h
  rcases h.2 with ⟨rfl, _⟩ | ⟨g', cap, cur, rfl, hbg, hg', r⟩
  · cases hg
  · injection hg with hg
    subst hg he
    exact hb _ _ _ hg'
theorem Mp.notCells {P : Program} {k : TypeId} {κ α : Type} {kv : κ → Value} {ev : α → Value} {w : World} {b : Nat} {l : List (κ × α)} (h : Mp P k kv ev w b l) : ∀ cs t fr, w.heap[b]? ≠ some (.cells cs t fr) := by
  obtain ⟨es, clock, hb, _⟩ := h
  intro cs t fr h
  rw [hb] at h
  cases h
theorem own_some {w : World} {B : Nat} {e : TypeId} {v : Value} {l : List ByteArray} (h : Own w B e 1 v (txs l)) (hl : l ≠ []) : ∃ g, v.ownBlock = some g := by
  obtain ⟨n, h⟩ := h
  rcases h.2 with ⟨rfl, rfl⟩ | ⟨g', cap, cur, rfl, hbg, hg', r⟩
  · have := h.1
    rw [txs_length] at this
    exact absurd (List.eq_nil_of_length_eq_zero (by omega)) hl
  · exact ⟨g', rfl⟩
theorem WhRows.keep {w w' : World} {B : Nat} {lw : List (ByteArray × WV)} (h : WhRows w B lw) (hs : ∀ x, B ≤ x → x < w.heap.size → (∃ cs, w.heap[x]? = some (.cells cs 9 (0, 0))) → w'.heap[x]? = w.heap[x]?) : WhRows w' B lw :=
  ⟨fun x hx => ⟨(h.rows x hx).1, (h.rows x hx).2.keepB fun g hg => by
    have ho := (h.rows x hx).2
    have hb := ho.block g hg
    refine hs g hb.1 hb.2 ?_
    obtain ⟨n, ho⟩ := ho
    rcases ho.2 with ⟨h0, _⟩ | ⟨g', cap, cur, h0, hbg, hg', r⟩
    · rw [h0] at hg; cases hg
    · rw [h0] at hg
      injection hg with hg
      subst hg
      exact ⟨_, hg'⟩⟩, h.apart⟩
theorem put_mem {κ α : Type} [DecidableEq κ] (a : κ) (y : α) (x : κ × α) : ∀ {l : List (κ × α)}, (l.map (·.1)).Nodup → x ∈ putA l a y → x = (a, y) ∨ (x ∈ l ∧ x.1 ≠ a)
  | [], _, h => by simp [putA] at h; exact .inl h
  | p :: r, hn, h => by
    simp only [List.map_cons, List.nodup_cons] at hn
    unfold putA at h
    split at h
    · rename_i e
      rcases List.mem_cons.1 h with h | h
      · exact .inl h
      · exact .inr ⟨by simp [h], fun e2 => hn.1 (by rw [e, ← e2]; exact List.mem_map.2 ⟨x, h, rfl⟩)⟩
    · rename_i e
      rcases List.mem_cons.1 h with h | h
      · exact .inr ⟨by simp [h], h ▸ e⟩
      · rcases put_mem a y x hn.2 h with h | h
        · exact .inl h
        · exact .inr ⟨by simp [h.1], h.2⟩
/-- A text more in the row of n. -/
theorem WhRows.put {w w1 w2 w3 : World} {B b3 : Nat} {lw : List (ByteArray × WV)} (h : WhRows w B lw) {n : ByteArray} {names : List ByteArray} {v v' : Value} (hl : (lookA lw n = some (names, v)) ∨ (lookA lw n = none ∧ names = [] ∧ v = .slice none 0 0))
    (h1 : Below w.heap.size w w1) (h2 : w1.grownBy w2 v.ownBlock) {tn : ByteArray} (ho : Own w2 B 9 1 v' (txs (names ++ [tn]))) (hw : ∀ g, v'.ownBlock = some g → v.ownBlock = some g ∨ w1.heap.size ≤ g)
    (hm : Mp Try.prog 9 Value.string wvV w b3 lw) (hm2 : Mp Try.prog 9 Value.string wvV w2 b3 lw) (ht : Turned w2 w3 b3) : WhRows w3 B (putA lw n (names ++ [tn], v')) := by
  have hnd := hm.nodup
  have old : ∀ x ∈ lw, x.1 ≠ n → ∀ g, x.2.2.ownBlock = some g → v.ownBlock ≠ some g := fun x hx hne g hg e => by
    rcases hl with hl | ⟨_, _, rfl⟩
    · exact h.apart x hx _ (look_mem hl) hne (hg.trans e.symm)
    · cases e
  have lt : ∀ x ∈ lw, ∀ g, x.2.2.ownBlock = some g → g < w.heap.size := fun x hx g hg => ((h.rows x hx).2.block g hg).2
  refine ⟨fun x hx => ?_, fun x hx y hy hne => ?_⟩
  · rcases put_mem _ _ _ hnd hx with rfl | ⟨hx, hxn⟩
    · exact ⟨by simp, ho.keepB fun g hg => ht.kept.block g (ho.notMap hm2.notCells g hg)⟩
    · have hr := (h.rows x hx).2
      have hr1 := hr.below h1
      refine ⟨(h.rows x hx).1, hr1.keepB fun g hg => ?_⟩
      have hg1 := lt x hx g hg
      have hs1 := h1.size
      refine (ht.kept.block g ?_).trans (h2.block g (by omega) fun e => old x hx hxn g hg e.symm)
      intro e
      subst e
      exact hr.notMap hm.notCells g hg rfl
  · rcases put_mem _ _ _ hnd hx with rfl | ⟨hx, hxn⟩ <;> rcases put_mem _ _ _ hnd hy with rfl | ⟨hy, hyn⟩
    · exact absurd rfl hne
    · intro e
      obtain ⟨g, hg⟩ := own_some ho (by simp)
      have hg2 : y.2.2.ownBlock = some g := e.symm.trans hg
      rcases hw g hg with h3 | h3
      · exact old y hy hyn g hg2 h3
      · have := lt y hy g hg2
        have := h1.size
        omega
    · intro e
      obtain ⟨g, hg⟩ := own_some ho (by simp)
      have hg2 : x.2.2.ownBlock = some g := e.trans hg
      rcases hw g hg with h3 | h3
      · exact old x hx hxn g hg2 h3
      · have := lt x hx g hg2
        have := h1.size
        omega
    · exact h.apart x hx y hy hne

section
variable {S : Nat → Prop} {w w' : World} {B b1 b3 : Nat} {P : List (R2 × RT)}
theorem BkR.lt (h : BkR S w b1 P) : b1 < w.heap.size := by
  obtain ⟨lr, h1, _⟩ := h
  exact h1.lt
theorem BkR.notCells (h : BkR S w b1 P) : ∀ cs t fr, w.heap[b1]? ≠ some (.cells cs t fr) := by
  obtain ⟨lr, h1, _⟩ := h
  exact h1.notCells
theorem BkR.same (h : BkR S w b1 P) (hb : w'.heap[b1]? = w.heap[b1]?) (hs : Same S w w') : BkR S w' b1 P := by
  obtain ⟨lr, h1, h2, h3⟩ := h
  exact ⟨lr, h1.same hb, h2, fun x hx => (h3 x hx).same hs⟩
theorem BkR.up (h : BkR (· < w.heap.size) w b1 P) (hb : Below w.heap.size w w') : BkR (· < w'.heap.size) w' b1 P := by
  obtain ⟨lr, h1, h2, h3⟩ := h
  exact ⟨lr, h1.below hb, h2, fun x hx => (h3 x hx).up hb⟩
theorem BkW.lt (h : BkW w B b3 P) : b3 < w.heap.size := by
  obtain ⟨lw, h1, _⟩ := h
  exact h1.lt
theorem BkW.notCells (h : BkW w B b3 P) : ∀ cs t fr, w.heap[b3]? ≠ some (.cells cs t fr) := by
  obtain ⟨lw, h1, _⟩ := h
  exact h1.notCells
theorem BkW.keep (h : BkW w B b3 P) (hb : w'.heap[b3]? = w.heap[b3]?) (hs : ∀ x, B ≤ x → x < w.heap.size → (∃ cs, w.heap[x]? = some (.cells cs 9 (0, 0))) → w'.heap[x]? = w.heap[x]?) : BkW w' B b3 P := by
  obtain ⟨lw, h1, h2, h3⟩ := h
  exact ⟨lw, h1.same hb, h2.keep hs, h3⟩
theorem BkW.up (h : BkW w B b3 P) (hb : Below w.heap.size w w') : BkW w' B b3 P := h.keep (hb.block _ h.lt) fun x _ hx _ => hb.block x hx
theorem BkW.turned (h : BkW w B b3 P) {b : Nat} (ht : Turned w w' b) (hb : b3 ≠ b) (hc : ∀ cs t fr, w.heap[b]? ≠ some (.cells cs t fr)) : BkW w' B b3 P :=
  h.keep (ht.kept.block _ hb) fun x _ _ hx => ht.kept.block x fun e => by
    obtain ⟨cs, hx⟩ := hx
    exact hc _ _ _ (e ▸ hx)
/-- A rule of a reference that isn't there. -/
theorem pairs_look {α β : Type} {f : α → β} {k : R2} : ∀ {l : List (R2 × α)} {P : List (R2 × β)}, l.map (fun x => (x.1, f x.2)) = P → (lookA l k).map f = lookA P k
  | [], P, h => by subst h; rfl
  | x :: l, P, h => by
    subst h
    simp only [List.map_cons, lookA]
    split
    · rfl
    · exact pairs_look rfl
theorem BkR.look (h : BkR S w b1 P) (k : R2) (hk : k.Ok) : ∃ z : RV, (Instr.lookup 114 (.map (some b1)) (r2V k) true).run Try.prog w = .ok (.tuple #[rvV z, .bool (lookA P k).isSome]) w ∧ RTAt S w z.1 z.2 ∧ (∀ r, lookA P k = some r → z.1 = r) ∧ (lookA P k = none → z = (.mk 0 ByteArray.empty ByteArray.empty [], .slice none 0 0)) := by
  obtain ⟨lr, h1, h2, h3⟩ := h
  have hl := pairs_look (f := fun x : RV => x.1) (k := k) h2
  have hrun := h1.look refK r2V_inj Try.underlying114 (Try.zeroValue72 w) true (ref_key k hk)
  cases hlk : lookA lr k with
  | none =>
    rw [hlk] at hl hrun
    refine ⟨(.mk 0 ByteArray.empty ByteArray.empty [], .slice none 0 0), ?_, ?_, ?_, fun _ => rfl⟩
    · rw [hrun, ← hl]; rfl
    · exact (RTAt.iff _ _).2 ⟨[], rfl, by simp, Sl.nil _ _ _⟩
    · intro r hr; rw [← hl] at hr; cases hr
  | some x =>
    rw [hlk] at hl hrun
    refine ⟨x, ?_, h3 _ (look_mem hlk), ?_, ?_⟩
    · rw [hrun, ← hl]; rfl
    · intro r hr; rw [← hl] at hr; injection hr
    · intro hr; rw [← hl] at hr; cases hr
theorem BkR.store (h : BkR S w b1 P) {k : R2} (hk : k.Ok) {r : RT} {pv : Value} (hr : RTAt S w r pv) (hS : ∀ x, S x → x ≠ b1) (hn : lookA P k = none) :
    ∃ w', (Instr.mapUpdate 114 (.map (some b1)) (r2V k) (rV r pv)).run Try.prog w = .ok () w' ∧ BkR S w' b1 (P ++ [(k, r)]) ∧ Turned w w' b1 := by
  obtain ⟨lr, h1, h2, h3⟩ := h
  obtain ⟨w', hrun, hM, hT⟩ := h1.store refK r2V_inj Try.underlying114 (ref_key k hk) ((r, pv) : RV)
  have hl := pairs_look (f := fun x : RV => x.1) (k := k) h2
  rw [hn] at hl
  have hln : lookA lr k = none := by cases hlk : lookA lr k with | none => rfl | some x => rw [hlk] at hl; cases hl
  rw [put_miss (look_none_iff.1 hln)] at hM
  refine ⟨w', hrun, ⟨_, hM, by rw [List.map_append, h2]; rfl, fun x hx => ?_⟩, hT⟩
  have hs : Same S w w' := fun x hx => hT.kept.block x (hS x hx)
  rcases List.mem_append.1 hx with hx | hx
  · exact (h3 x hx).same hs
  · obtain rfl := List.mem_singleton.1 hx
    exact hr.same hs
theorem BkW.look (h : BkW w B b3 P) (n : ByteArray) (hn : n.size ≤ maxLen) : ∃ v, (Instr.lookup 115 (.map (some b3)) (.string n) false).run Try.prog w = .ok v w ∧ Own w B 9 1 v (txs (whereP P n)) ∧ ∃ lw, Mp Try.prog 9 Value.string wvV w b3 lw ∧ WhRows w B lw ∧ (∀ n, (lookA lw n).map (·.1) = optL (whereP P n)) ∧ (lookA lw n = some (whereP P n, v) ∨ (lookA lw n = none ∧ whereP P n = [] ∧ v = .slice none 0 0)) := by
  obtain ⟨lw, h1, h2, h3⟩ := h
  have hl := h3 n
  have hrun := h1.look strK strV_inj Try.underlying115 (Try.zeroValue36 w) false (str_key n hn)
  cases hlk : lookA lw n with
  | none =>
    rw [hlk] at hl hrun
    have hw : whereP P n = [] := by
      unfold optL at hl
      split at hl
      · assumption
      · cases hl
    exact ⟨.slice none 0 0, hrun, by rw [hw]; exact Own.nil _ _ _ _, lw, h1, h2, h3, .inr ⟨hlk, hw, rfl⟩⟩
  | some x =>
    rw [hlk] at hl hrun
    have hw : x.1 = whereP P n := by
      unfold optL at hl
      split at hl
      · cases hl
      · injection hl
    have hm := h2.rows _ (look_mem hlk)
    refine ⟨x.2, hrun, by rw [← hw]; exact hm.2, lw, h1, h2, h3, .inl ?_⟩
    rw [hlk, ← hw]
/-- A type more where a relation stands. -/
theorem BkW.put {w1 w2 : World} {lw : List (ByteArray × WV)} {k : R2} {r : RT} {v v' : Value} (hM : Mp Try.prog 9 Value.string wvV w b3 lw) (hR : WhRows w B lw) (hL : ∀ n, (lookA lw n).map (·.1) = optL (whereP P n))
    (hl : lookA lw k.r = some (whereP P k.r, v) ∨ (lookA lw k.r = none ∧ whereP P k.r = [] ∧ v = .slice none 0 0)) (h1 : Below w.heap.size w w1) (h2 : w1.grownBy w2 v.ownBlock) (ho0 : Own w B 9 1 v (txs (whereP P k.r))) (ho : Own w2 B 9 1 v' (txs (whereP P k.r ++ [k.t])))
    (hw : ∀ g, v'.ownBlock = some g → v.ownBlock = some g ∨ w1.heap.size ≤ g) (hk : k.r.size ≤ maxLen) :
    ∃ w', (Instr.mapUpdate 115 (.map (some b3)) (.string k.r) v').run Try.prog w2 = .ok () w' ∧ BkW w' B b3 (P ++ [(k, r)]) ∧ Turned w2 w' b3 := by
  have hm1 := hM.below h1
  have hm2 : Mp Try.prog 9 Value.string wvV w2 b3 lw := hm1.same (h2.block b3 hm1.lt (fun e => ((ho0.below h1).notMap hm1.notCells) b3 e.symm rfl))
  obtain ⟨w', hrun, hM', hT⟩ := hm2.store strK strV_inj Try.underlying115 (str_key k.r hk) ((whereP P k.r ++ [k.t], v') : WV)
  refine ⟨w', hrun, ⟨_, hM', hR.put (names := whereP P k.r) (v := v) ?_ h1 h2 ho hw hM hm2 hT, fun n => ?_⟩, hT⟩
  · rcases hl with hl | ⟨h3, h4, h5⟩
    · exact .inl hl
    · exact .inr ⟨h3, h4, h5⟩
  · rw [look_put, whereP_snoc]
    by_cases e : k.r = n
    · rw [if_pos e, if_pos e]
      subst e
      unfold optL
      rw [if_neg (by simp)]
      rfl
    · rw [if_neg e, if_neg e]
      exact hL n
end

end Go.Proofs.Ytipddhcfcehcaaa
namespace Go.Proofs.Ytipddhcfcehcaaa
open Go Go.RowKit

/-- Number i comes ahead of number j. -/
def ahead (ops : Array Oper) : Nat → Nat → Nat → Bool
  | 0, _, _ => false
  | f + 1, i, j => match ops[j]? with
    | some o => o.after.any fun e => Region.binds .any e && (e.on == i || ahead ops f i e.on)
    | none => false

/-- What is listed is listed with what comes ahead of it. -/
def Closed (ops : Array Oper) (l : Array Bool) : Prop :=
  ∀ j o, ops[j]? = some o → l.getD j false = true → ∀ e ∈ o.after, Region.binds .any e = true → l.getD e.on false = true

theorem ahead_listed {ops : Array Oper} {l : Array Bool} (hc : Closed ops l) : ∀ (f i j : Nat), ahead ops f i j = true →
    (∀ o, ops[j]? = some o → ∀ e ∈ o.after, Region.binds .any e = true → l.getD e.on false = true) → l.getD i false = true
  | 0, _, _, h, _ => by simp [ahead] at h
  | f + 1, i, j, h, hl => by
    unfold ahead at h
    cases ho : ops[j]? with
    | none => rw [ho] at h; simp at h
    | some o =>
      rw [ho] at h
      simp only [Array.any_eq_true', Bool.and_eq_true, Bool.or_eq_true, beq_iff_eq] at h
      obtain ⟨e, he, hb, h⟩ := h
      have h1 := hl o ho e he hb
      rcases h with h | h
      · exact h ▸ h1
      · exact ahead_listed hc f i e.on h fun o' ho' e' he' hb' => hc _ o' ho' h1 e' he' hb'

theorem Closed.set {ops : Array Oper} {l : Array Bool} (hc : Closed ops l) {j : Nat} (hj : j ∈ Region.ready .any ops l) : Closed ops (l.setIfInBounds j true) := by
  intro k o ho hk e he hb
  refine getD_set_true ?_
  by_cases hkj : k = j
  · subst hkj
    obtain ⟨_, o', ho', hall⟩ := mem_ready.1 hj
    rw [ho] at ho'
    cases ho'
    exact hall e he hb
  · rw [getD_set_ne false (Ne.symm hkj)] at hk
    exact hc k o ho hk e he hb

theorem Closed.start (ops : Array Oper) (n : Nat) : Closed ops (Array.replicate n false) := by
  intro j o _ hj
  simp only [Array.getD_eq_getD_getElem?, Array.getElem?_replicate] at hj
  split at hj <;> simp at hj

section
variable {P : Program} {ops : Array Oper} {Q : Exit → Act → World → Prop} {S : World → Prop} {L : Nat}

/-- Whatever order: the class is held behind each but L. -/
def wpAnyL (P : Program) (ops : Array Oper) (Q : Exit → Act → World → Prop) (S : World → Prop) (L : Nat) : Nat → Array Bool → Act → World → Prop
  | 0, l, a, w => Region.ready .any ops l = [] ∧ Q .normal a w
  | f + 1, l, a, w => (Region.ready .any ops l = [] → Q .normal a w) ∧
      ∀ i ∈ Region.ready .any ops l, wpOp P ops Q i (fun a' w' => (i ≠ L → S w') ∧ wpAnyL P ops Q S L f (l.setIfInBounds i true) a' w') a w

theorem wpAnyL_any : ∀ (f : Nat) (l : Array Bool) (a : Act) (w : World), wpAnyL P ops Q S L f l a w → wpAny P .any ops Q f l a w
  | 0, _, _, _, h => h
  | f + 1, _, _, _, h => ⟨h.1, fun i hi => wpOp_mono (fun a' w' k => wpAnyL_any f _ a' w' k.2) (h.2 i hi)⟩

theorem wpAnyL_done {l : Array Bool} {a : Act} {w : World} (hr : Region.ready .any ops l = []) (h : Q .normal a w) : ∀ f, wpAnyL P ops Q S L f l a w
  | 0 => ⟨hr, h⟩
  | _ + 1 => ⟨fun _ => h, by rw [hr]; simp⟩

theorem unlisted {l : Array Bool} {i : Nat} (h : l.getD i true = false) (k : l.getD i false = true) : False := by
  rcases Nat.lt_or_ge i l.size with h' | h'
  · simp [h'] at h k
    rw [h] at k
    cases k
  · simp [Array.getElem?_eq_none h'] at k

/-- What yields the same in each world of the class, and comes ahead of L, may be taken. -/
theorem wpAnyL_take {i : Nat} {oi : Oper} {v : Value} (hi : ops[i]? = some oi) (hsel : Region.noSelect ops = true)
    (hQ : ∀ c a w, Q (.panic c) (Act.put a oi.dst v) w → Q (.panic c) a w) {n : Nat} (hL : ahead ops n i L = true) :
    ∀ (f : Nat) (l : Array Bool) (a : Act) (w : World), Closed ops l →
      (∀ j oj, ops[j]? = some oj → j ≠ i → l.getD j true = false → (∀ e ∈ oj.after, Region.binds .any e = true → e.on ≠ i) → oi.apart ops oj = true) →
      i ∈ Region.ready .any ops l → YieldsIf P ops S oi v a → S w → wpAnyL P ops Q S L f (l.setIfInBounds i true) (a.put oi.dst v) w → wpAnyL P ops Q S L (f + 1) l a w := by
  intro f
  induction f with
  | zero =>
    intro l a w _ _ hr hy hS H
    refine ⟨fun h => (by rw [h] at hr; cases hr), fun j hj => ?_⟩
    by_cases hji : j = i
    · subst hji
      exact hy.wpOp hi hS ⟨fun _ => hS, H⟩
    · have := ready_mono hj hji
      rw [H.1] at this
      cases this
  | succ f ih =>
    intro l a w hc hfree hr hy hS H
    refine ⟨fun h => (by rw [h] at hr; cases hr), fun j hj => ?_⟩
    by_cases hji : j = i
    · subst hji
      exact hy.wpOp hi hS ⟨fun _ => hS, H⟩
    · obtain ⟨hjun, oj, hoj, hall⟩ := mem_ready.1 hj
      have hiun := (mem_ready.1 hr).1
      have hjL : j ≠ L := by
        intro e
        subst e
        exact unlisted hiun (ahead_listed hc n i j hL fun o ho e he hb => by rw [hoj] at ho; cases ho; exact hall e he hb)
      have hnot : ∀ e ∈ oj.after, Region.binds .any e = true → e.on ≠ i := fun e he hb heq => unlisted hiun (heq ▸ hall e he hb)
      have h2 := wpOp_putIf hoj (hfree j oj hoj hji hjun hnot) (fun cs b => Region.noSelect_spec hsel i oi cs b hi) (fun cs b => Region.noSelect_spec hsel j oj cs b hoj) hQ hy (H.2 j (ready_mono hj hji))
      refine wpOp_mono (fun a' w' k => ⟨k.2.1, ih (l.setIfInBounds j true) a' w' (hc.set hj) (fun m om hom hmi hun hno => ?_) (ready_mono hr (Ne.symm hji)) k.1 (k.2.1 hjL) ?_⟩) h2
      · refine hfree m om hom hmi ?_ hno
        by_cases hjm : j = m
        · exact hjm ▸ hjun
        · rwa [getD_set_ne true hjm] at hun
      · rw [Array.setIfInBounds_comm _ _ hji]
        exact k.2.2

/-- What is to be shown from here on. -/
def WalkL (P : Program) (ops : Array Oper) (Q : Exit → Act → World → Prop) (S : World → Prop) (L : Nat) : Nat → Array Bool → Act → World → Prop
  | 0, l, a, w => Region.ready .any ops l = [] ∧ Q .normal a w
  | f + 1, l, a, w => (Region.ready .any ops l = [] ∧ Q .normal a w) ∨
      (∃ i o v, ops[i]? = some o ∧ Region.free .any ops l i = true ∧ (Region.ready .any ops l).contains i = true ∧ ahead ops ops.size i L = true ∧ YieldsIf P ops S o v a ∧ WalkL P ops Q S L f (l.setIfInBounds i true) (a.put o.dst v) w) ∨
      (Region.ready .any ops l ≠ [] ∧ ∀ i ∈ Region.ready .any ops l, ∃ o, ops[i]? = some o ∧ ∀ K' : Act → World → Prop, Shut (∀ a' w', S w' → WalkL P ops Q S L f (l.setIfInBounds i true) a' w' → K' a' w') →
        if Region.wanted o (yielded ops a.tmps) = true then Oper.wp P o a w K' Q else K' (a.put o.dst undef) w) ∨
      (Region.ready .any ops l = [L] ∧ Region.ready .any ops (l.setIfInBounds L true) = [] ∧ ∃ o, ops[L]? = some o ∧ Region.wanted o (yielded ops a.tmps) = true ∧ ∀ K' : Act → World → Prop, Shut (∀ a' w', Q .normal a' w' → K' a' w') → Oper.wp P o a w K' Q)

theorem walkL_sound (hns : Region.noSelect ops = true) (hQ : ∀ c a d v w, Q (.panic c) (Act.put a d v) w → Q (.panic c) a w) :
    ∀ (f : Nat) (l : Array Bool) (a : Act) (w : World), Closed ops l → S w → WalkL P ops Q S L f l a w → wpAnyL P ops Q S L f l a w
  | 0, _, _, _, _, _, h => h
  | f + 1, l, a, w, hc, hs, h => by
    rcases h with ⟨h1, h2⟩ | ⟨i, o, v, ho, hf, hr, hL, hy, h⟩ | ⟨hne, h⟩ | ⟨h1, h2, o, ho, hw, h⟩
    · exact wpAnyL_done h1 h2 _
    · exact wpAnyL_take ho hns (fun c a w => hQ c a _ _ w) hL f l a w hc (Region.free_spec ho hf) (by simpa using hr) hy hs (walkL_sound hns hQ f _ _ w (hc.set (by simpa using hr)) hs h)
    · refine ⟨fun e => absurd e hne, fun i hi => ?_⟩
      obtain ⟨o, ho, hst⟩ := h i hi
      exact wpOp_step ho (fun K' hK => hst K' (fun a' w' he hw => hK a' w' ⟨fun _ => he, walkL_sound hns hQ f _ a' w' (hc.set hi) he hw⟩))
    · refine ⟨fun e => (by rw [e] at h1; exact absurd h1.symm (List.cons_ne_nil _ _)), fun i hi => ?_⟩
      rw [h1] at hi
      obtain rfl : i = L := by simpa using hi
      exact wpOp_step ho (fun K' hK => by rw [if_pos hw]; exact h K' (fun a' w' hq => hK a' w' ⟨fun e => absurd rfl e, wpAnyL_done h2 hq _⟩))

theorem region_walkL {id : Nat} {a : Act} {w : World} (L : Nat) (S : World → Prop) (hS : S w.drew) (hm : P.follows .mixedOrders = true) (hns : Region.noSelect ops = true) (hQ : ∀ c a d v w, Q (.panic c) (Act.put a d v) w → Q (.panic c) a w)
    (h : WalkL P ops Q S L ops.size (Array.replicate ops.size false) a w.drew) : (Code.region id ops true).wp P Q a w :=
  wp_region_any hm (wpAnyL_any _ _ _ _ (walkL_sound hns hQ _ _ a w.drew (Closed.start _ _) hS h))

theorem WalkL.take {f : Nat} {l : Array Bool} {a : Act} {w : World} (i : Nat) (o : Oper) (v : Value) (ho : ops[i]? = some o) (hf : Region.free .any ops l i = true) (hr : (Region.ready .any ops l).contains i = true) (hL : ahead ops ops.size i L = true)
    (hw : Region.wanted o (yielded ops a.tmps) = true) (hy : ∀ W, S W → (execOp a.eval o).run P W = .ok (.value v) W) (h : WalkL P ops Q S L f (l.setIfInBounds i true) (a.put o.dst v) w) : WalkL P ops Q S L (f + 1) l a w :=
  .inr (.inl ⟨i, o, v, ho, hf, hr, hL, .inl ⟨hw, hy⟩, h⟩)

/-- What is owed for number i: it is made, and the walk goes on. -/
def MadeL (P : Program) (ops : Array Oper) (Q : Exit → Act → World → Prop) (S : World → Prop) (L f : Nat) (l : Array Bool) (a : Act) (w : World) (i : Nat) : Prop :=
  ∃ o, ops[i]? = some o ∧ Region.wanted o (yielded ops a.tmps) = true ∧ ∀ K' : Act → World → Prop, Shut (∀ a' w', S w' → WalkL P ops Q S L f (l.setIfInBounds i true) a' w' → K' a' w') → Oper.wp P o a w K' Q

theorem WalkL.one {f : Nat} {l : Array Bool} {a : Act} {w : World} (i : Nat) (hr : Region.ready .any ops l = [i]) (h : MadeL P ops Q S L f l a w i) : WalkL P ops Q S L (f + 1) l a w := by
  refine .inr (.inr (.inl ⟨by rw [hr]; simp, fun j hj => ?_⟩))
  rw [hr] at hj
  obtain rfl : j = i := by simpa using hj
  obtain ⟨o, ho, hw, h⟩ := h
  exact ⟨o, ho, fun K hK => by rw [if_pos hw]; exact h K hK⟩

theorem WalkL.last {f : Nat} {l : Array Bool} {a : Act} {w : World} (hr : Region.ready .any ops l = [L]) (hr' : Region.ready .any ops (l.setIfInBounds L true) = [])
    (h : ∃ o, ops[L]? = some o ∧ Region.wanted o (yielded ops a.tmps) = true ∧ ∀ K' : Act → World → Prop, Shut (∀ a' w', Q .normal a' w' → K' a' w') → Oper.wp P o a w K' Q) : WalkL P ops Q S L (f + 1) l a w :=
  .inr (.inr (.inr ⟨hr, hr', h⟩))
end

end Go.Proofs.Ytipddhcfcehcaaa
