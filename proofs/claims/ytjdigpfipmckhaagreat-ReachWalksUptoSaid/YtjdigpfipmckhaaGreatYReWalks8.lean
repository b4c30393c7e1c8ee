/- Lemmas for the claim, no condition. -/
import Derived.Lib.Hide
import Derived.Test.YtjdigpfipmckhaaGreatYReWalks2
import Derived.Test.YtjdigpfipmckhaaGreatYReWalks3
import Derived.Test.YtjdigpfipmckhaaGreatYReWalks7
import Derived.Test.YtjdigpfipmckhaaGreatYReWalks0
namespace Go.Proofs.YtjdigpfipmckhaaGreat
open Go Go.RowKit Go.Maps
abbrev RV := RT × Value
def rvV (x : RV) : Value := rV x.1 x.2
abbrev WV := List ByteArray × Value
def wvV (x : WV) : Value := x.2
def txs (l : List ByteArray) : List Value := l.map Value.string
theorem txs_one (l : List ByteArray) : ∀ u ∈ txs l, u.oneCell' = true := by
  intro u hu
  obtain ⟨s, _, rfl⟩ := List.mem_map.1 hu
  rfl
theorem txs_length (l : List ByteArray) : (txs l).length = l.length := by simp [txs]
theorem txs_append (a b : List ByteArray) : txs (a ++ b) = txs a ++ txs b := by simp [txs]
theorem textsT : ElemT Tryz.prog 108 9 1 16 := ElemT.mk' Tryz.underlying108 (show _ = some (some (.string ByteArray.empty), 1, 16) by kernel_rfl) rfl (by decide)
def relsOf (n : ByteArray) (l : List (ByteArray × RT)) : List (R2 × RT) := l.map fun r => (⟨n, r.1⟩, r.2)
def refsOf (ts : List TyS) : List (R2 × RT) := ts.flatMap fun t => relsOf t.name t.rels
def whereP (P : List (R2 × RT)) (n : ByteArray) : List ByteArray := (P.filter fun x => decide (x.1.r = n)).map (·.1.t)
def optL (l : List ByteArray) : Option (List ByteArray) := if l = [] then none else some l
theorem whereP_snoc (P : List (R2 × RT)) (x : R2 × RT) (n : ByteArray) : whereP (P ++ [x]) n = if x.1.r = n then whereP P n ++ [x.1.t] else whereP P n := by
  unfold whereP
  rw [List.filter_append, List.map_append]
  by_cases h : x.1.r = n
  · simp [h]
  · simp [h]
theorem refsOf_append (a b : List TyS) : refsOf (a ++ b) = refsOf a ++ refsOf b := List.flatMap_append
theorem refsOf_take {l : List TyS} {i : Nat} (hi : i < l.length) : refsOf (l.take (i + 1)) = refsOf (l.take i) ++ relsOf l[i].name l[i].rels := by
  rw [List.take_succ_eq_append_getElem hi, refsOf_append]
  simp [refsOf]
theorem relsOf_take {n : ByteArray} {l : List (ByteArray × RT)} {i : Nat} (hi : i < l.length) : relsOf n (l.take (i + 1)) = relsOf n (l.take i) ++ [(⟨n, l[i].1⟩, l[i].2)] := by
  rw [List.take_succ_eq_append_getElem hi]
  simp only [relsOf, List.map_append, List.map_cons, List.map_nil]
structure WhRows (w : World) (B : Nat) (lw : List (ByteArray × WV)) : Prop where
  rows : ∀ x ∈ lw, x.2.1 ≠ [] ∧ Own w B 9 1 x.2.2 (txs x.2.1)
  apart : ∀ x ∈ lw, ∀ y ∈ lw, x.1 ≠ y.1 → x.2.2.ownBlock ≠ y.2.2.ownBlock
def BkR (S : Nat → Prop) (w : World) (b1 : Nat) (P : List (R2 × RT)) : Prop :=
  ∃ lr : List (R2 × RV), Mp Tryz.prog 102 r2V rvV w b1 lr ∧ lr.map (fun x => (x.1, x.2.1)) = P ∧ ∀ x ∈ lr, RTAt S w x.2.1 x.2.2
def BkW (w : World) (B b3 : Nat) (P : List (R2 × RT)) : Prop :=
  ∃ lw : List (ByteArray × WV), Mp Tryz.prog 9 Value.string wvV w b3 lw ∧ WhRows w B lw ∧ ∀ n, (lookA lw n).map (·.1) = optL (whereP P n)
theorem Own.notMap {w : World} {B : Nat} {e : TypeId} {sz : Nat} {v : Value} {xs : List Value} (h : Own w B e sz v xs) {b : Nat} (hb : ∀ cs t fr, w.heap[b]? ≠ some (.cells cs t fr)) : ∀ g, v.ownBlock = some g → g ≠ b := by
  intro g hg he
  obtain ⟨n, h⟩ := h
  rcases h.2 with ⟨rfl, _⟩ | ⟨g', cap, cur, rfl, hbg, hg', r⟩
  · cases hg
  · injection hg with hg
    subst hg he
    exact hb _ _ _ hg'
theorem Mp.notCells {P : Program} {k : TypeId} {κ α : Type} {kv : κ → Value} {ev : α → Value} {w : World} {b : Nat} {l : List (κ × α)} (h : Mp P k kv ev w b l) : ∀ cs t fr, w.heap[b]? ≠ some (.cells cs t fr) := by
  obtain ⟨es, clock, hb, _⟩ := h
  intro cs t fr h
  rw [hb] at h
  cases h
theorem own_some {w : World} {B : Nat} {e : TypeId} {v : Value} {l : List ByteArray} (h : Own w B e 1 v (txs l)) (hl : l ≠ []) : ∃ g, v.ownBlock = some g := by
  obtain ⟨n, h⟩ := h
  rcases h.2 with ⟨rfl, rfl⟩ | ⟨g', cap, cur, rfl, hbg, hg', r⟩
  · have := h.1
    rw [txs_length] at this
    exact absurd (List.eq_nil_of_length_eq_zero (by omega)) hl
  · exact ⟨g', rfl⟩
theorem WhRows.keep {w w' : World} {B : Nat} {lw : List (ByteArray × WV)} (h : WhRows w B lw) (hs : ∀ x, B ≤ x → x < w.heap.size → (∃ cs, w.heap[x]? = some (.cells cs 9 (0, 0))) → w'.heap[x]? = w.heap[x]?) : WhRows w' B lw :=
  ⟨fun x hx => ⟨(h.rows x hx).1, (h.rows x hx).2.keepB fun g hg => by
    have ho := (h.rows x hx).2
    have hb := ho.block g hg
    refine hs g hb.1 hb.2 ?_
    obtain ⟨n, ho⟩ := ho
    rcases ho.2 with ⟨h0, _⟩ | ⟨g', cap, cur, h0, hbg, hg', r⟩
    · rw [h0] at hg; cases hg
    · rw [h0] at hg
      injection hg with hg
      subst hg
      exact ⟨_, hg'⟩⟩, h.apart⟩
theorem put_mem {κ α : Type} [DecidableEq κ] (a : κ) (y : α) (x : κ × α) : ∀ {l : List (κ × α)}, (l.map (·.1)).Nodup → x ∈ putA l a y → x = (a, y) ∨ (x ∈ l ∧ x.1 ≠ a)
  | [], _, h => by simp [putA] at h; exact .inl h
  | p :: r, hn, h => by
    simp only [List.map_cons, List.nodup_cons] at hn
    unfold putA at h
    split at h
    · rename_i e
      rcases List.mem_cons.1 h with h | h
      · exact .inl h
      · exact .inr ⟨by simp [h], fun e2 => hn.1 (by rw [e, ← e2]; exact List.mem_map.2 ⟨x, h, rfl⟩)⟩
    · rename_i e
      rcases List.mem_cons.1 h with h | h
      · exact .inr ⟨by simp [h], h ▸ e⟩
      · rcases put_mem a y x hn.2 h with h | h
        · exact .inl h
        · exact .inr ⟨by simp [h.1], h.2⟩
theorem WhRows.put {w w1 w2 w3 : World} {B b3 : Nat} {lw : List (ByteArray × WV)} (h : WhRows w B lw) {n : ByteArray} {names : List ByteArray} {v v' : Value} (hl : (lookA lw n = some (names, v)) ∨ (lookA lw n = none ∧ names = [] ∧ v = .slice none 0 0))
    (h1 : Below w.heap.size w w1) (h2 : w1.grownBy w2 v.ownBlock) {tn : ByteArray} (ho : Own w2 B 9 1 v' (txs (names ++ [tn]))) (hw : ∀ g, v'.ownBlock = some g → v.ownBlock = some g ∨ w1.heap.size ≤ g)
    (hm : Mp Tryz.prog 9 Value.string wvV w b3 lw) (hm2 : Mp Tryz.prog 9 Value.string wvV w2 b3 lw) (ht : Turned w2 w3 b3) : WhRows w3 B (putA lw n (names ++ [tn], v')) := by
  have hnd := hm.nodup
  have old : ∀ x ∈ lw, x.1 ≠ n → ∀ g, x.2.2.ownBlock = some g → v.ownBlock ≠ some g := fun x hx hne g hg e => by
    rcases hl with hl | ⟨_, _, rfl⟩
    · exact h.apart x hx _ (look_mem hl) hne (hg.trans e.symm)
    · cases e
  have lt : ∀ x ∈ lw, ∀ g, x.2.2.ownBlock = some g → g < w.heap.size := fun x hx g hg => ((h.rows x hx).2.block g hg).2
  refine ⟨fun x hx => ?_, fun x hx y hy hne => ?_⟩
  · rcases put_mem _ _ _ hnd hx with rfl | ⟨hx, hxn⟩
    · exact ⟨by simp, ho.keepB fun g hg => ht.kept.block g (ho.notMap hm2.notCells g hg)⟩
    · have hr := (h.rows x hx).2
      have hr1 := hr.below h1
      refine ⟨(h.rows x hx).1, hr1.keepB fun g hg => ?_⟩
      have hg1 := lt x hx g hg
      have hs1 := h1.size
      refine (ht.kept.block g ?_).trans (h2.block g (by omega) fun e => old x hx hxn g hg e.symm)
      intro e
      subst e
      exact hr.notMap hm.notCells g hg rfl
  · rcases put_mem _ _ _ hnd hx with rfl | ⟨hx, hxn⟩ <;> rcases put_mem _ _ _ hnd hy with rfl | ⟨hy, hyn⟩
    · exact absurd rfl hne
    · intro e
      obtain ⟨g, hg⟩ := own_some ho (by simp)
      have hg2 : y.2.2.ownBlock = some g := e.symm.trans hg
      rcases hw g hg with h3 | h3
      · exact old y hy hyn g hg2 h3
      · have := lt y hy g hg2
        have := h1.size
        omega
    · intro e
      obtain ⟨g, hg⟩ := own_some ho (by simp)
      have hg2 : x.2.2.ownBlock = some g := e.trans hg
      rcases hw g hg with h3 | h3
      · exact old x hx hxn g hg2 h3
      · have := lt x hx g hg2
        have := h1.size
        omega
    · exact h.apart x hx y hy hne
section
variable {S : Nat → Prop} {w w' : World} {B b1 b3 : Nat} {P : List (R2 × RT)}
theorem BkR.lt (h : BkR S w b1 P) : b1 < w.heap.size := by
  obtain ⟨lr, h1, _⟩ := h
  exact h1.lt
theorem BkR.notCells (h : BkR S w b1 P) : ∀ cs t fr, w.heap[b1]? ≠ some (.cells cs t fr) := by
  obtain ⟨lr, h1, _⟩ := h
  exact h1.notCells
theorem BkR.same (h : BkR S w b1 P) (hb : w'.heap[b1]? = w.heap[b1]?) (hs : Same S w w') : BkR S w' b1 P := by
  obtain ⟨lr, h1, h2, h3⟩ := h
  exact ⟨lr, h1.same hb, h2, fun x hx => (h3 x hx).same hs⟩
theorem BkR.up (h : BkR (· < w.heap.size) w b1 P) (hb : Below w.heap.size w w') : BkR (· < w'.heap.size) w' b1 P := by
  obtain ⟨lr, h1, h2, h3⟩ := h
  exact ⟨lr, h1.below hb, h2, fun x hx => (h3 x hx).up hb⟩
theorem BkW.lt (h : BkW w B b3 P) : b3 < w.heap.size := by
  obtain ⟨lw, h1, _⟩ := h
  exact h1.lt
theorem BkW.keep (h : BkW w B b3 P) (hb : w'.heap[b3]? = w.heap[b3]?) (hs : ∀ x, B ≤ x → x < w.heap.size → (∃ cs, w.heap[x]? = some (.cells cs 9 (0, 0))) → w'.heap[x]? = w.heap[x]?) : BkW w' B b3 P := by
  obtain ⟨lw, h1, h2, h3⟩ := h
  exact ⟨lw, h1.same hb, h2.keep hs, h3⟩
theorem BkW.up (h : BkW w B b3 P) (hb : Below w.heap.size w w') : BkW w' B b3 P := h.keep (hb.block _ h.lt) fun x _ hx _ => hb.block x hx
theorem BkW.turned (h : BkW w B b3 P) {b : Nat} (ht : Turned w w' b) (hb : b3 ≠ b) (hc : ∀ cs t fr, w.heap[b]? ≠ some (.cells cs t fr)) : BkW w' B b3 P :=
  h.keep (ht.kept.block _ hb) fun x _ _ hx => ht.kept.block x fun e => by
    obtain ⟨cs, hx⟩ := hx
    exact hc _ _ _ (e ▸ hx)
theorem pairs_look {α β : Type} {f : α → β} {k : R2} : ∀ {l : List (R2 × α)} {P : List (R2 × β)}, l.map (fun x => (x.1, f x.2)) = P → (lookA l k).map f = lookA P k
  | [], P, h => by subst h; rfl
  | x :: l, P, h => by
    subst h
    simp only [List.map_cons, lookA]
    split
    · rfl
    · exact pairs_look rfl
theorem BkR.look (h : BkR S w b1 P) (k : R2) (hk : k.Ok) : ∃ z : RV, (Instr.lookup 180 (.map (some b1)) (r2V k) true).run Tryz.prog w = .ok (.tuple #[rvV z, .bool (lookA P k).isSome]) w ∧ RTAt S w z.1 z.2 ∧ (∀ r, lookA P k = some r → z.1 = r) ∧ (lookA P k = none → z = (.mk 0 ByteArray.empty ByteArray.empty [], .slice none 0 0)) := by
  obtain ⟨lr, h1, h2, h3⟩ := h
  have hl := pairs_look (f := fun x : RV => x.1) (k := k) h2
  have hrun := h1.look refK r2V_inj Tryz.underlying180 (Tryz.zeroValue98 w) true (ref_key k hk)
  cases hlk : lookA lr k with
  | none =>
    rw [hlk] at hl hrun
    refine ⟨(.mk 0 ByteArray.empty ByteArray.empty [], .slice none 0 0), ?_, ?_, ?_, fun _ => rfl⟩
    · rw [hrun, ← hl]; rfl
    · exact (RTAt.iff _ _).2 ⟨[], rfl, by simp, Sl.nil _ _ _⟩
    · intro r hr; rw [← hl] at hr; cases hr
  | some x =>
    rw [hlk] at hl hrun
    refine ⟨x, ?_, h3 _ (look_mem hlk), ?_, ?_⟩
    · rw [hrun, ← hl]; rfl
    · intro r hr; rw [← hl] at hr; injection hr
    · intro hr; rw [← hl] at hr; cases hr
theorem BkR.store (h : BkR S w b1 P) {k : R2} (hk : k.Ok) {r : RT} {pv : Value} (hr : RTAt S w r pv) (hS : ∀ x, S x → x ≠ b1) (hn : lookA P k = none) :
    ∃ w', (Instr.mapUpdate 180 (.map (some b1)) (r2V k) (rV r pv)).run Tryz.prog w = .ok () w' ∧ BkR S w' b1 (P ++ [(k, r)]) ∧ Turned w w' b1 := by
  obtain ⟨lr, h1, h2, h3⟩ := h
  obtain ⟨w', hrun, hM, hT⟩ := h1.store refK r2V_inj Tryz.underlying180 (ref_key k hk) ((r, pv) : RV)
  have hl := pairs_look (f := fun x : RV => x.1) (k := k) h2
  rw [hn] at hl
  have hln : lookA lr k = none := by cases hlk : lookA lr k with | none => rfl | some x => rw [hlk] at hl; cases hl
  rw [put_miss (look_none_iff.1 hln)] at hM
  refine ⟨w', hrun, ⟨_, hM, by rw [List.map_append, h2]; rfl, fun x hx => ?_⟩, hT⟩
  have hs : Same S w w' := fun x hx => hT.kept.block x (hS x hx)
  rcases List.mem_append.1 hx with hx | hx
  · exact (h3 x hx).same hs
  · obtain rfl := List.mem_singleton.1 hx
    exact hr.same hs
theorem BkW.look (h : BkW w B b3 P) (n : ByteArray) (hn : n.size ≤ maxLen) : ∃ v, (Instr.lookup 182 (.map (some b3)) (.string n) false).run Tryz.prog w = .ok v w ∧ Own w B 9 1 v (txs (whereP P n)) ∧ ∃ lw, Mp Tryz.prog 9 Value.string wvV w b3 lw ∧ WhRows w B lw ∧ (∀ n, (lookA lw n).map (·.1) = optL (whereP P n)) ∧ (lookA lw n = some (whereP P n, v) ∨ (lookA lw n = none ∧ whereP P n = [] ∧ v = .slice none 0 0)) := by
  obtain ⟨lw, h1, h2, h3⟩ := h
  have hl := h3 n
  have hrun := h1.look strK strV_inj Tryz.underlying182 (Tryz.zeroValue108 w) false (str_key n hn)
  cases hlk : lookA lw n with
  | none =>
    rw [hlk] at hl hrun
    have hw : whereP P n = [] := by
      unfold optL at hl
      split at hl
      · assumption
      · cases hl
    exact ⟨.slice none 0 0, hrun, by rw [hw]; exact Own.nil _ _ _ _, lw, h1, h2, h3, .inr ⟨hlk, hw, rfl⟩⟩
  | some x =>
    rw [hlk] at hl hrun
    have hw : x.1 = whereP P n := by
      unfold optL at hl
      split at hl
      · cases hl
      · injection hl
    have hm := h2.rows _ (look_mem hlk)
    refine ⟨x.2, hrun, by rw [← hw]; exact hm.2, lw, h1, h2, h3, .inl ?_⟩
    rw [hlk, ← hw]
theorem BkW.put {w1 w2 : World} {lw : List (ByteArray × WV)} {k : R2} {r : RT} {v v' : Value} (hM : Mp Tryz.prog 9 Value.string wvV w b3 lw) (hR : WhRows w B lw) (hL : ∀ n, (lookA lw n).map (·.1) = optL (whereP P n))
    (hl : lookA lw k.r = some (whereP P k.r, v) ∨ (lookA lw k.r = none ∧ whereP P k.r = [] ∧ v = .slice none 0 0)) (h1 : Below w.heap.size w w1) (h2 : w1.grownBy w2 v.ownBlock) (ho0 : Own w B 9 1 v (txs (whereP P k.r))) (ho : Own w2 B 9 1 v' (txs (whereP P k.r ++ [k.t])))
    (hw : ∀ g, v'.ownBlock = some g → v.ownBlock = some g ∨ w1.heap.size ≤ g) (hk : k.r.size ≤ maxLen) :
    ∃ w', (Instr.mapUpdate 182 (.map (some b3)) (.string k.r) v').run Tryz.prog w2 = .ok () w' ∧ BkW w' B b3 (P ++ [(k, r)]) ∧ Turned w2 w' b3 := by
  have hm1 := hM.below h1
  have hm2 : Mp Tryz.prog 9 Value.string wvV w2 b3 lw := hm1.same (h2.block b3 hm1.lt (fun e => ((ho0.below h1).notMap hm1.notCells) b3 e.symm rfl))
  obtain ⟨w', hrun, hM', hT⟩ := hm2.store strK strV_inj Tryz.underlying182 (str_key k.r hk) ((whereP P k.r ++ [k.t], v') : WV)
  refine ⟨w', hrun, ⟨_, hM', hR.put (names := whereP P k.r) (v := v) ?_ h1 h2 ho hw hM hm2 hT, fun n => ?_⟩, hT⟩
  · rcases hl with hl | ⟨h3, h4, h5⟩
    · exact .inl hl
    · exact .inr ⟨h3, h4, h5⟩
  · rw [look_put, whereP_snoc]
    by_cases e : k.r = n
    · rw [if_pos e, if_pos e]
      subst e
      unfold optL
      rw [if_neg (by simp)]
      rfl
    · rw [if_neg e, if_neg e]
      exact hL n
end
end Go.Proofs.YtjdigpfipmckhaaGreat
namespace Go.Proofs.YtjdigpfipmckhaaGreat
structure P3 where
  t : ByteArray
  i : ByteArray
  r : ByteArray
deriving DecidableEq
structure Tup where
  o : P3
  s : P3
deriving DecidableEq
instance : Inhabited P3 := ⟨⟨ByteArray.empty, ByteArray.empty, ByteArray.empty⟩⟩
instance : Inhabited Tup := ⟨⟨default, default⟩⟩
def P3.isSet (p : P3) : Prop := p.r.size ≠ 0
instance (p : P3) : Decidable p.isSet := by unfold P3.isSet; infer_instance
end Go.Proofs.YtjdigpfipmckhaaGreat
namespace Go.Proofs.YtjdigpfipmckhaaGreat
open Go Go.RowKit
def tV (t : Tup) : Value := .agg #[.string t.o.t, .string t.o.i, .string t.o.r, .string t.s.t, .string t.s.i, .string t.s.r]
def P3.Ok (p : P3) : Prop := p.t.size ≤ maxLen ∧ p.i.size ≤ maxLen ∧ p.r.size ≤ maxLen
def Tup.Ok (t : Tup) : Prop := t.o.Ok ∧ t.s.Ok
end Go.Proofs.YtjdigpfipmckhaaGreat
namespace Go.Proofs.YtjdigpfipmckhaaGreat
open Go Go.RowKit
def chkT (t : Tup) : Bool := isNm t.o.t && isNm t.o.i && isNm t.o.r && isNm t.s.t && isNm t.s.i && (isNm t.s.r || decide (t.s.r.size = 0))
def chkN (t : Tup) : Int := if chkT t then 0 else 2
set_option maxRecDepth 100000 in
set_option maxHeartbeats 1600000 in
theorem of_any (t : Tup) (w : World) : Calls Tryz.prog 114 #[tV t] w fun e w' => e = .returned (tV t) ∧ Below w.heap.size w w' := by
  obtain ⟨⟨ot, oi, or_⟩, ⟨st, si, sr⟩⟩ := t
  have hb := (Blk.made w #[.string ot, .string oi, .string or_, .string st, .string si, .string sr] 104)
  have h1 : Below w.heap.size w (w.alloc (.cells #[.string ot, .string oi, .string or_, .string st, .string si, .string sr] 104)) := (Below.refl _ _).alloc (Nat.le_refl _) _
  unfold tV
  dsimp only
  go_enter Tryz.func114, Tryz.ntmps114
  go_wp2_with fail
  refine bodyPost_ret (results_cell_row rfl _ _ (w.heap.size + 1) 195 #[.string ot, .string oi, .string or_, .string st, .string si, .string sr] (0, 0) _ rfl ?_ Tryz.underlying195 rfl (by kernel_rfl)) rfl ⟨rfl, h1.alloc h1.size _⟩
  have := heap_alloc_new (w.alloc (.cells #[.string ot, .string oi, .string or_, .string st, .string si, .string sr] 104)) (.cells #[.string ot, .string oi, .string or_, .string st, .string si, .string sr] 195)
  rwa [World.size_alloc] at this
theorem parts_at (a b c d e f : ByteArray) (W : World) :
    (Instr.index 195 (.agg #[.string a, .string b, .string c, .string d, .string e, .string f]) (.int .i64 0)).run Tryz.prog W = .ok (.string a) W ∧
    (Instr.index 195 (.agg #[.string a, .string b, .string c, .string d, .string e, .string f]) (.int .i64 1)).run Tryz.prog W = .ok (.string b) W ∧
    (Instr.index 195 (.agg #[.string a, .string b, .string c, .string d, .string e, .string f]) (.int .i64 2)).run Tryz.prog W = .ok (.string c) W ∧
    (Instr.index 195 (.agg #[.string a, .string b, .string c, .string d, .string e, .string f]) (.int .i64 3)).run Tryz.prog W = .ok (.string d) W ∧
    (Instr.index 195 (.agg #[.string a, .string b, .string c, .string d, .string e, .string f]) (.int .i64 4)).run Tryz.prog W = .ok (.string e) W ∧
    (Instr.index 195 (.agg #[.string a, .string b, .string c, .string d, .string e, .string f]) (.int .i64 5)).run Tryz.prog W = .ok (.string f) W :=
  ⟨by kernel_rfl, by kernel_rfl, by kernel_rfl, by kernel_rfl, by kernel_rfl, by kernel_rfl⟩
set_option maxRecDepth 100000 in
set_option maxHeartbeats 3200000 in
theorem check_any (t : Tup) (ht : t.Ok) (w : World) : Calls Tryz.prog 59 #[tV t] w fun e w' => e = .returned (.int .i64 (chkN t)) ∧ Below w.heap.size w w' := by
  obtain ⟨⟨ot, oi, or_⟩, ⟨st, si, sr⟩⟩ := t
  have HOK := Lib.hid ht
  clear ht
  have hb1 := (Blk.made w #[.string ot, .string oi, .string or_, .string st, .string si, .string sr] 104).cells
  have HE := Lib.hid (show Below w.heap.size w (w.alloc (.cells #[.string ot, .string oi, .string or_, .string st, .string si, .string sr] 104)) from (Below.refl _ _).alloc (Nat.le_refl _) _)
  have HOF := Lib.hid (of_any ⟨⟨ot, oi, or_⟩, ⟨st, si, sr⟩⟩ (w.alloc (.cells #[.string ot, .string oi, .string or_, .string st, .string si, .string sr] 104)))
  unfold tV at HOF ⊢
  dsimp only at HOF ⊢
  unfold Tup.Ok P3.Ok at HOK
  dsimp only at HOK
  go_enter Tryz.func59, Tryz.ntmps59
  go_wp2_with fail
  refine HOF.out.mono ?_
  rintro e w2 ⟨rfl, hb2⟩
  have HBW := Lib.hid (HE.out.trans (hb2.mono HE.out.size))
  clear HE HOF hb2 hb1
  obtain ⟨p0, p1, p2, p3, p4, p5⟩ := parts_at ot oi or_ st si sr w2
  go_wp2_with fail
  refine wp_loop_rounds 7 ?_
  rw [rounds_succ]
  go_wp2_with fail
  refine (isName_any ot HOK.out.1.1 _).mono ?_
  rintro e w' ⟨rfl, rfl⟩
  rcases hb0 : isNm ot with _ | _
  · have HB := Lib.hid hb0
    clear hb0
    go_wp2_with fail
    go_ret
    exact ⟨congrArg (fun n => Ending.returned (.int .i64 n)) (show (2 : Int) = chkN ⟨⟨ot, oi, or_⟩, ⟨st, si, sr⟩⟩ from by simp [chkN, chkT, HB.out]), HBW.out⟩
  have HB0 := Lib.hid hb0
  clear hb0
  go_wp2_with fail
  rw [rounds_succ]
  go_wp2_with fail
  refine (isName_any oi HOK.out.1.2.1 _).mono ?_
  rintro e w' ⟨rfl, rfl⟩
  rcases hb1 : isNm oi with _ | _
  · have HB := Lib.hid hb1
    clear hb1
    go_wp2_with fail
    go_ret
    exact ⟨congrArg (fun n => Ending.returned (.int .i64 n)) (show (2 : Int) = chkN ⟨⟨ot, oi, or_⟩, ⟨st, si, sr⟩⟩ from by simp [chkN, chkT, HB.out]), HBW.out⟩
  have HB1 := Lib.hid hb1
  clear hb1
  go_wp2_with fail
  rw [rounds_succ]
  go_wp2_with fail
  refine (isName_any or_ HOK.out.1.2.2 _).mono ?_
  rintro e w' ⟨rfl, rfl⟩
  rcases hb2 : isNm or_ with _ | _
  · have HB := Lib.hid hb2
    clear hb2
    go_wp2_with fail
    go_ret
    exact ⟨congrArg (fun n => Ending.returned (.int .i64 n)) (show (2 : Int) = chkN ⟨⟨ot, oi, or_⟩, ⟨st, si, sr⟩⟩ from by simp [chkN, chkT, HB.out]), HBW.out⟩
  have HB2 := Lib.hid hb2
  clear hb2
  go_wp2_with fail
  rw [rounds_succ]
  go_wp2_with fail
  refine (isName_any st HOK.out.2.1 _).mono ?_
  rintro e w' ⟨rfl, rfl⟩
  rcases hb3 : isNm st with _ | _
  · have HB := Lib.hid hb3
    clear hb3
    go_wp2_with fail
    go_ret
    exact ⟨congrArg (fun n => Ending.returned (.int .i64 n)) (show (2 : Int) = chkN ⟨⟨ot, oi, or_⟩, ⟨st, si, sr⟩⟩ from by simp [chkN, chkT, HB.out]), HBW.out⟩
  have HB3 := Lib.hid hb3
  clear hb3
  go_wp2_with fail
  rw [rounds_succ]
  go_wp2_with fail
  refine (isName_any si HOK.out.2.2.1 _).mono ?_
  rintro e w' ⟨rfl, rfl⟩
  rcases hb4 : isNm si with _ | _
  · have HB := Lib.hid hb4
    clear hb4
    go_wp2_with fail
    go_ret
    exact ⟨congrArg (fun n => Ending.returned (.int .i64 n)) (show (2 : Int) = chkN ⟨⟨ot, oi, or_⟩, ⟨st, si, sr⟩⟩ from by simp [chkN, chkT, HB.out]), HBW.out⟩
  have HB4 := Lib.hid hb4
  clear hb4
  go_wp2_with fail
  rw [rounds_succ]
  go_wp2_with fail
  refine (isName_any sr HOK.out.2.2.2 _).mono ?_
  rintro e w' ⟨rfl, rfl⟩
  rcases hb5 : isNm sr with _ | _
  · have HB5 := Lib.hid hb5
    clear hb5
    by_cases h0 : sr.size = 0
    · obtain rfl := ba_size_eq h0
      clear h0
      go_wp2_with fail
      rw [rounds_succ]
      go_wp2_with fail
      go_ret
      exact ⟨congrArg (fun n => Ending.returned (.int .i64 n)) (show (0 : Int) = chkN ⟨⟨ot, oi, or_⟩, ⟨st, si, ⟨#[]⟩⟩⟩ from by simp [chkN, chkT, HB0.out, HB1.out, HB2.out, HB3.out, HB4.out, show (ByteArray.mk #[]).size = 0 from rfl]), HBW.out⟩
    · have hne := ba_size_ne h0
      have H0 := Lib.hid h0
      clear h0
      go_wp2_with fail
      go_ret
      exact ⟨congrArg (fun n => Ending.returned (.int .i64 n)) (show (2 : Int) = chkN ⟨⟨ot, oi, or_⟩, ⟨st, si, sr⟩⟩ from by simp [chkN, chkT, HB5.out, H0.out]), HBW.out⟩
  · have HB5 := Lib.hid hb5
    clear hb5
    go_wp2_with fail
    rw [rounds_succ]
    go_wp2_with fail
    go_ret
    exact ⟨congrArg (fun n => Ending.returned (.int .i64 n)) (show (0 : Int) = chkN ⟨⟨ot, oi, or_⟩, ⟨st, si, sr⟩⟩ from by simp [chkN, chkT, HB0.out, HB1.out, HB2.out, HB3.out, HB4.out, HB5.out]), HBW.out⟩
set_option maxRecDepth 100000 in
set_option maxHeartbeats 1600000 in
theorem parts_any (t : Tup) (w : World) : Calls Tryz.prog 50 #[tV t] w fun e w' => e = .returned (.slice (some ⟨w.heap.size + 1, 0, none⟩) 6 6) ∧
    Blk w' (w.heap.size + 1) #[.string t.o.t, .string t.o.i, .string t.o.r, .string t.s.t, .string t.s.i, .string t.s.r] 9 ∧ Below w.heap.size w w' := by
  obtain ⟨⟨ot, oi, or_⟩, ⟨st, si, sr⟩⟩ := t
  have hb := (Blk.made w #[.string ot, .string oi, .string or_, .string st, .string si, .string sr] 104)
  have h1 : Below w.heap.size w (w.alloc (.cells #[.string ot, .string oi, .string or_, .string st, .string si, .string sr] 104)) := (Below.refl _ _).alloc (Nat.le_refl _) _
  unfold tV
  dsimp only
  go_enter Tryz.func50, Tryz.ntmps50
  go_wp2_with fail
  go_ret
  refine ⟨rfl, ?_, h1.alloc h1.size _⟩
  have := heap_alloc_new (w.alloc (.cells #[.string ot, .string oi, .string or_, .string st, .string si, .string sr] 104)) (.cells #[.string ot, .string oi, .string or_, .string st, .string si, .string sr] 9)
  rwa [World.size_alloc] at this
set_option maxRecDepth 100000 in
set_option maxHeartbeats 3200000 in
theorem refCheck_any (t : Tup) (ht : t.Ok) (w : World) : Calls Tryz.prog 64 #[tV t] w fun e w' => e = .returned (.int .i64 (chkN t)) ∧ Below w.heap.size w w' := by
  obtain ⟨⟨ot, oi, or_⟩, ⟨st, si, sr⟩⟩ := t
  have HOK := Lib.hid ht
  clear ht
  have hb1 := (Blk.made w #[.string ot, .string oi, .string or_, .string st, .string si, .string sr] 104).cells
  have HE := Lib.hid (show Below w.heap.size w (w.alloc (.cells #[.string ot, .string oi, .string or_, .string st, .string si, .string sr] 104)) from (Below.refl _ _).alloc (Nat.le_refl _) _)
  have HOF := Lib.hid (parts_any ⟨⟨ot, oi, or_⟩, ⟨st, si, sr⟩⟩ (w.alloc (.cells #[.string ot, .string oi, .string or_, .string st, .string si, .string sr] 104)))
  unfold tV at HOF ⊢
  dsimp only at HOF ⊢
  unfold Tup.Ok P3.Ok at HOK
  dsimp only at HOK
  go_enter Tryz.func64, Tryz.ntmps64
  go_wp2_with fail
  refine HOF.out.mono ?_
  rintro e w2 ⟨rfl, hP, hb2⟩
  have HBW := Lib.hid (HE.out.trans (hb2.mono HE.out.size))
  clear HE HOF hb2 hb1
  have cP := hP.cells
  simp only [World.size_alloc] at cP ⊢
  go_wp2_with fail
  refine wp_loop_rounds 7 ?_
  rw [rounds_succ]
  go_wp2_with fail
  refine (refName_any ot HOK.out.1.1 _).mono ?_
  rintro e w' ⟨rfl, rfl⟩
  rcases hb0 : isNm ot with _ | _
  · have HB := Lib.hid hb0
    clear hb0
    go_wp2_with fail
    go_ret
    exact ⟨congrArg (fun n => Ending.returned (.int .i64 n)) (show (2 : Int) = chkN ⟨⟨ot, oi, or_⟩, ⟨st, si, sr⟩⟩ from by simp [chkN, chkT, HB.out]), HBW.out⟩
  have HB0 := Lib.hid hb0
  clear hb0
  go_wp2_with fail
  rw [rounds_succ]
  go_wp2_with fail
  refine (refName_any oi HOK.out.1.2.1 _).mono ?_
  rintro e w' ⟨rfl, rfl⟩
  rcases hb1 : isNm oi with _ | _
  · have HB := Lib.hid hb1
    clear hb1
    go_wp2_with fail
    go_ret
    exact ⟨congrArg (fun n => Ending.returned (.int .i64 n)) (show (2 : Int) = chkN ⟨⟨ot, oi, or_⟩, ⟨st, si, sr⟩⟩ from by simp [chkN, chkT, HB.out]), HBW.out⟩
  have HB1 := Lib.hid hb1
  clear hb1
  go_wp2_with fail
  rw [rounds_succ]
  go_wp2_with fail
  refine (refName_any or_ HOK.out.1.2.2 _).mono ?_
  rintro e w' ⟨rfl, rfl⟩
  rcases hb2 : isNm or_ with _ | _
  · have HB := Lib.hid hb2
    clear hb2
    go_wp2_with fail
    go_ret
    exact ⟨congrArg (fun n => Ending.returned (.int .i64 n)) (show (2 : Int) = chkN ⟨⟨ot, oi, or_⟩, ⟨st, si, sr⟩⟩ from by simp [chkN, chkT, HB.out]), HBW.out⟩
  have HB2 := Lib.hid hb2
  clear hb2
  go_wp2_with fail
  rw [rounds_succ]
  go_wp2_with fail
  refine (refName_any st HOK.out.2.1 _).mono ?_
  rintro e w' ⟨rfl, rfl⟩
  rcases hb3 : isNm st with _ | _
  · have HB := Lib.hid hb3
    clear hb3
    go_wp2_with fail
    go_ret
    exact ⟨congrArg (fun n => Ending.returned (.int .i64 n)) (show (2 : Int) = chkN ⟨⟨ot, oi, or_⟩, ⟨st, si, sr⟩⟩ from by simp [chkN, chkT, HB.out]), HBW.out⟩
  have HB3 := Lib.hid hb3
  clear hb3
  go_wp2_with fail
  rw [rounds_succ]
  go_wp2_with fail
  refine (refName_any si HOK.out.2.2.1 _).mono ?_
  rintro e w' ⟨rfl, rfl⟩
  rcases hb4 : isNm si with _ | _
  · have HB := Lib.hid hb4
    clear hb4
    go_wp2_with fail
    go_ret
    exact ⟨congrArg (fun n => Ending.returned (.int .i64 n)) (show (2 : Int) = chkN ⟨⟨ot, oi, or_⟩, ⟨st, si, sr⟩⟩ from by simp [chkN, chkT, HB.out]), HBW.out⟩
  have HB4 := Lib.hid hb4
  clear hb4
  go_wp2_with fail
  rw [rounds_succ]
  go_wp2_with fail
  refine (refName_any sr HOK.out.2.2.2 _).mono ?_
  rintro e w' ⟨rfl, rfl⟩
  rcases hb5 : isNm sr with _ | _
  · have HB5 := Lib.hid hb5
    clear hb5
    by_cases h0 : sr.size = 0
    · obtain rfl := ba_size_eq h0
      clear h0
      go_wp2_with fail
      rw [rounds_succ]
      go_wp2_with fail
      go_ret
      exact ⟨congrArg (fun n => Ending.returned (.int .i64 n)) (show (0 : Int) = chkN ⟨⟨ot, oi, or_⟩, ⟨st, si, ⟨#[]⟩⟩⟩ from by simp [chkN, chkT, HB0.out, HB1.out, HB2.out, HB3.out, HB4.out, show (ByteArray.mk #[]).size = 0 from rfl]), HBW.out⟩
    · have hne := ba_size_ne h0
      have H0 := Lib.hid h0
      clear h0
      go_wp2_with fail
      go_ret
      exact ⟨congrArg (fun n => Ending.returned (.int .i64 n)) (show (2 : Int) = chkN ⟨⟨ot, oi, or_⟩, ⟨st, si, sr⟩⟩ from by simp [chkN, chkT, HB5.out, H0.out]), HBW.out⟩
  · have HB5 := Lib.hid hb5
    clear hb5
    go_wp2_with fail
    rw [rounds_succ]
    go_wp2_with fail
    go_ret
    exact ⟨congrArg (fun n => Ending.returned (.int .i64 n)) (show (0 : Int) = chkN ⟨⟨ot, oi, or_⟩, ⟨st, si, sr⟩⟩ from by simp [chkN, chkT, HB0.out, HB1.out, HB2.out, HB3.out, HB4.out, HB5.out]), HBW.out⟩
end Go.Proofs.YtjdigpfipmckhaaGreat
