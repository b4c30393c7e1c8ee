/- slices.AppendSeq at references, against whatever iterator. What holds of any type. slices.Collect and slices.SortedFunc of a set of references. Plain laws of a schema's check: names met twice; what is named. No condition: lemmas. -/
import Derived.RangeFuncGives
import Derived.RangeFuncNested
import Derived.RangeFuncLeaves
import Derived.WalkKit
import Derived.OwnWalkIn
import Derived.TacticsInMore
import Derived.RegionIn
import Derived.LoopNIn
import Derived.LoopIn
import Derived.Test.YtfhonficpccegaaZ5
import Derived.Test.YtfhonficpccegaaZ3
import Derived.Test.YtfhonficpccegaaZ18
import Derived.Test.YtfhonficpccegaaZ17
namespace Go.Proofs.Ytfhonficpccegaa
open Go Go.RowKit

attribute [local go_sem] Oper.semAt_some

theorem refsT : ElemT Try.prog 30 43 2 32 := ElemT.mk' Try.underlying30 (show _ = some (some (.agg #[.string ByteArray.empty, .string ByteArray.empty]), 2, 32) by kernel_rfl) rfl (by decide)
theorem r2cs_single (a : R2) : r2cs [a] = r2C a := by simp [r2cs]
theorem cells_two (w : World) (a b : Value) (t : TypeId) : ∀ j u, [a, b][j]? = some u → (w.alloc (.cells #[a, b] t)).cell? ((⟨w.heap.size, 0, none⟩ : Addr).add j) = some u := fun j u hu => by
  rw [Addr.add_lit, cell_of_row _ w.heap.size (0 + j) #[a, b] t (0, 0) (heap_alloc_new w _), Nat.zero_add]
  simpa using hu
set_option maxRecDepth 100000 in
set_option maxHeartbeats 2000000 in
/-- slices.AppendSeq(v, seq): what the iterator gives is appended; nothing else has turned. -/
theorem appR_in (F : Fence) (n : Nat) (h45 : F.fn 77) (hro : F.round = none) (hn : 2 ≤ n) (g : Nat) (lb : Array Value) (hFg : F.fn g) (eg : ∀ args w, (callFunc g args).run Try.prog w = .ok (.enter g args) w)
    (S Sp : List R2 → Prop) (N : Nat) (w : World) (B0 : Nat) (hB0 : B0 ≤ w.heap.size) (v : Value) (l : List R2) (hN : l.length + N ≤ 549755813888) (hown : Own w B0 43 2 v (r2cs l)) (hseq : SeqStopsK F (n - 1) Try.prog g lb (fun x => #[r2V x]) KeepsWalks S Sp N w) :
    CallsIn F n Try.prog 77 #[v, .func (.func g) #[] lb] w fun e w' => ∃ (v' : Value) (ss : List R2), e = .returned v' ∧ S ss ∧ Own w' B0 43 2 v' (r2cs (l ++ ss)) ∧ Kept (fun b => b < w.heap.size ∧ v.ownBlock ≠ some b) w w' ∧ KeepsFrom 0 w w' := by
  have h1 : 1 ≤ n := by omega
  obtain ⟨ao, k, c, rfl⟩ : ∃ ao k c, v = .slice ao k c := by
    rcases hown.shape with ⟨rfl, _⟩ | ⟨g, n, c, rfl⟩
    · exact ⟨_, _, _, rfl⟩
    · exact ⟨_, _, _, rfl⟩
  refine callsIn_of_wp_marks Try.func77 rfl h45 ?_ hro
  simp only [Try.ntmps77, List.size_toArray, List.length_cons, List.length_nil, Nat.reduceAdd, Nat.reduceSub, Array.replicate_succ, Array.replicate_zero, List.push_toArray, List.append_toArray, List.nil_append, List.cons_append]
  gi_wp2
  have bS := Boxed.new w 30 (.slice ao k c)
  have hw0 : Below w.heap.size w (w.alloc (.cells #[.slice ao k c] 30)) := (Below.refl _ w).alloc (Nat.le_refl _) _
  have hsz : (w.alloc (.cells #[.slice ao k c] 30)).heap.size = w.heap.size + 1 := by simp
  have hown0 := hown.below hw0
  have hk0 : KeepsFrom 0 w (w.alloc (.cells #[.slice ao k c] 30)) := (KeepsOthers.alloc _ _).from _
  obtain ⟨W0, hW0⟩ : ∃ W0, w.alloc (.cells #[.slice ao k c] 30) = W0 := ⟨_, rfl⟩
  rw [hW0] at bS hw0 hsz hown0 hk0 ⊢
  clear hW0
  refine wpIn_rangeFunc_ownH hro h1 (gf := g) (lb := lb) rfl hFg eg hseq walksK_t walksK_b hw0 (fun _ => rfl)
    (fun pre W => (∃ v', Boxed W w.heap.size 30 v' ∧ Own W B0 43 2 v' (r2cs (l ++ pre)) ∧ (∀ g, v'.ownBlock = some g → (Value.slice ao k c).ownBlock = some g ∨ w.heap.size ≤ g)) ∧ (Kept (fun b => b < w.heap.size ∧ (Value.slice ao k c).ownBlock ≠ some b) w W ∧ KeepsFrom 0 w W))
    (fun _ _ _ => False)
    (OwnFrom.and (own_ownFrom B0 w.heap.size 30 43 2 (fun pre => r2cs (l ++ pre)) (fun v' => ∀ g, v'.ownBlock = some g → (Value.slice ao k c).ownBlock = some g ∨ w.heap.size ≤ g) _) (OwnFrom.and (ownFrom_kept (fun b hb => hb.1) (by omega)) (ownFrom_keepsFrom (by omega))))
    (fun _ _ _ _ _ hs _ _ => hs)
    ⟨⟨_, bS, by simpa using hown0, fun g hg => .inl hg⟩, Below.kept hw0 (fun b hb => hb.1), hk0⟩
    (fun x a' W => ∃ Bx, w.heap.size < Bx ∧ Blk W Bx #[.string x.t, .string x.r] 43 ∧ a' = { tmps := #[.slice ao k c, .func (.func g) #[] lb, .pointer (some ⟨w.heap.size, 0, none⟩), undef, .slice none 0 0, .pointer (some ⟨Bx, 0, none⟩), .func (.func g) #[] lb, r2V x, undef, undef, undef, undef, undef], defers := [] })
    (fun x a' _ X Y row hs hg hr => by obtain ⟨Bx, h1, h2, h3⟩ := hs; exact ⟨Bx, h1, boxed3_kept h2 hg (fun r e => (hr r e).2), h3⟩)
    ?assign ?body ?done ?stop
  case assign =>
    rintro l2 pre ⟨xt, xr⟩ W K ⟨⟨v', bS1, hO1, hG1⟩, hB1, hK1⟩ hK
    dsimp only [r2V]
    gi_wp2
    refine hK _ _ ((KeepsOthers.alloc _ _).from _) (KeepsWalks.alloc _ _) ⟨⟨v', bS1.alloc _, hO1.below ((Below.refl _ _).alloc (Nat.le_refl _) _), hG1⟩, hB1.alloc (fun b hb => Nat.lt_of_lt_of_le hb.1 hB1.size) _, hK1.trans ((KeepsOthers.alloc _ _).from _)⟩ ⟨W.heap.size, bS1.lt, Blk.made W _ _, rfl⟩
  case body =>
    rintro l2 pre ⟨xt, xr⟩ a' W hl ⟨r, hr⟩ ⟨⟨v', bS1, hO1, hG1⟩, hB1, hK1⟩ ⟨Bx, hBx, bX, rfl⟩ hlt
    have cS := bS1.cell
    have cX := bX.cells
    have hwl := hB1.size
    have hpl := r2cs_length (l ++ pre)
    rw [List.length_append] at hpl
    have hbb : (2 * (l.length + pre.length) + 2) * 32 ≤ 140737488355328 := by omega
    gi_wp2_with (first
      | (gi_at_builtin; go_loud (
         refine wpListIn_own refsT rfl _ _ rfl rfl (hO1.below ((Below.refl _ _).alloc (Nat.le_refl _) _)) (ad := ⟨W.heap.size, 0, none⟩) (m := 1) (c := 1) (news := [.string xt, .string xr]) rfl rfl (cells_two _ _ _ _) (by intro u hu; simp only [List.mem_cons, List.not_mem_nil, or_false] at hu; rcases hu with rfl | rfl | rfl <;> rfl) (by simp only [List.length_cons, List.length_nil]; omega) (by simp only [List.length_cons, List.length_nil]; rw [hpl]; exact hbb) (by simp; omega) ?_
         intro v2 w2 hO2 hG2 hg2
         obtain ⟨g2, n2, c2, rfl⟩ : ∃ g2 n2 c2, v2 = .slice (some ⟨g2, 0, none⟩) n2 c2 := by
           rcases hO2.shape with ⟨_, h⟩ | h
           · exact absurd h (by simp)
           · exact h
         have bS2 := (bS1.alloc (.cells #[.string xt, .string xr] 43)).kept hg2 (boxed_notOwn (bS1.alloc _) (by decide) (hO1.below ((Below.refl _ _).alloc (Nat.le_refl _) (.cells #[.string xt, .string xr] 43))))
         have cS2 := bS2.cell
         have fS2 := bS2.frozen))
      | gi_in)
    have hKa : KeepsFrom 0 W (W.alloc (.cells #[.string xt, .string xr] 43)) := (KeepsOthers.alloc _ _).from _
    have hKb := hKa.trans (keeps_own (hO1.below ((Below.refl _ _).alloc (Nat.le_refl _) (.cells #[.string xt, .string xr] 43))) hg2 0)
    have hKc : KeepsFrom 0 W (w2.setCell ⟨w.heap.size, 0, none⟩ (.slice (some ⟨g2, 0, none⟩) n2 c2)) := hKb.trans ((KeepsOthers.setCell _ _ _).from _)
    refine ⟨keeps_up hKc _, keeps_walks hKc, ⟨⟨_, bS2.set _, ?_, fun g hg => ?_⟩, ?_, hK1.trans hKc⟩⟩
    · have := hO2.keepOwn (w' := w2.setCell ⟨w.heap.size, 0, none⟩ (.slice (some ⟨g2, 0, none⟩) n2 c2)) (fun g hg => Below.heap_setCell _ _ _ g (fun e => boxed_notOwn bS2 (by decide) hO2 (by rw [hg, e])))
      rw [← List.append_assoc, r2cs_append (l ++ pre), r2cs_single]
      exact this
    · rcases hG2 g hg with h | h
      · exact hG1 g h
      · exact .inr (by have := hB1.size; simp at h; omega)
    · have hk2 : Kept (fun b => b < w.heap.size ∧ (Value.slice ao k c).ownBlock ≠ some b) (W.alloc (.cells #[.string xt, .string xr] 43)) w2 := ⟨hg2.os, hg2.tape, hg2.output, hg2.size, fun b hb => hg2.block b (by have := hB1.size; have := hb.1; simp; omega) (fun e => by
        rcases hG1 b e.symm with h | h
        · exact hb.2 h
        · have := hb.1; omega)⟩
      exact ((hB1.alloc (fun b hb => Nat.lt_of_lt_of_le hb.1 hB1.size) _).trans hk2).set (a := ⟨w.heap.size, 0, none⟩) (fun h => Nat.lt_irrefl _ h.1) _
  case done =>
    rintro D ys W hD hS ⟨⟨v', bS1, hO1, _⟩, hB1, hK1⟩ hK
    have cS := bS1.cell
    obtain ⟨ao', k', c', rfl⟩ : ∃ ao k c, v' = .slice ao k c := by
      rcases hO1.shape with ⟨rfl, _⟩ | ⟨g, n, c, rfl⟩
      · exact ⟨_, _, _, rfl⟩
      · exact ⟨_, _, _, rfl⟩
    gi_wp2
    refine ⟨by simp, .inl ⟨_, _, rfl, run_takeDeferred hK, ?_⟩⟩
    refine ⟨_, results_tmp rfl _ _ _, _, ys, rfl, hS, hO1.put _ hK rfl, ⟨hB1.os, hB1.tape, hB1.output, by have := hB1.size; simpa using this, fun b hb => (World.putObj_heap_other (fun e => by have := hb.1; omega)).trans (hB1.block b hb)⟩, ?_⟩
    exact ⟨by have := hK1.size; simpa using this, fun k o _ hk ho => (World.putObj_heap_other (fun e => by have := (Array.getElem?_eq_some_iff.1 hk).1; omega)).trans (hK1.same k o (Nat.zero_le _) hk ho)⟩
  case stop =>
    rintro D c pre W _ _ h _
    exact h.elim

end Go.Proofs.Ytfhonficpccegaa
namespace Go.Proofs.Ytfhonficpccegaa
open Go Go.RowKit Go.Maps

/-- The least that some ghost of the state has: a measure of what isn't seen. -/
theorem least_ex {γ : Type} (R : γ → Prop) (m : γ → Nat) (h : ∃ g, R g) : ∃ n, (∃ g, R g ∧ m g = n) ∧ ∀ g, R g → n ≤ m g := by
  obtain ⟨g0, h0⟩ := h
  have key : ∀ k, ∀ g, R g → m g ≤ k → ∃ n, (∃ g, R g ∧ m g = n) ∧ ∀ g, R g → n ≤ m g := by
    intro k
    induction k with
    | zero => exact fun g hg hk => ⟨0, ⟨g, hg, by omega⟩, fun _ _ => Nat.zero_le _⟩
    | succ k ih =>
      intro g hg hk
      by_cases hs : ∃ g', R g' ∧ m g' ≤ k
      · obtain ⟨g', h1, h2⟩ := hs
        exact ih g' h1 h2
      · refine ⟨m g, ⟨g, hg, rfl⟩, fun g' h' => ?_⟩
        have : ¬ m g' ≤ k := fun h2 => hs ⟨g', h', h2⟩
        omega
  exact key _ g0 h0 (Nat.le_refl _)
open Classical in
noncomputable def leastM {γ : Type} (R : γ → Prop) (m : γ → Nat) : Nat := if h : ∃ g, R g then Classical.choose (least_ex R m h) else 0
theorem leastM_get {γ : Type} {R : γ → Prop} (m : γ → Nat) (h : ∃ g, R g) : ∃ g, R g ∧ m g = leastM R m := by
  unfold leastM
  rw [dif_pos h]
  exact (Classical.choose_spec (least_ex R m h)).1
theorem leastM_le {γ : Type} {R : γ → Prop} (m : γ → Nat) {g : γ} (h : R g) : leastM R m ≤ m g := by
  unfold leastM
  rw [dif_pos ⟨g, h⟩]
  exact (Classical.choose_spec (least_ex R m ⟨g, h⟩)).2 g h
section
variable {P : Program} {k t e : TypeId} {κ α : Type} {kv : κ → Value} {ev : α → Value} {w : World}
/-- A map that may be nil. -/
def MpO (P : Program) (k : TypeId) (kv : κ → Value) (ev : α → Value) (w : World) : Option Nat → List (κ × α) → Prop
  | none, l => l = []
  | some b, l => Mp P k kv ev w b l
theorem MpO.nodup {mb : Option Nat} {l : List (κ × α)} (h : MpO P k kv ev w mb l) : (l.map (·.1)).Nodup := by
  cases mb with
  | none => obtain rfl : l = [] := h; simp
  | some b => exact Mp.nodup (show Mp P k kv ev w b l from h)
theorem MpO.keyed {mb : Option Nat} {l : List (κ × α)} (h : MpO P k kv ev w mb l) : ∀ p ∈ l, ∃ q, keyOf P k (kv p.1) = some q := by
  cases mb with
  | none => obtain rfl : l = [] := h; simp
  | some b => obtain ⟨_, _, _, _, _, h⟩ := h; exact h
theorem MpO.below {w' : World} {mb : Option Nat} {l : List (κ × α)} (h : MpO P k kv ev w mb l) (hb : Below w.heap.size w w') : MpO P k kv ev w' mb l := by
  cases mb with
  | none => exact h
  | some b => exact Mp.below (show Mp P k kv ev w b l from h) hb
theorem MpO.same {w' : World} {mb : Option Nat} {l : List (κ × α)} (h : MpO P k kv ev w mb l) (hb : ∀ b, mb = some b → w'.heap[b]? = w.heap[b]?) : MpO P k kv ev w' mb l := by
  cases mb with
  | none => exact h
  | some b => exact Mp.same (show Mp P k kv ev w b l from h) (hb b rfl)
theorem MpO.look [DecidableEq κ] {mb : Option Nat} {l : List (κ × α)} (h : MpO P k kv ev w mb l) (K : Keyed P k) (inj : ∀ a b, kv a = kv b → a = b) (ht : P.underlying t = some (.map k e)) {z : Value} (hz : (zeroValue e).run P w = .ok z w) {a : κ} (hk : ∃ q, keyOf P k (kv a) = some q) :
    (Instr.lookup t (.map mb) (kv a) false).run P w = .ok (match lookA l a with | some x => ev x | none => z) w := by
  cases mb with
  | none =>
    obtain rfl : l = [] := h
    obtain ⟨q, hq⟩ := hk
    have hf : (Instr.findKey k (kv a) []).run P w = .ok none w := by
      rcases K.find w hq [] (by simp) with ⟨h1, _⟩ | ⟨j, e0, _, h2, _⟩
      · exact h1
      · simp at h2
    simp [Instr.lookup, run_underlying ht, K.check w _ hq, hf, hz, Result.andThen, lookA]
  | some b =>
    have := Mp.look (show Mp P k kv ev w b l from h) K inj ht hz false hk
    rw [this]
    cases lookA l a <;> rfl
end

end Go.Proofs.Ytfhonficpccegaa
namespace Go.Proofs.Ytfhonficpccegaa
open Go Go.RowKit Go.Maps

abbrev blR (l : List R2) : List (R2 × Bool) := l.map fun p => (p, true)
theorem blR_keys (l : List R2) : (blR l).map (·.1) = l := by simp [blR, Function.comp_def]
theorem look_blR (l : List R2) (a : R2) : lookA (blR l) a = if a ∈ l then some true else none := by
  induction l with
  | nil => rfl
  | cons x r ih =>
    simp only [blR, List.map_cons, lookA] at *
    by_cases h : x = a
    · subst h; simp
    · simp [h, ih, Ne.symm h]
theorem put_blR (l : List R2) (a : R2) (h : a ∉ l) : putA (blR l) a true = blR (l ++ [a]) := by
  rw [put_miss (fun p hp e => h (by obtain ⟨x, hx, rfl⟩ := List.mem_map.1 hp; exact e ▸ hx))]
  simp [blR]
theorem put_blR_in (l : List R2) (a : R2) (h : a ∈ l) : putA (blR l) a true = blR l := by
  induction l with
  | nil => simp at h
  | cons x r ih =>
    simp only [blR, List.map_cons, putA] at *
    by_cases e : x = a
    · subst e; simp
    · rw [if_neg e]
      rw [ih (by simpa [Ne.symm e] using h)]
theorem keysR_seq (F : Fence) (n : Nat) (hf : F.fn 78) (hro : F.round = none) (hn : 1 ≤ n) (Bm : Nat) (mb : Option Nat) (m : List (R2 × Bool)) (w : World) (hBm : Bm < w.heap.size) (hm : w.cell? ⟨Bm, 0, none⟩ = some (.map mb))
    (hM : MpO Try.prog 43 r2V bV w mb m) :
    SeqStopsK F n Try.prog 78 #[.pointer (some ⟨Bm, 0, none⟩)] (fun x => #[r2V x]) KeepsWalks (fun ss => ss.Perm (m.map (·.1))) (fun _ => True) m.length w := by
  cases mb with
  | none =>
    obtain rfl : m = [] := hM
    have h := keysR_nil F n hf hro Bm w hBm hm
    rwa [show (fun ss : List R2 => ss = []) = (fun ss => ss.Perm (([] : List (R2 × Bool)).map (·.1))) from funext fun ss => propext List.perm_nil.symm] at h
  | some b => exact keysR_stops F n hf hro hn Bm b m w hBm hm hM
theorem keysR_any (mb : Option Nat) (w : World) : Calls Try.prog 48 #[.map mb] w fun e w' => e = .returned (.func (.func 78) #[] #[.pointer (some ⟨w.heap.size, 0, none⟩)]) ∧ w' = w.alloc (.cells #[.map mb] 68) :=
  callsIn_wide.1 (keysR_in Fence.wide 1 trivial rfl mb w)
theorem appR_any (w : World) (B0 : Nat) (hB0 : B0 ≤ w.heap.size) (v : Value) (l : List R2) (Bm : Nat) (mb : Option Nat) (m : List (R2 × Bool)) (hN : l.length + m.length ≤ 549755813888) (hown : Own w B0 43 2 v (r2cs l)) (hBm : Bm < w.heap.size) (hm : w.cell? ⟨Bm, 0, none⟩ = some (.map mb)) (hM : MpO Try.prog 43 r2V bV w mb m) :
    Calls Try.prog 77 #[v, .func (.func 78) #[] #[.pointer (some ⟨Bm, 0, none⟩)]] w fun e w' => ∃ (v' : Value) (ss : List R2), e = .returned v' ∧ ss.Perm (m.map (·.1)) ∧ Own w' B0 43 2 v' (r2cs (l ++ ss)) ∧ Kept (fun b => b < w.heap.size ∧ v.ownBlock ≠ some b) w w' ∧ KeepsFrom 0 w w' :=
  callsIn_wide.1 (appR_in Fence.wide 3 trivial rfl (by omega) 78 _ trivial (enters_of Try.func78 (by kernel_rfl) rfl) _ _ m.length w B0 hB0 v l hN hown (keysR_seq Fence.wide 2 trivial rfl (by omega) Bm mb m w hBm hm hM))
set_option maxRecDepth 100000 in
set_option maxHeartbeats 800000 in
theorem collectR_any (w : World) (Bm : Nat) (mb : Option Nat) (m : List (R2 × Bool)) (hN : m.length ≤ 549755813888) (hBm : Bm < w.heap.size) (hm : w.cell? ⟨Bm, 0, none⟩ = some (.map mb)) (hM : MpO Try.prog 43 r2V bV w mb m) :
    Calls Try.prog 47 #[.func (.func 78) #[] #[.pointer (some ⟨Bm, 0, none⟩)]] w fun e w' => ∃ (v' : Value) (ss : List R2), e = .returned v' ∧ ss.Perm (m.map (·.1)) ∧ Own w' w.heap.size 43 2 v' (r2cs ss) ∧ Below w.heap.size w w' := by
  have HP := Lib.hid (appR_any w w.heap.size (Nat.le_refl _) (.slice none 0 0) [] Bm mb m (by simpa using hN) (Own.nil w _ _ _) hBm hm hM)
  clear hM hm
  go_enter Try.func47, Try.ntmps47
  go_wp2_with fail
  refine HP.out.mono ?_
  rintro e w1 ⟨v, ss, rfl, hp, ho, hk, _⟩
  go_wp2
  go_ret
  exact ⟨v, ss, rfl, hp, ho, hk.below fun b hb => ⟨hb, by simp [Value.ownBlock]⟩⟩
set_option maxRecDepth 100000 in
set_option maxHeartbeats 800000 in
theorem sortedR_any (w : World) (Bm : Nat) (mb : Option Nat) (m : List (R2 × Bool)) (hN : m.length ≤ 549755813888) (hBm : Bm < w.heap.size) (hm : w.cell? ⟨Bm, 0, none⟩ = some (.map mb)) (hM : MpO Try.prog 43 r2V bV w mb m) :
    Calls Try.prog 72 #[.func (.func 78) #[] #[.pointer (some ⟨Bm, 0, none⟩)], .func (.func 73) #[] #[]] w fun e w' => ∃ (v' : Value) (ss : List R2), e = .returned v' ∧ ss.Perm (m.map (·.1)) ∧ UpR ss ∧ Own w' w.heap.size 43 2 v' (r2cs ss) ∧ Below w.heap.size w w' := by
  have HN := Lib.hid hM.nodup
  have HP := Lib.hid (collectR_any w Bm mb m hN hBm hm hM)
  clear hM hm
  go_enter Try.func72, Try.ntmps72
  go_wp2_with fail
  refine HP.out.mono ?_
  rintro e w1 ⟨v, ss, rfl, hp, ho, hb⟩
  have HP2 := Lib.hid (sortR_any ho (by have := hp.length_eq; simp at this; omega) (hp.nodup_iff.2 HN.out))
  go_wp2_with fail
  refine HP2.out.mono ?_
  rintro e w2 ⟨rfl, l', hp', hu, ho', hk'⟩
  go_wp2
  go_ret
  exact ⟨v, l', rfl, hp'.trans hp, hu, ho', hb.trans (hk'.below fun b hb' => ⟨Nat.lt_of_lt_of_le hb' hb.size, fun e => by have := (ho.block b e).1; omega⟩)⟩

end Go.Proofs.Ytfhonficpccegaa
namespace Go.Proofs.Ytfhonficpccegaa
open Go Go.RowKit Go.Maps

/-- The names of a schema: of each type, of each relation. -/
def namesT (t : TyS) : List R2 := ⟨t.name, ByteArray.empty⟩ :: t.rels.map fun r => ⟨t.name, r.1⟩
def namesOf (ts : List TyS) : List R2 := ts.flatMap namesT
theorem namesOf_take {l : List TyS} {i : Nat} (hi : i < l.length) : namesOf (l.take (i + 1)) = namesOf (l.take i) ++ namesT l[i] := by
  rw [List.take_succ_eq_append_getElem hi]
  simp only [namesOf, List.flatMap_append, List.flatMap_cons, List.flatMap_nil, List.append_nil]
theorem own_ne {s : ByteArray} (h : ownB s = true) : s ≠ ByteArray.empty := by
  rintro rfl
  revert h
  decide
theorem names_nodup {ts : List TyS} (hp : printOk ts = true) : (namesOf ts).Nodup ↔ uniqOk ts = true := by
  have hown : ∀ t ∈ ts, ∀ r ∈ t.rels, r.1 ≠ ByteArray.empty := fun t ht r hr => by
    have h1 := List.all_eq_true.1 hp t ht
    unfold tyOk at h1
    rw [Bool.and_eq_true] at h1
    have h2 := List.all_eq_true.1 h1.2 r hr
    unfold relOk at h2
    simp only [Bool.and_eq_true] at h2
    exact own_ne h2.1.2
  constructor
  · intro h
    refine uniq_of fun j hj => ⟨fun m hm _ hmj he => ?_, ?_⟩
    · have h1 := List.pairwise_iff_getElem.1 (List.pairwise_flatMap.1 h).2 m j hm hj hmj
      exact h1 ⟨ts[m].name, ByteArray.empty⟩ List.mem_cons_self ⟨ts[j].name, ByteArray.empty⟩ List.mem_cons_self (by rw [he])
    · have h1 := (List.pairwise_flatMap.1 h).1 ts[j] (List.getElem_mem hj)
      have h2 := (List.nodup_cons.1 (show (namesT ts[j]).Nodup from h1)).2
      refine List.Pairwise.map _ ?_ (List.Pairwise.of_map _ (R := fun a b : ByteArray × RT => a.1 ≠ b.1) ?_ h2)
      · exact fun a b h => h
      · exact fun a b hne e => hne (by rw [e])
  · intro h
    refine List.pairwise_flatMap.2 ⟨fun t ht => ?_, List.pairwise_iff_getElem.2 fun m j hm hj hmj => ?_⟩
    · obtain ⟨j, hj, rfl⟩ := List.getElem_of_mem ht
      refine List.nodup_cons.2 ⟨fun hm => ?_, ?_⟩
      · obtain ⟨r, hr, he⟩ := List.mem_map.1 hm
        injection he with _ he
        exact hown _ ht r hr he
      · have h1 := (uniq_at h hj).2
        refine List.Pairwise.map _ ?_ (List.Pairwise.of_map _ (R := fun a b : ByteArray × RT => a.1 ≠ b.1) (fun a b h => h) h1)
        exact fun a b hne e => hne (by injection e)
    · intro x hx y hy e
      subst e
      have h1 := (uniq_at h hj).1 m hm hj hmj
      have n1 : x.t = ts[m].name := by
        rcases List.mem_cons.1 hx with rfl | hx
        · rfl
        · obtain ⟨r, _, rfl⟩ := List.mem_map.1 hx
          rfl
      have n2 : x.t = ts[j].name := by
        rcases List.mem_cons.1 hy with rfl | hy
        · rfl
        · obtain ⟨r, _, rfl⟩ := List.mem_map.1 hy
          rfl
      exact h1 (n1.symm.trans n2)
/-- The set of names, met one behind the other. -/
structure NamesI (L N : List R2) : Prop where
  mem : ∀ x, x ∈ N ↔ x ∈ L
  le : N.length ≤ L.length
  eq : N.length = L.length ↔ L.Nodup
theorem NamesI.nil : NamesI [] [] := ⟨fun _ => Iff.rfl, Nat.le_refl _, by simp⟩
def addR (N : List R2) (x : R2) : List R2 := if x ∈ N then N else N ++ [x]
theorem addR_len (N : List R2) (x : R2) : (addR N x).length ≤ N.length + 1 := by
  unfold addR
  split <;> simp
theorem addR_mem (N : List R2) (x y : R2) : y ∈ addR N x ↔ y ∈ N ∨ y = x := by
  unfold addR
  split
  · rename_i h
    exact ⟨.inl, fun hy => hy.elim id fun e => e ▸ h⟩
  · simp
theorem put_addR (N : List R2) (x : R2) : putA (blR N) x true = blR (addR N x) := by
  unfold addR
  split
  · rename_i h; exact put_blR_in N x h
  · rename_i h; exact put_blR N x h
theorem NamesI.step {L N : List R2} (h : NamesI L N) (x : R2) : NamesI (L ++ [x]) (addR N x) := by
  refine ⟨fun y => by rw [addR_mem, h.mem, List.mem_append, List.mem_singleton], ?_, ?_⟩
  · have := addR_len N x
    have := h.le
    simp
    omega
  · unfold addR
    split
    · rename_i hx
      have h1 := h.le
      have h2 := (h.mem x).1 hx
      rw [List.length_append, List.nodup_append]
      simp only [List.length_cons, List.length_nil]
      constructor
      · omega
      · rintro ⟨_, _, h3⟩
        exact absurd rfl (h3 x h2 x (by simp))
    · rename_i hx
      have h2 : ¬ x ∈ L := fun h3 => hx ((h.mem x).2 h3)
      rw [List.length_append, List.length_append, List.nodup_append]
      simp only [List.length_cons, List.length_nil]
      constructor
      · intro h3
        refine ⟨h.eq.1 (by omega), by simp, fun a ha b hb => ?_⟩
        obtain rfl := List.mem_singleton.1 hb
        exact fun e => h2 (e ▸ ha)
      · rintro ⟨h3, _, _⟩
        have := h.eq.2 h3
        omega
theorem NamesI.lt {L N : List R2} (h : NamesI L N) : N.length < L.length ↔ ¬ L.Nodup := by
  rw [← h.eq]
  have := h.le
  omega

theorem refs_mem {ts : List TyS} {p : R2 × RT} : p ∈ refsOf ts ↔ ∃ t ∈ ts, ∃ r ∈ t.rels, p = (⟨t.name, r.1⟩, r.2) := by
  unfold refsOf relsOf
  rw [List.mem_flatMap]
  constructor
  · rintro ⟨t, ht, hp⟩
    obtain ⟨r, hr, rfl⟩ := List.mem_map.1 hp
    exact ⟨t, ht, r, hr, rfl⟩
  · rintro ⟨t, ht, r, hr, rfl⟩
    exact ⟨t, ht, List.mem_map.2 ⟨r, hr, rfl⟩⟩
theorem uniq_eq {ts : List TyS} (h : uniqOk ts = true) {t u : TyS} (ht : t ∈ ts) (hu : u ∈ ts) (he : t.name = u.name) : t = u := by
  obtain ⟨i, hi, rfl⟩ := List.getElem_of_mem ht
  obtain ⟨j, hj, rfl⟩ := List.getElem_of_mem hu
  rcases Nat.lt_trichotomy i j with h1 | h1 | h1
  · exact absurd he ((uniq_at h hj).1 i hi hj h1)
  · subst h1; rfl
  · exact absurd he.symm ((uniq_at h hi).1 j hj hi h1)
theorem look_has {ts : List TyS} (h : uniqOk ts = true) {t : TyS} (ht : t ∈ ts) (a : ByteArray) : (lookA (refsOf ts) ⟨t.name, a⟩).isSome = hasT t a := by
  cases hl : lookA (refsOf ts) ⟨t.name, a⟩ with
  | none =>
    have h1 := look_none_iff.1 hl
    symm
    show hasT t a = false
    unfold hasT
    rw [List.any_eq_false]
    intro r hr he
    have he : r.1 = a := of_decide_eq_true he
    exact h1 _ (refs_mem.2 ⟨t, ht, r, hr, rfl⟩) (by rw [he])
  | some x =>
    obtain ⟨u, hu, r, hr, e⟩ := refs_mem.1 (look_mem hl)
    injection e with e1 e2
    injection e1 with e3 e4
    obtain rfl := uniq_eq h ht hu e3
    symm
    show hasT t a = true
    unfold hasT
    exact List.any_eq_true.2 ⟨r, hr, decide_eq_true e4.symm⟩
theorem where_any (ts : List TyS) (b : ByteArray) : decide (0 < (whereP (refsOf ts) b).length) = anyT ts b := by
  rw [Bool.eq_iff_iff, decide_eq_true_eq]
  unfold whereP anyT
  rw [List.length_map, List.any_eq_true]
  constructor
  · intro h
    obtain ⟨x, hx⟩ := List.exists_mem_of_length_pos h
    rw [List.mem_filter, decide_eq_true_eq] at hx
    obtain ⟨u, hu, r, hr, rfl⟩ := refs_mem.1 hx.1
    exact ⟨u, hu, List.any_eq_true.2 ⟨r, hr, decide_eq_true hx.2⟩⟩
  · rintro ⟨u, hu, h⟩
    obtain ⟨r, hr, he⟩ := List.any_eq_true.1 h
    exact List.length_pos_of_mem (List.mem_filter.2 ⟨refs_mem.2 ⟨u, hu, r, hr, rfl⟩, he⟩)
theorem textOk_leaf {k : Int} {a b : ByteArray} {ps : List RT} {d : Nat} (h : (RT.mk k a b ps).textOk d = true) (hk : k = 2 ∨ k = 3) : ps = [] := by
  rw [RT.textOk] at h
  rcases hk with rfl | rfl
  · simp only [Int.reduceEq, if_false, if_true, Bool.and_eq_true, decide_eq_true_eq] at h
    exact List.eq_nil_of_length_eq_zero h.2
  · simp only [Int.reduceEq, if_false, if_true, Bool.and_eq_true, decide_eq_true_eq] at h
    exact List.eq_nil_of_length_eq_zero h.2
theorem textOk_parts {k : Int} {a b : ByteArray} {ps : List RT} {d : Nat} (h : (RT.mk k a b ps).textOk d = true) : ∀ p ∈ ps, ∃ d', p.textOk d' = true := by
  intro p hp
  by_cases h4 : k = 4 ∨ k = 5
  · have hn : k ≠ 1 ∧ k ≠ 2 ∧ k ≠ 3 := by omega
    rw [RT.textOk, if_neg hn.1, if_neg hn.2.1, if_neg hn.2.2, if_pos h4, textL_eq, Bool.and_eq_true] at h
    have h1 := List.all_eq_true.1 h.2 p hp
    unfold goodP at h1
    rw [Bool.and_eq_true] at h1
    exact ⟨_, h1.2⟩
  · exfalso
    have hnil : ps = [] := by
      rw [RT.textOk] at h
      by_cases k1 : k = 1
      · subst k1
        simp only [if_true, Bool.and_eq_true, decide_eq_true_eq] at h
        exact List.eq_nil_of_length_eq_zero h.2
      · by_cases k2 : k = 2
        · subst k2
          simp only [Int.reduceEq, if_false, if_true, Bool.and_eq_true, decide_eq_true_eq] at h
          exact List.eq_nil_of_length_eq_zero h.2
        · by_cases k3 : k = 3
          · subst k3
            simp only [Int.reduceEq, if_false, if_true, Bool.and_eq_true, decide_eq_true_eq] at h
            exact List.eq_nil_of_length_eq_zero h.2
          · rw [if_neg k1, if_neg k2, if_neg k3, if_neg h4] at h
            cases h
    rw [hnil] at hp
    cases hp
/-- The program's named is the document's, of rules that may be printed. -/
theorem named_eq2 {ts : List TyS} (h : uniqOk ts = true) {t : TyS} (ht : t ∈ ts) (r : RT) : ∀ d, r.textOk d = true → r.pnamed (refsOf ts) t.name = r.named ts t := by
  induction r using RT.ind with
  | h r ih =>
    intro d hd
    obtain ⟨k, a, b, ps⟩ := r
    dsimp only [RT.ps] at ih
    rw [RT.pnamed, RT.named, pnamedL_eq, namedL_eq]
    unfold headOk
    by_cases k2 : k = 2
    · subst k2
      obtain rfl := textOk_leaf hd (.inl rfl)
      rw [if_pos rfl, look_has h ht]
      simp
    · by_cases k3 : k = 3
      · subst k3
        obtain rfl := textOk_leaf hd (.inr rfl)
        rw [if_neg k2, if_pos rfl, look_has h ht, where_any]
        simp
      · rw [if_neg k2, if_neg k3]
        have e2 : (k == 2) = false := by rw [beq_eq_false_iff_ne]; exact k2
        have e3 : (k == 3) = false := by rw [beq_eq_false_iff_ne]; exact k3
        rw [e2, e3]
        simp only [Bool.false_and, Bool.or_false, Bool.not_false, Bool.true_and]
        rw [Bool.eq_iff_iff, List.all_eq_true, List.all_eq_true]
        constructor <;> intro hall p hp
        · obtain ⟨d', hd'⟩ := textOk_parts hd p hp
          rw [← ih p hp d' hd']
          exact hall p hp
        · obtain ⟨d', hd'⟩ := textOk_parts hd p hp
          rw [ih p hp d' hd']
          exact hall p hp
theorem rel_text {ts : List TyS} (hp : printOk ts = true) {t : TyS} (ht : t ∈ ts) {r : ByteArray × RT} (hr : r ∈ t.rels) : r.2.textOk 0 = true := by
  have h1 := List.all_eq_true.1 hp t ht
  unfold tyOk at h1
  rw [Bool.and_eq_true] at h1
  have h2 := List.all_eq_true.1 h1.2 r hr
  unfold relOk at h2
  simp only [Bool.and_eq_true] at h2
  exact h2.1.1
theorem names_all {ts : List TyS} (hp : printOk ts = true) (hu : uniqOk ts = true) : (∀ x ∈ refsOf ts, x.2.pnamed (refsOf ts) x.1.t = true) ↔ namesOk ts = true := by
  unfold namesOk
  rw [List.all_eq_true]
  constructor
  · intro h t ht
    rw [List.all_eq_true]
    intro r hr
    rw [← named_eq2 hu ht r.2 0 (rel_text hp ht hr)]
    exact h _ (refs_mem.2 ⟨t, ht, r, hr, rfl⟩)
  · intro h x hx
    obtain ⟨t, ht, r, hr, rfl⟩ := refs_mem.1 hx
    dsimp only
    rw [named_eq2 hu ht r.2 0 (rel_text hp ht hr)]
    exact List.all_eq_true.1 (h t ht) r hr

end Go.Proofs.Ytfhonficpccegaa
