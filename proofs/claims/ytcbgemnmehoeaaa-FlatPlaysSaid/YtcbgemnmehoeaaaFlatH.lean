/- slices.AppendSeq at points and at subjects, against whatever iterator. No condition: lemmas. -/
import Derived.Test.YtcbgemnmehoeaaaFlatA
import Derived.Test.YtcbgemnmehoeaaaRowkC
import Derived.RangeFuncGives
import Derived.RangeFuncNested
import Derived.RangeFuncLeaves
import Derived.WalkKit
import Derived.OwnWalkIn
import Derived.TacticsInMore
import Derived.RegionIn
import Derived.LoopNIn
import Derived.LoopIn
namespace Go.Proofs.Ytcbgemnmehoeaaa
open Go Go.RowKit

attribute [local go_sem] Oper.semAt_some

theorem pointsT : ElemT Try.prog 48 37 3 48 := ElemT.mk' Try.underlying48 (show _ = some (some (.agg #[.string ByteArray.empty, .string ByteArray.empty, .string ByteArray.empty]), 3, 48) by kernel_rfl) rfl (by decide)
theorem subsT : ElemT Try.prog 39 30 3 48 := ElemT.mk' Try.underlying39 (show _ = some (some (.agg #[.string ByteArray.empty, .string ByteArray.empty, .string ByteArray.empty]), 3, 48) by kernel_rfl) rfl (by decide)
theorem pcs_length (l : List P3) : (pcs l).length = 3 * l.length := by
  unfold pcs
  induction l with
  | nil => rfl
  | cons a r ih => rw [List.flatMap_cons, List.length_append, ih, pC_length, List.length_cons]; omega
theorem pcs_one (l : List P3) : ∀ u ∈ pcs l, u.oneCell' = true := by
  intro u hu
  obtain ⟨a, _, ha⟩ := List.mem_flatMap.1 hu
  exact pC_one a u ha
theorem pcs_append (a b : List P3) : pcs (a ++ b) = pcs a ++ pcs b := List.flatMap_append
theorem pcs_single (a : P3) : pcs [a] = pC a := by simp [pcs]

/-- Where append's result lies: where the row lay, or in a new block. -/
theorem append_where {P : Program} {w : World} (base : Nat) (t ty e : TypeId) (i : TypeInfo) (z : Value) (ht : P.underlying t = some (.slice e)) (hi : P.info? e = some i) (hz : i.zero = some z)
    (v : Value) (n : Nat) (xs : List Value) (hown : w.ownsRow base e i.size v n xs)
    (a : Addr) (m c : Nat) (news : List Value) (hl : news.length = m * i.size) (hnews : ∀ j u, news[j]? = some u → w.cell? (a.add j) = some u) (h1 : ∀ u ∈ news, u.oneCell' = true)
    (h63 : n + m ≤ maxLen) (hbytes : (n + m) * i.bytes ≤ 140737488355328) {v' : Value} {w' : World} (hrun : (Builtin.append_ #[t, t] ty #[v, .slice (some a) m c]).run P w = .ok v' w') :
    ∀ g, v'.ownBlock = some g → v.ownBlock = some g ∨ w.heap.size ≤ g := by
  have hsmall : n + m ≤ 9223372036854775807 := by simp only [maxLen] at h63; omega
  rcases hown.2 with ⟨rfl, rfl⟩ | ⟨g, cap, cur, rfl, hbg, hg, hnc, hcm, hcs, htake⟩
  · have hx : xs = [] := List.eq_nil_of_length_eq_zero (by simpa using hown.1)
    subst hx
    by_cases hm : m = 0
    · subst hm
      have hn : news = [] := List.eq_nil_of_length_eq_zero (by simpa using hl)
      subst hn
      have : (Builtin.append_ #[t, t] ty #[.slice none 0 0, .slice (some a) 0 c]).run P w = .ok (.slice none 0 0) w := by
        simp [Builtin.append_, run_underlying ht, sizeOf, typeInfo, hi, Builtin.lenOf, Builtin.firstCells, loadCells, loadCellsFrom]
      rw [hrun] at this
      injection this with h1 h2
      subst h1
      intro g hg
      cases hg
    · have hr := run_append_nil (P := P) w t ty e i z ht hi hz a m c news hl hnews (by omega) (by omega) (by have hb := hbytes; simp only [Nat.zero_add] at hb; omega)
      rw [hrun] at hr
      injection hr with h1 h2
      subst h1
      intro g hg
      simp only [Value.ownBlock, Option.some.injEq] at hg
      exact .inr (Nat.le_of_eq hg)
  · by_cases hroom : n + m ≤ cap
    · have hfit : n * i.size + news.length ≤ cur.size := by rw [hl, hcs, ← Nat.add_mul]; exact Nat.mul_le_mul_right _ hroom
      have hr := run_append_room (P := P) w t ty e i ht hi g n cap cur hg a m c news hl hnews h1 hroom hfit
      rw [hrun] at hr
      injection hr with h1 h2
      subst h1
      intro g' hg'
      exact .inl hg'
    · have holds : ∀ j u, xs[j]? = some u → w.cell? ((⟨g, 0, none⟩ : Addr).add j) = some u := hown.cells (g := g) rfl
      have hr := run_append_grow (P := P) w t ty e i z ht hi hz ⟨g, 0, none⟩ n cap xs hown.1 holds a m c news hl hnews (by omega) (by omega) (growslice_fits (by omega) hbytes)
      rw [hrun] at hr
      injection hr with h1 h2
      subst h1
      intro g hg
      simp only [Value.ownBlock, Option.some.injEq] at hg
      exact .inr (Nat.le_of_eq hg)

theorem wpListIn_own {F : Fence} {n : Nat} {P : Program} {w : World} {ops : Array Oper} {rest : List Oper} {o : Oper} {a : Act} {Q : Exit → Act → World → Prop} {t e : TypeId} {size bytes : Nat} (E : ElemT P t e size bytes)
    (hg : o.guard = none) (s x : Operand) (hop : o.op = Op.call { callee := Callee.builtin Builtin.append, args := #[s, x], argTypes := #[t, t] })
    {B : Nat} {v : Value} {xs : List Value} (hs : a.eval s = v) (hown : Own w B e size v xs) {ad : Addr} {m c : Nat} {news : List Value} (hx : a.eval x = .slice (some ad) m c) (hn : news.length = m * size)
    (hc : ∀ j u, news[j]? = some u → w.cell? (ad.add j) = some u) (h1 : ∀ u ∈ news, u.oneCell' = true)
    (hlen : xs.length + news.length ≤ 9223372036854775807) (hbytes : (xs.length + news.length) * bytes ≤ 140737488355328) (hB : B ≤ w.heap.size)
    (K : ∀ v' w', Own w' B e size v' (xs ++ news) → (∀ g, v'.ownBlock = some g → v.ownBlock = some g ∨ w.heap.size ≤ g) → w.grownBy w' v.ownBlock → wpListIn F n P ops Q rest (a.put o.dst v') w') : wpListIn F n P ops Q (o :: rest) a w := by
  obtain ⟨hund, ⟨i, z, hi, hz, h4, h5, h6⟩, hpos⟩ := E
  obtain ⟨k, hown⟩ := hown
  have e1 : ∀ k l : Nat, k ≤ l * size → l * size ≤ k → l ≤ k := fun k l _ hb => Nat.le_trans (Nat.le_mul_of_pos_right l hpos) hb
  have hnl : k ≤ xs.length := e1 _ _ (Nat.le_of_eq hown.1) (Nat.le_of_eq hown.1.symm)
  have hml : m ≤ news.length := e1 _ _ (Nat.le_of_eq hn) (Nat.le_of_eq hn.symm)
  have hb47 : (k + m) * bytes ≤ 140737488355328 := Nat.le_trans (Nat.mul_le_mul_right _ (by omega)) hbytes
  subst h4
  subst h5
  refine wpListIn_plain hg fun K' hK' => ?_
  obtain ⟨v', w', hrun, r1, r2, _⟩ := run_append_own (P := P) w B t o.type e i z i.size i.bytes hund hi hz rfl rfl h6 hpos v k xs hown ad m c news hn hc h1 (by unfold maxLen; omega) hb47 hB
  have r3 := append_where B t o.type e i z hund hi hz v k xs hown ad m c news hn hc h1 (by unfold maxLen; omega) hb47 hrun
  unfold Oper.wpIn
  refine ⟨?_, ?_⟩
  · simp [Oper.about, hop, resolve, Target.leads, Sem.run_pure]
  · rw [Oper.semAt_plain F _ _ (by rw [hop]; intro c hc'; cases hc')]
    simp [execOp, hop, resolve, invoke, builtin, hs, hx, hrun, Result.andThen]
    exact hK' _ _ (K v' w' ⟨_, r1⟩ r3 r2)

theorem cells_three (w : World) (a b c : Value) (t : TypeId) : ∀ j u, [a, b, c][j]? = some u → (w.alloc (.cells #[a, b, c] t)).cell? ((⟨w.heap.size, 0, none⟩ : Addr).add j) = some u := fun j u hu => by
  rw [Addr.add_lit, cell_of_row _ w.heap.size (0 + j) #[a, b, c] t (0, 0) (heap_alloc_new w _), Nat.zero_add]
  simpa using hu

theorem own_ownFrom {β : Type} (B0 Bs : Nat) (t e : TypeId) (sz : Nat) (f : β → List Value) (G : Value → Prop) (B : Nat) : OwnFrom B (fun s W => ∃ v, Boxed W Bs t v ∧ Own W B0 e sz v (f s) ∧ G v) := by
  rintro s X Y row ⟨v, hv, ⟨n, hr⟩, hG⟩ hg hrow
  obtain ⟨v2, h1, h2, rfl⟩ := (holdsRow_own B0 Bs t e sz (fun _ : Unit => n) (fun _ => f s) (fun _ u => u = v)) () X Y row ⟨v, hv, hr, rfl⟩ hg (fun r e => (hrow r e).2)
  exact ⟨v2, h1, ⟨n, h2⟩, hG⟩
theorem ownFrom_kept {β : Type} {K : Nat → Prop} {B : Nat} {w0 : World} (hK : ∀ b, K b → b < w0.heap.size) (hB : w0.heap.size ≤ B) : OwnFrom B (fun (_ : β) W => Kept K w0 W) := fun _ X _ row h hg hr =>
  h.trans ⟨hg.os, hg.tape, hg.output, hg.size, fun b hb => hg.block b (Nat.lt_of_lt_of_le (hK b hb) h.size) (fun e => by have h1 := (hr b e.symm).1; have h2 := hK b hb; omega)⟩
theorem boxed3_kept {W W' : World} {row : Option Nat} {B : Nat} {cs : Array Value} {t : TypeId} (h : Blk W B cs t) (hg : W.grownBy W' row) (hr : ∀ r, row = some r → ∃ o : Obj, W.heap[r]? = some o ∧ o.isCells = false) : Blk W' B cs t :=
  (hg.block B h.lt (fun e => by
    obtain ⟨o, ho, hc⟩ := hr B e.symm
    rw [show W.heap[B]? = _ from h] at ho
    cases ho
    cases hc)).trans h
theorem Own.put {W : World} {B0 : Nat} {e : TypeId} {sz : Nat} {v : Value} {xs : List Value} (h : Own W B0 e sz v xs) {l : Nat} {o : Obj} (o' : Obj) (hl : W.heap[l]? = some o) (ho : o.isCells = false) : Own (W.putObj l o') B0 e sz v xs := by
  obtain ⟨n, h⟩ := h
  exact ⟨n, ownsRow_putObj h o' hl ho⟩
theorem boxed_notOwn {W : World} {B : Nat} {t e : TypeId} {u : Value} (h : Boxed W B t u) (hte : t ≠ e) {B0 sz : Nat} {v : Value} {xs : List Value} (hr : Own W B0 e sz v xs) : some B ≠ v.ownBlock := by
  obtain ⟨n, hr⟩ := hr
  exact h.not_row hte hr
theorem Own.not_cells {W : World} {B0 : Nat} {e : TypeId} {sz : Nat} {v : Value} {xs : List Value} (h : Own W B0 e sz v xs) {k : Nat} {o : Obj} (hk : W.heap[k]? = some o) (ho : o.isCells = false) : some k ≠ v.ownBlock := fun e' => by
  obtain ⟨cur, hc⟩ := h.typed e'.symm
  rw [hk] at hc
  cases hc
  cases ho
theorem keeps_own {W W' : World} {B0 : Nat} {e : TypeId} {sz : Nat} {v : Value} {xs : List Value} (h : Own W B0 e sz v xs) (hg : W.grownBy W' v.ownBlock) (B : Nat) : KeepsFrom B W W' :=
  ⟨hg.size, fun k _ _ hk ho => (hg.block k (Array.getElem?_eq_some_iff.1 hk).1 (h.not_cells hk ho)).trans hk⟩
theorem keeps_walks {W W' : World} (h : KeepsFrom 0 W W') : KeepsWalks W W' := ⟨h.size, fun k o hk ho => h.same k o (Nat.zero_le _) hk (Obj.not_cells_of_walk ho)⟩
theorem keeps_up {W W' : World} (h : KeepsFrom 0 W W') (B : Nat) : KeepsFrom B W W' := ⟨h.size, fun k o _ hk ho => h.same k o (Nat.zero_le _) hk ho⟩

set_option maxRecDepth 100000 in
set_option maxHeartbeats 2000000 in
/-- slices.AppendSeq(v, seq): what the iterator gives is appended; nothing else has turned. -/
theorem appP_in (F : Fence) (n : Nat) (h45 : F.fn 45) (hro : F.round = none) (hn : 2 ≤ n) (g : Nat) (lb : Array Value) (hFg : F.fn g) (eg : ∀ args w, (callFunc g args).run Try.prog w = .ok (.enter g args) w)
    (S Sp : List P3 → Prop) (N : Nat) (w : World) (B0 : Nat) (hB0 : B0 ≤ w.heap.size) (v : Value) (l : List P3) (hN : l.length + N ≤ 549755813888) (hown : Own w B0 37 3 v (pcs l)) (hseq : SeqStopsK F (n - 1) Try.prog g lb (fun x => #[pV x]) KeepsWalks S Sp N w) :
    CallsIn F n Try.prog 45 #[v, .func (.func g) #[] lb] w fun e w' => ∃ (v' : Value) (ss : List P3), e = .returned v' ∧ S ss ∧ Own w' B0 37 3 v' (pcs (l ++ ss)) ∧ Kept (fun b => b < w.heap.size ∧ v.ownBlock ≠ some b) w w' ∧ KeepsFrom 0 w w' := by
  have h1 : 1 ≤ n := by omega
  obtain ⟨ao, k, c, rfl⟩ : ∃ ao k c, v = .slice ao k c := by
    rcases hown.shape with ⟨rfl, _⟩ | ⟨g, n, c, rfl⟩
    · exact ⟨_, _, _, rfl⟩
    · exact ⟨_, _, _, rfl⟩
  refine callsIn_of_wp_marks Try.func45 rfl h45 ?_ hro
  simp only [Try.ntmps45, List.size_toArray, List.length_cons, List.length_nil, Nat.reduceAdd, Nat.reduceSub, Array.replicate_succ, Array.replicate_zero, List.push_toArray, List.append_toArray, List.nil_append, List.cons_append]
  gi_wp2
  have bS := Boxed.new w 48 (.slice ao k c)
  have hw0 : Below w.heap.size w (w.alloc (.cells #[.slice ao k c] 48)) := (Below.refl _ w).alloc (Nat.le_refl _) _
  have hsz : (w.alloc (.cells #[.slice ao k c] 48)).heap.size = w.heap.size + 1 := by simp
  have hown0 := hown.below hw0
  have hk0 : KeepsFrom 0 w (w.alloc (.cells #[.slice ao k c] 48)) := (KeepsOthers.alloc _ _).from _
  obtain ⟨W0, hW0⟩ : ∃ W0, w.alloc (.cells #[.slice ao k c] 48) = W0 := ⟨_, rfl⟩
  rw [hW0] at bS hw0 hsz hown0 hk0 ⊢
  clear hW0
  refine wpIn_rangeFunc_ownH hro h1 (gf := g) (lb := lb) rfl hFg eg hseq walksK_t walksK_b hw0 (fun _ => rfl)
    (fun pre W => (∃ v', Boxed W w.heap.size 48 v' ∧ Own W B0 37 3 v' (pcs (l ++ pre)) ∧ (∀ g, v'.ownBlock = some g → (Value.slice ao k c).ownBlock = some g ∨ w.heap.size ≤ g)) ∧ (Kept (fun b => b < w.heap.size ∧ (Value.slice ao k c).ownBlock ≠ some b) w W ∧ KeepsFrom 0 w W))
    (fun _ _ _ => False)
    (OwnFrom.and (own_ownFrom B0 w.heap.size 48 37 3 (fun pre => pcs (l ++ pre)) (fun v' => ∀ g, v'.ownBlock = some g → (Value.slice ao k c).ownBlock = some g ∨ w.heap.size ≤ g) _) (OwnFrom.and (ownFrom_kept (fun b hb => hb.1) (by omega)) (ownFrom_keepsFrom (by omega))))
    (fun _ _ _ _ _ hs _ _ => hs)
    ⟨⟨_, bS, by simpa using hown0, fun g hg => .inl hg⟩, Below.kept hw0 (fun b hb => hb.1), hk0⟩
    (fun x a' W => ∃ Bx, w.heap.size < Bx ∧ Blk W Bx #[.string x.t, .string x.i, .string x.r] 37 ∧ a' = { tmps := #[.slice ao k c, .func (.func g) #[] lb, .pointer (some ⟨w.heap.size, 0, none⟩), undef, .slice none 0 0, .pointer (some ⟨Bx, 0, none⟩), .func (.func g) #[] lb, pV x, undef, undef, undef, undef, undef], defers := [] })
    (fun x a' _ X Y row hs hg hr => by obtain ⟨Bx, h1, h2, h3⟩ := hs; exact ⟨Bx, h1, boxed3_kept h2 hg (fun r e => (hr r e).2), h3⟩)
    ?assign ?body ?done ?stop
  case assign =>
    rintro l2 pre ⟨xt, xi, xr⟩ W K ⟨⟨v', bS1, hO1, hG1⟩, hB1, hK1⟩ hK
    dsimp only [pV]
    gi_wp2
    refine hK _ _ ((KeepsOthers.alloc _ _).from _) (KeepsWalks.alloc _ _) ⟨⟨v', bS1.alloc _, hO1.below ((Below.refl _ _).alloc (Nat.le_refl _) _), hG1⟩, hB1.alloc (fun b hb => Nat.lt_of_lt_of_le hb.1 hB1.size) _, hK1.trans ((KeepsOthers.alloc _ _).from _)⟩ ⟨W.heap.size, bS1.lt, Blk.made W _ _, rfl⟩
  case body =>
    rintro l2 pre ⟨xt, xi, xr⟩ a' W hl ⟨r, hr⟩ ⟨⟨v', bS1, hO1, hG1⟩, hB1, hK1⟩ ⟨Bx, hBx, bX, rfl⟩ hlt
    have cS := bS1.cell
    have cX := bX.cells
    have hwl := hB1.size
    have hpl := pcs_length (l ++ pre)
    rw [List.length_append] at hpl
    have hbb : (3 * (l.length + pre.length) + 3) * 48 ≤ 140737488355328 := by omega
    gi_wp2_with (first
      | (gi_at_builtin; go_loud (
         refine wpListIn_own pointsT rfl _ _ rfl rfl (hO1.below ((Below.refl _ _).alloc (Nat.le_refl _) _)) (ad := ⟨W.heap.size, 0, none⟩) (m := 1) (c := 1) (news := [.string xt, .string xi, .string xr]) rfl rfl (cells_three _ _ _ _ _) (by intro u hu; simp only [List.mem_cons, List.not_mem_nil, or_false] at hu; rcases hu with rfl | rfl | rfl <;> rfl) (by simp only [List.length_cons, List.length_nil]; omega) (by simp only [List.length_cons, List.length_nil]; rw [hpl]; exact hbb) (by simp; omega) ?_
         intro v2 w2 hO2 hG2 hg2
         obtain ⟨g2, n2, c2, rfl⟩ : ∃ g2 n2 c2, v2 = .slice (some ⟨g2, 0, none⟩) n2 c2 := by
           rcases hO2.shape with ⟨_, h⟩ | h
           · exact absurd h (by simp)
           · exact h
         have bS2 := (bS1.alloc (.cells #[.string xt, .string xi, .string xr] 37)).kept hg2 (boxed_notOwn (bS1.alloc _) (by decide) (hO1.below ((Below.refl _ _).alloc (Nat.le_refl _) (.cells #[.string xt, .string xi, .string xr] 37))))
         have cS2 := bS2.cell
         have fS2 := bS2.frozen))
      | gi_in)
    have hKa : KeepsFrom 0 W (W.alloc (.cells #[.string xt, .string xi, .string xr] 37)) := (KeepsOthers.alloc _ _).from _
    have hKb := hKa.trans (keeps_own (hO1.below ((Below.refl _ _).alloc (Nat.le_refl _) (.cells #[.string xt, .string xi, .string xr] 37))) hg2 0)
    have hKc : KeepsFrom 0 W (w2.setCell ⟨w.heap.size, 0, none⟩ (.slice (some ⟨g2, 0, none⟩) n2 c2)) := hKb.trans ((KeepsOthers.setCell _ _ _).from _)
    refine ⟨keeps_up hKc _, keeps_walks hKc, ⟨⟨_, bS2.set _, ?_, fun g hg => ?_⟩, ?_, hK1.trans hKc⟩⟩
    · have := hO2.keepOwn (w' := w2.setCell ⟨w.heap.size, 0, none⟩ (.slice (some ⟨g2, 0, none⟩) n2 c2)) (fun g hg => Below.heap_setCell _ _ _ g (fun e => boxed_notOwn bS2 (by decide) hO2 (by rw [hg, e])))
      rw [← List.append_assoc, pcs_append (l ++ pre), pcs_single]
      exact this
    · rcases hG2 g hg with h | h
      · exact hG1 g h
      · exact .inr (by have := hB1.size; simp at h; omega)
    · have hk2 : Kept (fun b => b < w.heap.size ∧ (Value.slice ao k c).ownBlock ≠ some b) (W.alloc (.cells #[.string xt, .string xi, .string xr] 37)) w2 := ⟨hg2.os, hg2.tape, hg2.output, hg2.size, fun b hb => hg2.block b (by have := hB1.size; have := hb.1; simp; omega) (fun e => by
        rcases hG1 b e.symm with h | h
        · exact hb.2 h
        · have := hb.1; omega)⟩
      exact ((hB1.alloc (fun b hb => Nat.lt_of_lt_of_le hb.1 hB1.size) _).trans hk2).set (a := ⟨w.heap.size, 0, none⟩) (fun h => Nat.lt_irrefl _ h.1) _
  case done =>
    rintro D ys W hD hS ⟨⟨v', bS1, hO1, _⟩, hB1, hK1⟩ hK
    have cS := bS1.cell
    obtain ⟨ao', k', c', rfl⟩ : ∃ ao k c, v' = .slice ao k c := by
      rcases hO1.shape with ⟨rfl, _⟩ | ⟨g, n, c, rfl⟩
      · exact ⟨_, _, _, rfl⟩
      · exact ⟨_, _, _, rfl⟩
    gi_wp2
    refine ⟨by simp, .inl ⟨_, _, rfl, run_takeDeferred hK, ?_⟩⟩
    refine ⟨_, results_tmp rfl _ _ _, _, ys, rfl, hS, hO1.put _ hK rfl, ⟨hB1.os, hB1.tape, hB1.output, by have := hB1.size; simpa using this, fun b hb => (World.putObj_heap_other (fun e => by have := hb.1; omega)).trans (hB1.block b hb)⟩, ?_⟩
    exact ⟨by have := hK1.size; simpa using this, fun k o _ hk ho => (World.putObj_heap_other (fun e => by have := (Array.getElem?_eq_some_iff.1 hk).1; omega)).trans (hK1.same k o (Nat.zero_le _) hk ho)⟩
  case stop =>
    rintro D c pre W _ _ h _
    exact h.elim

set_option maxRecDepth 100000 in
set_option maxHeartbeats 2000000 in
/-- slices.AppendSeq(v, seq): what the iterator gives is appended; nothing else has turned. -/
theorem appS_in (F : Fence) (n : Nat) (h45 : F.fn 47) (hro : F.round = none) (hn : 2 ≤ n) (g : Nat) (lb : Array Value) (hFg : F.fn g) (eg : ∀ args w, (callFunc g args).run Try.prog w = .ok (.enter g args) w)
    (S Sp : List P3 → Prop) (N : Nat) (w : World) (B0 : Nat) (hB0 : B0 ≤ w.heap.size) (v : Value) (l : List P3) (hN : l.length + N ≤ 549755813888) (hown : Own w B0 30 3 v (pcs l)) (hseq : SeqStopsK F (n - 1) Try.prog g lb (fun x => #[pV x]) KeepsWalks S Sp N w) :
    CallsIn F n Try.prog 47 #[v, .func (.func g) #[] lb] w fun e w' => ∃ (v' : Value) (ss : List P3), e = .returned v' ∧ S ss ∧ Own w' B0 30 3 v' (pcs (l ++ ss)) ∧ Kept (fun b => b < w.heap.size ∧ v.ownBlock ≠ some b) w w' ∧ KeepsFrom 0 w w' := by
  have h1 : 1 ≤ n := by omega
  obtain ⟨ao, k, c, rfl⟩ : ∃ ao k c, v = .slice ao k c := by
    rcases hown.shape with ⟨rfl, _⟩ | ⟨g, n, c, rfl⟩
    · exact ⟨_, _, _, rfl⟩
    · exact ⟨_, _, _, rfl⟩
  refine callsIn_of_wp_marks Try.func47 rfl h45 ?_ hro
  simp only [Try.ntmps47, List.size_toArray, List.length_cons, List.length_nil, Nat.reduceAdd, Nat.reduceSub, Array.replicate_succ, Array.replicate_zero, List.push_toArray, List.append_toArray, List.nil_append, List.cons_append]
  gi_wp2
  have bS := Boxed.new w 39 (.slice ao k c)
  have hw0 : Below w.heap.size w (w.alloc (.cells #[.slice ao k c] 39)) := (Below.refl _ w).alloc (Nat.le_refl _) _
  have hsz : (w.alloc (.cells #[.slice ao k c] 39)).heap.size = w.heap.size + 1 := by simp
  have hown0 := hown.below hw0
  have hk0 : KeepsFrom 0 w (w.alloc (.cells #[.slice ao k c] 39)) := (KeepsOthers.alloc _ _).from _
  obtain ⟨W0, hW0⟩ : ∃ W0, w.alloc (.cells #[.slice ao k c] 39) = W0 := ⟨_, rfl⟩
  rw [hW0] at bS hw0 hsz hown0 hk0 ⊢
  clear hW0
  refine wpIn_rangeFunc_ownH hro h1 (gf := g) (lb := lb) rfl hFg eg hseq walksK_t walksK_b hw0 (fun _ => rfl)
    (fun pre W => (∃ v', Boxed W w.heap.size 39 v' ∧ Own W B0 30 3 v' (pcs (l ++ pre)) ∧ (∀ g, v'.ownBlock = some g → (Value.slice ao k c).ownBlock = some g ∨ w.heap.size ≤ g)) ∧ (Kept (fun b => b < w.heap.size ∧ (Value.slice ao k c).ownBlock ≠ some b) w W ∧ KeepsFrom 0 w W))
    (fun _ _ _ => False)
    (OwnFrom.and (own_ownFrom B0 w.heap.size 39 30 3 (fun pre => pcs (l ++ pre)) (fun v' => ∀ g, v'.ownBlock = some g → (Value.slice ao k c).ownBlock = some g ∨ w.heap.size ≤ g) _) (OwnFrom.and (ownFrom_kept (fun b hb => hb.1) (by omega)) (ownFrom_keepsFrom (by omega))))
    (fun _ _ _ _ _ hs _ _ => hs)
    ⟨⟨_, bS, by simpa using hown0, fun g hg => .inl hg⟩, Below.kept hw0 (fun b hb => hb.1), hk0⟩
    (fun x a' W => ∃ Bx, w.heap.size < Bx ∧ Blk W Bx #[.string x.t, .string x.i, .string x.r] 30 ∧ a' = { tmps := #[.slice ao k c, .func (.func g) #[] lb, .pointer (some ⟨w.heap.size, 0, none⟩), undef, .slice none 0 0, .pointer (some ⟨Bx, 0, none⟩), .func (.func g) #[] lb, pV x, undef, undef, undef, undef, undef], defers := [] })
    (fun x a' _ X Y row hs hg hr => by obtain ⟨Bx, h1, h2, h3⟩ := hs; exact ⟨Bx, h1, boxed3_kept h2 hg (fun r e => (hr r e).2), h3⟩)
    ?assign ?body ?done ?stop
  case assign =>
    rintro l2 pre ⟨xt, xi, xr⟩ W K ⟨⟨v', bS1, hO1, hG1⟩, hB1, hK1⟩ hK
    dsimp only [pV]
    gi_wp2
    refine hK _ _ ((KeepsOthers.alloc _ _).from _) (KeepsWalks.alloc _ _) ⟨⟨v', bS1.alloc _, hO1.below ((Below.refl _ _).alloc (Nat.le_refl _) _), hG1⟩, hB1.alloc (fun b hb => Nat.lt_of_lt_of_le hb.1 hB1.size) _, hK1.trans ((KeepsOthers.alloc _ _).from _)⟩ ⟨W.heap.size, bS1.lt, Blk.made W _ _, rfl⟩
  case body =>
    rintro l2 pre ⟨xt, xi, xr⟩ a' W hl ⟨r, hr⟩ ⟨⟨v', bS1, hO1, hG1⟩, hB1, hK1⟩ ⟨Bx, hBx, bX, rfl⟩ hlt
    have cS := bS1.cell
    have cX := bX.cells
    have hwl := hB1.size
    have hpl := pcs_length (l ++ pre)
    rw [List.length_append] at hpl
    have hbb : (3 * (l.length + pre.length) + 3) * 48 ≤ 140737488355328 := by omega
    gi_wp2_with (first
      | (gi_at_builtin; go_loud (
         refine wpListIn_own subsT rfl _ _ rfl rfl (hO1.below ((Below.refl _ _).alloc (Nat.le_refl _) _)) (ad := ⟨W.heap.size, 0, none⟩) (m := 1) (c := 1) (news := [.string xt, .string xi, .string xr]) rfl rfl (cells_three _ _ _ _ _) (by intro u hu; simp only [List.mem_cons, List.not_mem_nil, or_false] at hu; rcases hu with rfl | rfl | rfl <;> rfl) (by simp only [List.length_cons, List.length_nil]; omega) (by simp only [List.length_cons, List.length_nil]; rw [hpl]; exact hbb) (by simp; omega) ?_
         intro v2 w2 hO2 hG2 hg2
         obtain ⟨g2, n2, c2, rfl⟩ : ∃ g2 n2 c2, v2 = .slice (some ⟨g2, 0, none⟩) n2 c2 := by
           rcases hO2.shape with ⟨_, h⟩ | h
           · exact absurd h (by simp)
           · exact h
         have bS2 := (bS1.alloc (.cells #[.string xt, .string xi, .string xr] 30)).kept hg2 (boxed_notOwn (bS1.alloc _) (by decide) (hO1.below ((Below.refl _ _).alloc (Nat.le_refl _) (.cells #[.string xt, .string xi, .string xr] 30))))
         have cS2 := bS2.cell
         have fS2 := bS2.frozen))
      | gi_in)
    have hKa : KeepsFrom 0 W (W.alloc (.cells #[.string xt, .string xi, .string xr] 30)) := (KeepsOthers.alloc _ _).from _
    have hKb := hKa.trans (keeps_own (hO1.below ((Below.refl _ _).alloc (Nat.le_refl _) (.cells #[.string xt, .string xi, .string xr] 30))) hg2 0)
    have hKc : KeepsFrom 0 W (w2.setCell ⟨w.heap.size, 0, none⟩ (.slice (some ⟨g2, 0, none⟩) n2 c2)) := hKb.trans ((KeepsOthers.setCell _ _ _).from _)
    refine ⟨keeps_up hKc _, keeps_walks hKc, ⟨⟨_, bS2.set _, ?_, fun g hg => ?_⟩, ?_, hK1.trans hKc⟩⟩
    · have := hO2.keepOwn (w' := w2.setCell ⟨w.heap.size, 0, none⟩ (.slice (some ⟨g2, 0, none⟩) n2 c2)) (fun g hg => Below.heap_setCell _ _ _ g (fun e => boxed_notOwn bS2 (by decide) hO2 (by rw [hg, e])))
      rw [← List.append_assoc, pcs_append (l ++ pre), pcs_single]
      exact this
    · rcases hG2 g hg with h | h
      · exact hG1 g h
      · exact .inr (by have := hB1.size; simp at h; omega)
    · have hk2 : Kept (fun b => b < w.heap.size ∧ (Value.slice ao k c).ownBlock ≠ some b) (W.alloc (.cells #[.string xt, .string xi, .string xr] 30)) w2 := ⟨hg2.os, hg2.tape, hg2.output, hg2.size, fun b hb => hg2.block b (by have := hB1.size; have := hb.1; simp; omega) (fun e => by
        rcases hG1 b e.symm with h | h
        · exact hb.2 h
        · have := hb.1; omega)⟩
      exact ((hB1.alloc (fun b hb => Nat.lt_of_lt_of_le hb.1 hB1.size) _).trans hk2).set (a := ⟨w.heap.size, 0, none⟩) (fun h => Nat.lt_irrefl _ h.1) _
  case done =>
    rintro D ys W hD hS ⟨⟨v', bS1, hO1, _⟩, hB1, hK1⟩ hK
    have cS := bS1.cell
    obtain ⟨ao', k', c', rfl⟩ : ∃ ao k c, v' = .slice ao k c := by
      rcases hO1.shape with ⟨rfl, _⟩ | ⟨g, n, c, rfl⟩
      · exact ⟨_, _, _, rfl⟩
      · exact ⟨_, _, _, rfl⟩
    gi_wp2
    refine ⟨by simp, .inl ⟨_, _, rfl, run_takeDeferred hK, ?_⟩⟩
    refine ⟨_, results_tmp rfl _ _ _, _, ys, rfl, hS, hO1.put _ hK rfl, ⟨hB1.os, hB1.tape, hB1.output, by have := hB1.size; simpa using this, fun b hb => (World.putObj_heap_other (fun e => by have := hb.1; omega)).trans (hB1.block b hb)⟩, ?_⟩
    exact ⟨by have := hK1.size; simpa using this, fun k o _ hk ho => (World.putObj_heap_other (fun e => by have := (Array.getElem?_eq_some_iff.1 hk).1; omega)).trans (hK1.same k o (Nat.zero_le _) hk ho)⟩
  case stop =>
    rintro D c pre W _ _ h _
    exact h.elim

end Go.Proofs.Ytcbgemnmehoeaaa
