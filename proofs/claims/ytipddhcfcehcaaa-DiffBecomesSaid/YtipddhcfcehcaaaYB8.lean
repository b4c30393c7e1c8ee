/- Lemmas for the claim, no condition. -/
import Derived.DeepKeys4
import Derived.RangeFuncGives
import Derived.RangeFuncNested
import Derived.RangeFuncLeaves
import Derived.WalkKit
import Derived.OwnWalkIn
import Derived.TacticsInMore
import Derived.RegionIn
import Derived.LoopNIn
import Derived.LoopIn
import Derived.Test.YtipddhcfcehcaaaYB7
import Derived.Test.YtipddhcfcehcaaaYB1
import Derived.Test.YtipddhcfcehcaaaYB2
import Derived.Test.YtipddhcfcehcaaaYB0
import Derived.Test.YtipddhcfcehcaaaYB3
namespace Go.Proofs.Ytipddhcfcehcaaa
open Go Go.RowKit

def TL (b : ByteArray) : List UInt8 := b.data.toList
theorem TL_inj {a b : ByteArray} (h : TL a = TL b) : a = b := ByteArray.ext (by rw [← Array.toList_inj]; exact h)
theorem own_chars {a : ByteArray} (h : ownB a = true) : (∀ c ∈ TL a, okc c = true) ∧ TL a ≠ [] ∧ a ≠ ⟨#[116, 104, 105, 115]⟩ := by
  unfold ownB isNm at h
  simp only [Bool.and_eq_true, List.all_eq_true, decide_eq_true_eq] at h
  refine ⟨h.1.1, fun e => ?_, h.2⟩
  have : a.size = 0 := by
    have := congrArg List.length e
    simpa [TL] using this
  omega
end Go.Proofs.Ytipddhcfcehcaaa
namespace Go.Proofs.Ytipddhcfcehcaaa
open Go Go.RowKit

theorem Own.lit (w : World) {B : Nat} (hB : B ≤ w.heap.size) (e : TypeId) (sz n : Nat) (cs : Array Value) (hn : cs.size = n * sz) (hm : n ≤ maxLen) (h0 : n ≠ 0) : Own (w.alloc (.cells cs e)) B e sz (.slice (some ⟨w.heap.size, 0, none⟩) n n) cs.toList := by
  refine ⟨n, by simpa using hn, .inr ⟨w.heap.size, n, cs, rfl, hB, heap_alloc_new w _, Nat.le_refl _, hm, hn, ?_⟩⟩
  rw [← hn]
  exact List.take_of_length_le (by simp)

end Go.Proofs.Ytipddhcfcehcaaa
namespace Go.Proofs.Ytipddhcfcehcaaa
open Go Go.RowKit Go.Maps

theorem laidOut : laidOutB Try.prog = true := by kernel_rfl
theorem str_lits (d : Nat) (s : ByteArray) (h : s.size ≤ maxLen) : Try.prog.keyLits (d + 1) 9 [.string s] = some [.string s.data.toList] := by
  unfold Program.keyLits
  rw [Try.underlying9]
  simp only [h, if_true]
theorem types_many : ∃ d, Try.prog.types.size = d + 1 + 1 + 1 := ⟨Try.prog.types.size - 3, by have : 3 ≤ Try.prog.types.size := of_decide_eq_true (by kernel_rfl); omega⟩

end Go.Proofs.Ytipddhcfcehcaaa
namespace Go.Proofs.Ytipddhcfcehcaaa
open Go Go.RowKit Go.Maps

theorem refK : Keyed Try.prog 61 := Keyed.of_law (deep_law_laid laidOut (m := 3) (by decide) (of_decide_eq_true (by kernel_rfl)) (by kernel_rfl) (by kernel_rfl))
theorem r2V_inj (a b : R2) (h : r2V a = r2V b) : a = b := by
  obtain ⟨a1, a2⟩ := a
  obtain ⟨b1, b2⟩ := b
  simpa [r2V] using h
/-- Texts that a machine can hold. -/
def R2.Ok (p : R2) : Prop := p.t.size ≤ maxLen ∧ p.r.size ≤ maxLen
theorem ref_lits (d : Nat) (p : R2) (h : p.Ok) : Try.prog.keyLits (d + 1 + 1) 61 [.string p.t, .string p.r] = some [.string p.t.data.toList, .string p.r.data.toList] := by
  unfold Program.keyLits
  rw [Try.underlying61]
  have e1 := str_lits d p.t h.1
  have e2 := str_lits d p.r h.2
  have e3 : Try.prog.cellsOf 61 = 2 := by kernel_rfl
  have e4 : Try.prog.cellsOf 9 = 1 := by kernel_rfl
  simp [e1, e2, e3, e4]
theorem ref_key (p : R2) (h : p.Ok) : ∃ q, keyOf Try.prog 61 (r2V p) = some q := by
  obtain ⟨d, hd⟩ := types_many
  have e := ref_lits (d + 1 + 1) p h
  have e2 : (Try.prog.keyType 61 && (r2V p).formed Try.prog 61) = true := by kernel_rfl
  have hs : Try.prog.types.size + 1 = d + 1 + 1 + 1 + 1 := by omega
  unfold keyOf
  rw [Try.underlying61]
  dsimp only
  rw [if_pos e2, hs]
  rw [show (r2V p).cells.toList = [.string p.t, .string p.r] from rfl, e]
  exact ⟨_, rfl⟩
theorem strK : Keyed Try.prog 9 := string_keyed Try.underlying9
theorem strV_inj (a b : ByteArray) (h : Value.string a = Value.string b) : a = b := by injection h
theorem str_key (s : ByteArray) (h : s.size ≤ maxLen) : ∃ q, keyOf Try.prog 9 (.string s) = some q := by
  unfold keyOf
  rw [Try.underlying9]
  dsimp only
  unfold mapKey
  rw [Try.underlying9]
  simp [h]

end Go.Proofs.Ytipddhcfcehcaaa
namespace Go.Proofs.Ytipddhcfcehcaaa
open Go Go.RowKit Go.Maps

abbrev bV : Bool → Value := fun x => .bool x

section
variable {κ α : Type} [DecidableEq κ]
theorem look_put (a : κ) (x : α) (b : κ) : ∀ l : List (κ × α), lookA (putA l a x) b = if a = b then some x else lookA l b
  | [] => by simp [putA, lookA]
  | p :: r => by
    unfold putA
    by_cases h : p.1 = a
    · rw [if_pos h]
      subst h
      by_cases hb : p.1 = b
      · simp [lookA, hb]
      · simp [lookA, hb]
    · rw [if_neg h]
      by_cases hb : p.1 = b
      · subst hb
        simp [lookA, Ne.symm h]
      · simp [lookA, hb, look_put a x b r]
end
/-- Nothing that was there has turned but b. -/
abbrev Tk (b : Nat) (w w' : World) : Prop := Kept (fun x => x < w.heap.size ∧ x ≠ b) w w'
section
variable {b : Nat} {w w' w'' : World}
theorem Tk.refl (b : Nat) (w : World) : Tk b w w := Kept.refl _ _
theorem Tk.next (h : Tk b w w') (k : Tk b w' w'') : Tk b w w'' := Kept.trans h (Kept.mono k fun x hx => ⟨Nat.lt_of_lt_of_le hx.1 h.size, hx.2⟩)
theorem Tk.of (h : Below w.heap.size w w') : Tk b w w' := Below.kept h fun x hx => hx.1
theorem Tk.turned (h : Turned w w' b) : Tk b w w' := h.kept.mono fun x hx => hx.2
theorem Tk.box (h : Tk b w w') {x : Nat} {cs : Array Value} {t : TypeId} (hx : Blk w x cs t) (hb : x ≠ b) : Blk w' x cs t := Kept.blk h hx ⟨hx.lt, hb⟩
theorem Tk.below (h : Tk b w w') {B : Nat} (h1 : B ≤ w.heap.size) (h2 : B ≤ b) : Below B w w' := Kept.below h fun x hx => ⟨by omega, by omega⟩
end

end Go.Proofs.Ytipddhcfcehcaaa
namespace Go.Proofs.Ytipddhcfcehcaaa
open Go Go.RowKit

attribute [local go_sem] Oper.semAt_some
/-- Where append's result lies: where the row lay, or in a new block. -/
theorem append_where {P : Program} {w : World} (base : Nat) (t ty e : TypeId) (i : TypeInfo) (z : Value) (ht : P.underlying t = some (.slice e)) (hi : P.info? e = some i) (hz : i.zero = some z)
    (v : Value) (n : Nat) (xs : List Value) (hown : w.ownsRow base e i.size v n xs)
    (a : Addr) (m c : Nat) (news : List Value) (hl : news.length = m * i.size) (hnews : ∀ j u, news[j]? = some u → w.cell? (a.add j) = some u) (h1 : ∀ u ∈ news, u.oneCell' = true)
    (h63 : n + m ≤ maxLen) (hbytes : (n + m) * i.bytes ≤ 140737488355328) {v' : Value} {w' : World} (hrun : (Builtin.append_ #[t, t] ty #[v, .slice (some a) m c]).run P w = .ok v' w') :
    ∀ g, v'.ownBlock = some g → v.ownBlock = some g ∨ w.heap.size ≤ g := by
  have hsmall : n + m ≤ 9223372036854775807 := by simp only [maxLen] at h63; omega
  rcases hown.2 with ⟨rfl, rfl⟩ | ⟨g, cap, cur, rfl, hbg, hg, hnc, hcm, hcs, htake⟩
  · have hx : xs = [] := List.eq_nil_of_length_eq_zero (by simpa using hown.1)
    subst hx
    by_cases hm : m = 0
    · subst hm
      have hn : news = [] := List.eq_nil_of_length_eq_zero (by simpa using hl)
      subst hn
      have : (Builtin.append_ #[t, t] ty #[.slice none 0 0, .slice (some a) 0 c]).run P w = .ok (.slice none 0 0) w := by
        simp [Builtin.append_, run_underlying ht, sizeOf, typeInfo, hi, Builtin.lenOf, Builtin.firstCells, loadCells, loadCellsFrom]
      rw [hrun] at this
      injection this with h1 h2
      subst h1
      intro g hg
      cases hg
    · have hr := run_append_nil (P := P) w t ty e i z ht hi hz a m c news hl hnews (by omega) (by omega) (by have hb := hbytes; simp only [Nat.zero_add] at hb; omega)
      rw [hrun] at hr
      injection hr with h1 h2
      subst h1
      intro g hg
      simp only [Value.ownBlock, Option.some.injEq] at hg
      exact .inr (Nat.le_of_eq hg)
  · by_cases hroom : n + m ≤ cap
    · have hfit : n * i.size + news.length ≤ cur.size := by rw [hl, hcs, ← Nat.add_mul]; exact Nat.mul_le_mul_right _ hroom
      have hr := run_append_room (P := P) w t ty e i ht hi g n cap cur hg a m c news hl hnews h1 hroom hfit
      rw [hrun] at hr
      injection hr with h1 h2
      subst h1
      intro g' hg'
      exact .inl hg'
    · have holds : ∀ j u, xs[j]? = some u → w.cell? ((⟨g, 0, none⟩ : Addr).add j) = some u := hown.cells (g := g) rfl
      have hr := run_append_grow (P := P) w t ty e i z ht hi hz ⟨g, 0, none⟩ n cap xs hown.1 holds a m c news hl hnews (by omega) (by omega) (growslice_fits (by omega) hbytes)
      rw [hrun] at hr
      injection hr with h1 h2
      subst h1
      intro g hg
      simp only [Value.ownBlock, Option.some.injEq] at hg
      exact .inr (Nat.le_of_eq hg)
theorem Own.put {W : World} {B0 : Nat} {e : TypeId} {sz : Nat} {v : Value} {xs : List Value} (h : Own W B0 e sz v xs) {l : Nat} {o : Obj} (o' : Obj) (hl : W.heap[l]? = some o) (ho : o.isCells = false) : Own (W.putObj l o') B0 e sz v xs := by
  obtain ⟨n, h⟩ := h
  exact ⟨n, ownsRow_putObj h o' hl ho⟩
end Go.Proofs.Ytipddhcfcehcaaa
namespace Go.Proofs.Ytipddhcfcehcaaa
open Go Go.RowKit Go.Maps

/-- What is left alone where blocks of M, and rows of e from B on, may turn. -/
def QK (e : TypeId) (M : Nat → Prop) (B : Nat) (w : World) (x : Nat) : Prop := x < B ∨ (¬ M x ∧ x < w.heap.size ∧ ∀ cs, w.heap[x]? ≠ some (.cells cs e (0, 0)))
abbrev QKept (e : TypeId) (M : Nat → Prop) (B : Nat) (w w' : World) : Prop := Kept (QK e M B w) w w'
section
variable {e : TypeId} {M : Nat → Prop} {w w' w'' : World} {B : Nat}
theorem QKept.below (h : QKept e M B w w') : Below B w w' := Kept.below h fun _ hx => .inl hx
theorem QKept.next (h : QKept e M B w w') (k : QKept e M B w' w'') : QKept e M B w w'' := Kept.trans h (Kept.mono k fun x hx => by
  rcases hx with hx | ⟨h1, h2, h3⟩
  · exact .inl hx
  · refine .inr ⟨h1, Nat.lt_of_lt_of_le h2 h.size, fun cs => ?_⟩
    rw [h.block x (.inr ⟨h1, h2, h3⟩)]
    exact h3 cs)
theorem QKept.of (h : Below w.heap.size w w') (hB : B ≤ w.heap.size) : QKept e M B w w' := Below.kept h fun x hx => by
  rcases hx with hx | ⟨_, h2, _⟩
  · omega
  · exact h2
theorem QKept.box (h : QKept e M B w w') {x : Nat} {cs : Array Value} {t : TypeId} (hx : Blk w x cs t) (he : t ≠ e) (hb : ¬ M x) : Blk w' x cs t := Kept.blk h hx (.inr ⟨hb, hx.lt, fun cs' h' => by
  rw [show w.heap[x]? = _ from hx] at h'
  injection h' with h'
  injection h' with _ h2 _
  exact he h2⟩)
theorem QKept.turned {b : Nat} (h : Turned w w' b) (hb : M b) (hB : B ≤ b) : QKept e M B w w' := h.kept.mono fun x hx => by
  rcases hx with hx | ⟨h1, _⟩
  · show x ≠ b; omega
  · show x ≠ b; exact fun e => h1 (e ▸ hb)
/-- Behind an append to a row of the call's own. -/
theorem QKept.grown {v : Value} {sz : Nat} {xs : List Value} (ho : Own w B e sz v xs) (hg : w.grownBy w' v.ownBlock) (hB : B ≤ w.heap.size) : QKept e M B w w' := ⟨hg.os, hg.tape, hg.output, hg.size, fun x hx => by
  rcases hx with hx | ⟨_, h2, h3⟩
  · exact hg.block x (by omega) (fun e => by have := (ho.block x e.symm).1; omega)
  · refine hg.block x h2 (fun e => ?_)
    obtain ⟨n, ho⟩ := ho
    rcases ho.2 with ⟨rfl, _⟩ | ⟨g', cap, cur, rfl, hbg, hg', r⟩
    · cases e
    · injection e with e
      subst e
      exact h3 _ hg'⟩
end

/-- The law of append to a row of the call's own in a drawn region; where its result lies. -/
theorem wp_ownw {P : Program} {w : World} {o : Oper} {a : Act} {K : Act → World → Prop} {Q : Exit → Act → World → Prop} {t e : TypeId} {size bytes : Nat} (E : ElemT P t e size bytes)
    (s x : Operand) (hop : o.op = Op.call { callee := Callee.builtin Builtin.append, args := #[s, x], argTypes := #[t, t] })
    {B : Nat} {v : Value} {xs : List Value} (hs : a.eval s = v) (hown : Own w B e size v xs) {ad : Addr} {m c : Nat} {news : List Value} (hx : a.eval x = .slice (some ad) m c) (hn : news.length = m * size)
    (hc : ∀ j u, news[j]? = some u → w.cell? (ad.add j) = some u) (h1 : ∀ u ∈ news, u.oneCell' = true)
    (hlen : xs.length + news.length ≤ 9223372036854775807) (hbytes : (xs.length + news.length) * bytes ≤ 140737488355328) (hB : B ≤ w.heap.size)
    (h : ∀ v' w', Own w' B e size v' (xs ++ news) → (∀ g, v'.ownBlock = some g → v.ownBlock = some g ∨ w.heap.size ≤ g) → w.grownBy w' v.ownBlock → K (a.put o.dst v') w') : o.wp P a w K Q := by
  obtain ⟨hund, ⟨i, z, hi, hz, h4, h5, h6⟩, hpos⟩ := E
  obtain ⟨k, hown⟩ := hown
  have e1 : ∀ k l : Nat, k ≤ l * size → l * size ≤ k → l ≤ k := fun k l _ hb => Nat.le_trans (Nat.le_mul_of_pos_right l hpos) hb
  have hnl : k ≤ xs.length := e1 _ _ (Nat.le_of_eq hown.1) (Nat.le_of_eq hown.1.symm)
  have hml : m ≤ news.length := e1 _ _ (Nat.le_of_eq hn) (Nat.le_of_eq hn.symm)
  have hb47 : (k + m) * bytes ≤ 140737488355328 := Nat.le_trans (Nat.mul_le_mul_right _ (by omega)) hbytes
  subst h4
  subst h5
  obtain ⟨v', w', hrun, r1, r2, _⟩ := run_append_own (P := P) w B t o.type e i z i.size i.bytes hund hi hz rfl rfl h6 hpos v k xs hown ad m c news hn hc h1 (by unfold maxLen; omega) hb47 hB
  have r3 := append_where B t o.type e i z hund hi hz v k xs hown ad m c news hn hc h1 (by unfold maxLen; omega) hb47 hrun
  unfold Oper.wp
  simp [execOp, hop, resolve, invoke, builtin, hs, hx, hrun, Result.andThen]
  exact h v' w' ⟨_, r1⟩ r3 r2

end Go.Proofs.Ytipddhcfcehcaaa
namespace Go.Proofs.Ytipddhcfcehcaaa
open Go Go.RowKit

/-- Is a type not too long? -/
def tyLong (t : TyS) : Bool := decide (t.rels.length ≤ 16) && t.rels.all fun r => decide (r.2.sz ≤ 32)
def longOk (ts : List TyS) : Bool := decide (ts.length ≤ 16) && ts.all tyLong
def uniqOk (ts : List TyS) : Bool := decide ((ts.map (·.name)).Nodup) && ts.all fun t => decide ((t.rels.map (·.1)).Nodup)
def freshT (ts : List TyS) (j : Nat) : Prop := ∀ m (hm : m < ts.length) (hj : j < ts.length), m < j → ts[m].name ≠ ts[j].name
def namesOk (ts : List TyS) : Bool := ts.all fun t => t.rels.all fun r => r.2.named ts t
theorem uniq_at {ts : List TyS} (h : uniqOk ts = true) {i : Nat} (hi : i < ts.length) : freshT ts i ∧ ((ts[i].rels.map (·.1)).Nodup) := by
  unfold uniqOk at h
  rw [Bool.and_eq_true, decide_eq_true_eq, List.all_eq_true] at h
  refine ⟨fun m hm hj hmj he => ?_, of_decide_eq_true (h.2 _ (List.getElem_mem hi))⟩
  have := (List.pairwise_iff_getElem.1 h.1) m i (by simpa using hm) (by simpa using hi) hmj
  simp only [List.getElem_map] at this
  exact this he
theorem uniq_of {ts : List TyS} (h : ∀ j (hj : j < ts.length), freshT ts j ∧ ((ts[j].rels.map (·.1)).Nodup)) : uniqOk ts = true := by
  unfold uniqOk
  rw [Bool.and_eq_true, decide_eq_true_eq, List.all_eq_true]
  refine ⟨List.pairwise_iff_getElem.2 fun m j hm hj hmj => ?_, fun x hx => ?_⟩
  · simp only [List.getElem_map]
    exact (h j (by simpa using hj)).1 m (by simpa using hm) (by simpa using hj) hmj
  · obtain ⟨j, hj, rfl⟩ := List.getElem_of_mem hx
    exact decide_eq_true (h j hj).2
def freshN (l : List (ByteArray × RT)) (j : Nat) : Prop := ∀ m (hm : m < l.length) (hj : j < l.length), m < j → l[m].1 ≠ l[j].1
theorem fresh_of {l : List (ByteArray × RT)} (h : (l.map (·.1)).Nodup) (j : Nat) : freshN l j := fun m hm hj hmj he => by
  have := (List.pairwise_iff_getElem.1 h) m j (by simpa using hm) (by simpa using hj) hmj
  simp only [List.getElem_map] at this
  exact this he
/-- What is wrong first. -/
def chk06 (ts : List TyS) : Int := if printOk ts then (if longOk ts then (if uniqOk ts then (if namesOk ts then 0 else 2) else 3) else 10) else 9

end Go.Proofs.Ytipddhcfcehcaaa
namespace Go.Proofs.Ytipddhcfcehcaaa
open Go Go.RowKit Go.Maps

abbrev RV := RT × Value
def rvV (x : RV) : Value := rV x.1 x.2
abbrev WV := List ByteArray × Value
def wvV (x : WV) : Value := x.2
def txs (l : List ByteArray) : List Value := l.map Value.string
theorem txs_one (l : List ByteArray) : ∀ u ∈ txs l, u.oneCell' = true := by
  intro u hu
  obtain ⟨s, _, rfl⟩ := List.mem_map.1 hu
  rfl
theorem txs_length (l : List ByteArray) : (txs l).length = l.length := by simp [txs]
theorem txs_append (a b : List ByteArray) : txs (a ++ b) = txs a ++ txs b := by simp [txs]
theorem textsT : ElemT Try.prog 36 9 1 16 := ElemT.mk' Try.underlying36 (show _ = some (some (.string ByteArray.empty), 1, 16) by kernel_rfl) rfl (by decide)
/-- The relations of a type, of a schema, with their rules. -/
def relsOf (n : ByteArray) (l : List (ByteArray × RT)) : List (R2 × RT) := l.map fun r => (⟨n, r.1⟩, r.2)
def refsOf (ts : List TyS) : List (R2 × RT) := ts.flatMap fun t => relsOf t.name t.rels
/-- Which types have a relation. -/
def whereP (P : List (R2 × RT)) (n : ByteArray) : List ByteArray := (P.filter fun x => decide (x.1.r = n)).map (·.1.t)
def optL (l : List ByteArray) : Option (List ByteArray) := if l = [] then none else some l
theorem whereP_snoc (P : List (R2 × RT)) (x : R2 × RT) (n : ByteArray) : whereP (P ++ [x]) n = if x.1.r = n then whereP P n ++ [x.1.t] else whereP P n := by
  unfold whereP
  rw [List.filter_append, List.map_append]
  by_cases h : x.1.r = n
  · simp [h]
  · simp [h]
theorem refsOf_append (a b : List TyS) : refsOf (a ++ b) = refsOf a ++ refsOf b := List.flatMap_append
theorem refsOf_take {l : List TyS} {i : Nat} (hi : i < l.length) : refsOf (l.take (i + 1)) = refsOf (l.take i) ++ relsOf l[i].name l[i].rels := by
  rw [List.take_succ_eq_append_getElem hi, refsOf_append]
  simp [refsOf]
theorem relsOf_take {n : ByteArray} {l : List (ByteArray × RT)} {i : Nat} (hi : i < l.length) : relsOf n (l.take (i + 1)) = relsOf n (l.take i) ++ [(⟨n, l[i].1⟩, l[i].2)] := by
  rw [List.take_succ_eq_append_getElem hi]
  simp only [relsOf, List.map_append, List.map_cons, List.map_nil]
/-- The rows of the map of texts' rows: the call's own, each in a block of its own. -/
structure WhRows (w : World) (B : Nat) (lw : List (ByteArray × WV)) : Prop where
  rows : ∀ x ∈ lw, x.2.1 ≠ [] ∧ Own w B 9 1 x.2.2 (txs x.2.1)
  apart : ∀ x ∈ lw, ∀ y ∈ lw, x.1 ≠ y.1 → x.2.2.ownBlock ≠ y.2.2.ownBlock
/-- A book's rules: of the relations P. The parts lie in S. -/
def BkR (S : Nat → Prop) (w : World) (b1 : Nat) (P : List (R2 × RT)) : Prop :=
  ∃ lr : List (R2 × RV), Mp Try.prog 61 r2V rvV w b1 lr ∧ lr.map (fun x => (x.1, x.2.1)) = P ∧ ∀ x ∈ lr, RTAt S w x.2.1 x.2.2
/-- Where a book's relations stand, being made. -/
def BkW (w : World) (B b3 : Nat) (P : List (R2 × RT)) : Prop :=
  ∃ lw : List (ByteArray × WV), Mp Try.prog 9 Value.string wvV w b3 lw ∧ WhRows w B lw ∧ ∀ n, (lookA lw n).map (·.1) = optL (whereP P n)
theorem Own.notMap {w : World} {B : Nat} {e : TypeId} {sz : Nat} {v : Value} {xs : List Value} (h : Own w B e sz v xs) {b : Nat} (hb : ∀ cs t fr, w.heap[b]? ≠ some (.cells cs t fr)) : ∀ g, v.ownBlock = some g → g ≠ b := by
  intro g hg he
  obtain ⟨n, h⟩ := h
  rcases h.2 with ⟨rfl, _⟩ | ⟨g', cap, cur, rfl, hbg, hg', r⟩
  · cases hg
  · injection hg with hg
    subst hg he
    exact hb _ _ _ hg'
theorem Mp.notCells {P : Program} {k : TypeId} {κ α : Type} {kv : κ → Value} {ev : α → Value} {w : World} {b : Nat} {l : List (κ × α)} (h : Mp P k kv ev w b l) : ∀ cs t fr, w.heap[b]? ≠ some (.cells cs t fr) := by
  obtain ⟨es, clock, hb, _⟩ := h
  intro cs t fr h
  rw [hb] at h
  cases h
theorem own_some {w : World} {B : Nat} {e : TypeId} {v : Value} {l : List ByteArray} (h : Own w B e 1 v (txs l)) (hl : l ≠ []) : ∃ g, v.ownBlock = some g := by
  obtain ⟨n, h⟩ := h
  rcases h.2 with ⟨rfl, rfl⟩ | ⟨g', cap, cur, rfl, hbg, hg', r⟩
  · have := h.1
    rw [txs_length] at this
    exact absurd (List.eq_nil_of_length_eq_zero (by omega)) hl
  · exact ⟨g', rfl⟩
theorem WhRows.keep {w w' : World} {B : Nat} {lw : List (ByteArray × WV)} (h : WhRows w B lw) (hs : ∀ x, B ≤ x → x < w.heap.size → (∃ cs, w.heap[x]? = some (.cells cs 9 (0, 0))) → w'.heap[x]? = w.heap[x]?) : WhRows w' B lw :=
  ⟨fun x hx => ⟨(h.rows x hx).1, (h.rows x hx).2.keepB fun g hg => by
    have ho := (h.rows x hx).2
    have hb := ho.block g hg
    refine hs g hb.1 hb.2 ?_
    obtain ⟨n, ho⟩ := ho
    rcases ho.2 with ⟨h0, _⟩ | ⟨g', cap, cur, h0, hbg, hg', r⟩
    · rw [h0] at hg; cases hg
    · rw [h0] at hg
      injection hg with hg
      subst hg
      exact ⟨_, hg'⟩⟩, h.apart⟩
theorem put_mem {κ α : Type} [DecidableEq κ] (a : κ) (y : α) (x : κ × α) : ∀ {l : List (κ × α)}, (l.map (·.1)).Nodup → x ∈ putA l a y → x = (a, y) ∨ (x ∈ l ∧ x.1 ≠ a)
  | [], _, h => by simp [putA] at h; exact .inl h
  | p :: r, hn, h => by
    simp only [List.map_cons, List.nodup_cons] at hn
    unfold putA at h
    split at h
    · rename_i e
      rcases List.mem_cons.1 h with h | h
      · exact .inl h
      · exact .inr ⟨by simp [h], fun e2 => hn.1 (by rw [e, ← e2]; exact List.mem_map.2 ⟨x, h, rfl⟩)⟩
    · rename_i e
      rcases List.mem_cons.1 h with h | h
      · exact .inr ⟨by simp [h], h ▸ e⟩
      · rcases put_mem a y x hn.2 h with h | h
        · exact .inl h
        · exact .inr ⟨by simp [h.1], h.2⟩
/-- A text more in the row of n. -/
theorem WhRows.put {w w1 w2 w3 : World} {B b3 : Nat} {lw : List (ByteArray × WV)} (h : WhRows w B lw) {n : ByteArray} {names : List ByteArray} {v v' : Value} (hl : (lookA lw n = some (names, v)) ∨ (lookA lw n = none ∧ names = [] ∧ v = .slice none 0 0))
    (h1 : Below w.heap.size w w1) (h2 : w1.grownBy w2 v.ownBlock) {tn : ByteArray} (ho : Own w2 B 9 1 v' (txs (names ++ [tn]))) (hw : ∀ g, v'.ownBlock = some g → v.ownBlock = some g ∨ w1.heap.size ≤ g)
    (hm : Mp Try.prog 9 Value.string wvV w b3 lw) (hm2 : Mp Try.prog 9 Value.string wvV w2 b3 lw) (ht : Turned w2 w3 b3) : WhRows w3 B (putA lw n (names ++ [tn], v')) := by
  have hnd := hm.nodup
  have old : ∀ x ∈ lw, x.1 ≠ n → ∀ g, x.2.2.ownBlock = some g → v.ownBlock ≠ some g := fun x hx hne g hg e => by
    rcases hl with hl | ⟨_, _, rfl⟩
    · exact h.apart x hx _ (look_mem hl) hne (hg.trans e.symm)
    · cases e
  have lt : ∀ x ∈ lw, ∀ g, x.2.2.ownBlock = some g → g < w.heap.size := fun x hx g hg => ((h.rows x hx).2.block g hg).2
  refine ⟨fun x hx => ?_, fun x hx y hy hne => ?_⟩
  · rcases put_mem _ _ _ hnd hx with rfl | ⟨hx, hxn⟩
    · exact ⟨by simp, ho.keepB fun g hg => ht.kept.block g (ho.notMap hm2.notCells g hg)⟩
    · have hr := (h.rows x hx).2
      have hr1 := hr.below h1
      refine ⟨(h.rows x hx).1, hr1.keepB fun g hg => ?_⟩
      have hg1 := lt x hx g hg
      have hs1 := h1.size
      refine (ht.kept.block g ?_).trans (h2.block g (by omega) fun e => old x hx hxn g hg e.symm)
      intro e
      subst e
      exact hr.notMap hm.notCells g hg rfl
  · rcases put_mem _ _ _ hnd hx with rfl | ⟨hx, hxn⟩ <;> rcases put_mem _ _ _ hnd hy with rfl | ⟨hy, hyn⟩
    · exact absurd rfl hne
    · intro e
      obtain ⟨g, hg⟩ := own_some ho (by simp)
      have hg2 : y.2.2.ownBlock = some g := e.symm.trans hg
      rcases hw g hg with h3 | h3
      · exact old y hy hyn g hg2 h3
      · have := lt y hy g hg2
        have := h1.size
        omega
    · intro e
      obtain ⟨g, hg⟩ := own_some ho (by simp)
      have hg2 : x.2.2.ownBlock = some g := e.trans hg
      rcases hw g hg with h3 | h3
      · exact old x hx hxn g hg2 h3
      · have := lt x hx g hg2
        have := h1.size
        omega
    · exact h.apart x hx y hy hne

section
variable {S : Nat → Prop} {w w' : World} {B b1 b3 : Nat} {P : List (R2 × RT)}
theorem BkR.lt (h : BkR S w b1 P) : b1 < w.heap.size := by
  obtain ⟨lr, h1, _⟩ := h
  exact h1.lt
theorem BkR.notCells (h : BkR S w b1 P) : ∀ cs t fr, w.heap[b1]? ≠ some (.cells cs t fr) := by
  obtain ⟨lr, h1, _⟩ := h
  exact h1.notCells
theorem BkR.same (h : BkR S w b1 P) (hb : w'.heap[b1]? = w.heap[b1]?) (hs : Same S w w') : BkR S w' b1 P := by
  obtain ⟨lr, h1, h2, h3⟩ := h
  exact ⟨lr, h1.same hb, h2, fun x hx => (h3 x hx).same hs⟩
theorem BkR.up (h : BkR (· < w.heap.size) w b1 P) (hb : Below w.heap.size w w') : BkR (· < w'.heap.size) w' b1 P := by
  obtain ⟨lr, h1, h2, h3⟩ := h
  exact ⟨lr, h1.below hb, h2, fun x hx => (h3 x hx).up hb⟩
theorem BkW.lt (h : BkW w B b3 P) : b3 < w.heap.size := by
  obtain ⟨lw, h1, _⟩ := h
  exact h1.lt
theorem BkW.notCells (h : BkW w B b3 P) : ∀ cs t fr, w.heap[b3]? ≠ some (.cells cs t fr) := by
  obtain ⟨lw, h1, _⟩ := h
  exact h1.notCells
theorem BkW.keep (h : BkW w B b3 P) (hb : w'.heap[b3]? = w.heap[b3]?) (hs : ∀ x, B ≤ x → x < w.heap.size → (∃ cs, w.heap[x]? = some (.cells cs 9 (0, 0))) → w'.heap[x]? = w.heap[x]?) : BkW w' B b3 P := by
  obtain ⟨lw, h1, h2, h3⟩ := h
  exact ⟨lw, h1.same hb, h2.keep hs, h3⟩
theorem BkW.up (h : BkW w B b3 P) (hb : Below w.heap.size w w') : BkW w' B b3 P := h.keep (hb.block _ h.lt) fun x _ hx _ => hb.block x hx
theorem BkW.turned (h : BkW w B b3 P) {b : Nat} (ht : Turned w w' b) (hb : b3 ≠ b) (hc : ∀ cs t fr, w.heap[b]? ≠ some (.cells cs t fr)) : BkW w' B b3 P :=
  h.keep (ht.kept.block _ hb) fun x _ _ hx => ht.kept.block x fun e => by
    obtain ⟨cs, hx⟩ := hx
    exact hc _ _ _ (e ▸ hx)
/-- A rule of a reference that isn't there. -/
theorem pairs_look {α β : Type} {f : α → β} {k : R2} : ∀ {l : List (R2 × α)} {P : List (R2 × β)}, l.map (fun x => (x.1, f x.2)) = P → (lookA l k).map f = lookA P k
  | [], P, h => by subst h; rfl
  | x :: l, P, h => by
    subst h
    simp only [List.map_cons, lookA]
    split
    · rfl
    · exact pairs_look rfl
theorem BkR.look (h : BkR S w b1 P) (k : R2) (hk : k.Ok) : ∃ z : RV, (Instr.lookup 114 (.map (some b1)) (r2V k) true).run Try.prog w = .ok (.tuple #[rvV z, .bool (lookA P k).isSome]) w ∧ RTAt S w z.1 z.2 ∧ (∀ r, lookA P k = some r → z.1 = r) ∧ (lookA P k = none → z = (.mk 0 ByteArray.empty ByteArray.empty [], .slice none 0 0)) := by
  obtain ⟨lr, h1, h2, h3⟩ := h
  have hl := pairs_look (f := fun x : RV => x.1) (k := k) h2
  have hrun := h1.look refK r2V_inj Try.underlying114 (Try.zeroValue72 w) true (ref_key k hk)
  cases hlk : lookA lr k with
  | none =>
    rw [hlk] at hl hrun
    refine ⟨(.mk 0 ByteArray.empty ByteArray.empty [], .slice none 0 0), ?_, ?_, ?_, fun _ => rfl⟩
    · rw [hrun, ← hl]; rfl
    · exact (RTAt.iff _ _).2 ⟨[], rfl, by simp, Sl.nil _ _ _⟩
    · intro r hr; rw [← hl] at hr; cases hr
  | some x =>
    rw [hlk] at hl hrun
    refine ⟨x, ?_, h3 _ (look_mem hlk), ?_, ?_⟩
    · rw [hrun, ← hl]; rfl
    · intro r hr; rw [← hl] at hr; injection hr
    · intro hr; rw [← hl] at hr; cases hr
theorem BkR.store (h : BkR S w b1 P) {k : R2} (hk : k.Ok) {r : RT} {pv : Value} (hr : RTAt S w r pv) (hS : ∀ x, S x → x ≠ b1) (hn : lookA P k = none) :
    ∃ w', (Instr.mapUpdate 114 (.map (some b1)) (r2V k) (rV r pv)).run Try.prog w = .ok () w' ∧ BkR S w' b1 (P ++ [(k, r)]) ∧ Turned w w' b1 := by
  obtain ⟨lr, h1, h2, h3⟩ := h
  obtain ⟨w', hrun, hM, hT⟩ := h1.store refK r2V_inj Try.underlying114 (ref_key k hk) ((r, pv) : RV)
  have hl := pairs_look (f := fun x : RV => x.1) (k := k) h2
  rw [hn] at hl
  have hln : lookA lr k = none := by cases hlk : lookA lr k with | none => rfl | some x => rw [hlk] at hl; cases hl
  rw [put_miss (look_none_iff.1 hln)] at hM
  refine ⟨w', hrun, ⟨_, hM, by rw [List.map_append, h2]; rfl, fun x hx => ?_⟩, hT⟩
  have hs : Same S w w' := fun x hx => hT.kept.block x (hS x hx)
  rcases List.mem_append.1 hx with hx | hx
  · exact (h3 x hx).same hs
  · obtain rfl := List.mem_singleton.1 hx
    exact hr.same hs
theorem BkW.look (h : BkW w B b3 P) (n : ByteArray) (hn : n.size ≤ maxLen) : ∃ v, (Instr.lookup 115 (.map (some b3)) (.string n) false).run Try.prog w = .ok v w ∧ Own w B 9 1 v (txs (whereP P n)) ∧ ∃ lw, Mp Try.prog 9 Value.string wvV w b3 lw ∧ WhRows w B lw ∧ (∀ n, (lookA lw n).map (·.1) = optL (whereP P n)) ∧ (lookA lw n = some (whereP P n, v) ∨ (lookA lw n = none ∧ whereP P n = [] ∧ v = .slice none 0 0)) := by
  obtain ⟨lw, h1, h2, h3⟩ := h
  have hl := h3 n
  have hrun := h1.look strK strV_inj Try.underlying115 (Try.zeroValue36 w) false (str_key n hn)
  cases hlk : lookA lw n with
  | none =>
    rw [hlk] at hl hrun
    have hw : whereP P n = [] := by
      unfold optL at hl
      split at hl
      · assumption
      · cases hl
    exact ⟨.slice none 0 0, hrun, by rw [hw]; exact Own.nil _ _ _ _, lw, h1, h2, h3, .inr ⟨hlk, hw, rfl⟩⟩
  | some x =>
    rw [hlk] at hl hrun
    have hw : x.1 = whereP P n := by
      unfold optL at hl
      split at hl
      · cases hl
      · injection hl
    have hm := h2.rows _ (look_mem hlk)
    refine ⟨x.2, hrun, by rw [← hw]; exact hm.2, lw, h1, h2, h3, .inl ?_⟩
    rw [hlk, ← hw]
/-- A type more where a relation stands. -/
theorem BkW.put {w1 w2 : World} {lw : List (ByteArray × WV)} {k : R2} {r : RT} {v v' : Value} (hM : Mp Try.prog 9 Value.string wvV w b3 lw) (hR : WhRows w B lw) (hL : ∀ n, (lookA lw n).map (·.1) = optL (whereP P n))
    (hl : lookA lw k.r = some (whereP P k.r, v) ∨ (lookA lw k.r = none ∧ whereP P k.r = [] ∧ v = .slice none 0 0)) (h1 : Below w.heap.size w w1) (h2 : w1.grownBy w2 v.ownBlock) (ho0 : Own w B 9 1 v (txs (whereP P k.r))) (ho : Own w2 B 9 1 v' (txs (whereP P k.r ++ [k.t])))
    (hw : ∀ g, v'.ownBlock = some g → v.ownBlock = some g ∨ w1.heap.size ≤ g) (hk : k.r.size ≤ maxLen) :
    ∃ w', (Instr.mapUpdate 115 (.map (some b3)) (.string k.r) v').run Try.prog w2 = .ok () w' ∧ BkW w' B b3 (P ++ [(k, r)]) ∧ Turned w2 w' b3 := by
  have hm1 := hM.below h1
  have hm2 : Mp Try.prog 9 Value.string wvV w2 b3 lw := hm1.same (h2.block b3 hm1.lt (fun e => ((ho0.below h1).notMap hm1.notCells) b3 e.symm rfl))
  obtain ⟨w', hrun, hM', hT⟩ := hm2.store strK strV_inj Try.underlying115 (str_key k.r hk) ((whereP P k.r ++ [k.t], v') : WV)
  refine ⟨w', hrun, ⟨_, hM', hR.put (names := whereP P k.r) (v := v) ?_ h1 h2 ho hw hM hm2 hT, fun n => ?_⟩, hT⟩
  · rcases hl with hl | ⟨h3, h4, h5⟩
    · exact .inl hl
    · exact .inr ⟨h3, h4, h5⟩
  · rw [look_put, whereP_snoc]
    by_cases e : k.r = n
    · rw [if_pos e, if_pos e]
      subst e
      unfold optL
      rw [if_neg (by simp)]
      rfl
    · rw [if_neg e, if_neg e]
      exact hL n
end

end Go.Proofs.Ytipddhcfcehcaaa
