/- Lemmas for the claim, no condition. -/
import Derived.RangeFuncGives
import Derived.RangeFuncNested
import Derived.RangeFuncLeaves
import Derived.WalkKit
import Derived.OwnWalkIn
import Derived.TacticsInMore
import Derived.RegionIn
import Derived.LoopNIn
import Derived.LoopIn
import Derived.Lib.Builder
import Derived.Lib.UnsafeStr
import Derived.Lib.Hide
import Derived.Test.YtjdigpfipmckhaaYRcMost2
import Derived.Test.YtjdigpfipmckhaaYRcMost0
import Derived.Test.YtjdigpfipmckhaaYRcMost1
namespace Go.Proofs.Ytjdigpfipmckhaa
open Go Go.RowKit
attribute [local go_sem] Oper.semAt_some
theorem wpListIn_own {F : Fence} {n : Nat} {P : Program} {w : World} {ops : Array Oper} {rest : List Oper} {o : Oper} {a : Act} {Q : Exit → Act → World → Prop} {t e : TypeId} {size bytes : Nat} (E : ElemT P t e size bytes)
    (hg : o.guard = none) (s x : Operand) (hop : o.op = Op.call { callee := Callee.builtin Builtin.append, args := #[s, x], argTypes := #[t, t] })
    {B : Nat} {v : Value} {xs : List Value} (hs : a.eval s = v) (hown : Own w B e size v xs) {ad : Addr} {m c : Nat} {news : List Value} (hx : a.eval x = .slice (some ad) m c) (hn : news.length = m * size)
    (hc : ∀ j u, news[j]? = some u → w.cell? (ad.add j) = some u) (h1 : ∀ u ∈ news, u.oneCell' = true)
    (hlen : xs.length + news.length ≤ 9223372036854775807) (hbytes : (xs.length + news.length) * bytes ≤ 140737488355328) (hB : B ≤ w.heap.size)
    (K : ∀ v' w', Own w' B e size v' (xs ++ news) → (∀ g, v'.ownBlock = some g → v.ownBlock = some g ∨ w.heap.size ≤ g) → w.grownBy w' v.ownBlock → wpListIn F n P ops Q rest (a.put o.dst v') w') : wpListIn F n P ops Q (o :: rest) a w := by
  obtain ⟨hund, ⟨i, z, hi, hz, h4, h5, h6⟩, hpos⟩ := E
  obtain ⟨k, hown⟩ := hown
  have e1 : ∀ k l : Nat, k ≤ l * size → l * size ≤ k → l ≤ k := fun k l _ hb => Nat.le_trans (Nat.le_mul_of_pos_right l hpos) hb
  have hnl : k ≤ xs.length := e1 _ _ (Nat.le_of_eq hown.1) (Nat.le_of_eq hown.1.symm)
  have hml : m ≤ news.length := e1 _ _ (Nat.le_of_eq hn) (Nat.le_of_eq hn.symm)
  have hb47 : (k + m) * bytes ≤ 140737488355328 := Nat.le_trans (Nat.mul_le_mul_right _ (by omega)) hbytes
  subst h4
  subst h5
  refine wpListIn_plain hg fun K' hK' => ?_
  obtain ⟨v', w', hrun, r1, r2, _⟩ := run_append_own (P := P) w B t o.type e i z i.size i.bytes hund hi hz rfl rfl h6 hpos v k xs hown ad m c news hn hc h1 (by unfold maxLen; omega) hb47 hB
  have r3 := append_where B t o.type e i z hund hi hz v k xs hown ad m c news hn hc h1 (by unfold maxLen; omega) hb47 hrun
  unfold Oper.wpIn
  refine ⟨?_, ?_⟩
  · simp [Oper.about, hop, resolve, Target.leads, Sem.run_pure]
  · rw [Oper.semAt_plain F _ _ (by rw [hop]; intro c hc'; cases hc')]
    simp [execOp, hop, resolve, invoke, builtin, hs, hx, hrun, Result.andThen]
    exact hK' _ _ (K v' w' ⟨_, r1⟩ r3 r2)
theorem own_ownFrom {β : Type} (B0 Bs : Nat) (t e : TypeId) (sz : Nat) (f : β → List Value) (G : Value → Prop) (B : Nat) : OwnFrom B (fun s W => ∃ v, Boxed W Bs t v ∧ Own W B0 e sz v (f s) ∧ G v) := by
  rintro s X Y row ⟨v, hv, ⟨n, hr⟩, hG⟩ hg hrow
  obtain ⟨v2, h1, h2, rfl⟩ := (holdsRow_own B0 Bs t e sz (fun _ : Unit => n) (fun _ => f s) (fun _ u => u = v)) () X Y row ⟨v, hv, hr, rfl⟩ hg (fun r e => (hrow r e).2)
  exact ⟨v2, h1, ⟨n, h2⟩, hG⟩
theorem ownFrom_kept {β : Type} {K : Nat → Prop} {B : Nat} {w0 : World} (hK : ∀ b, K b → b < w0.heap.size) (hB : w0.heap.size ≤ B) : OwnFrom B (fun (_ : β) W => Kept K w0 W) := fun _ X _ row h hg hr =>
  h.trans ⟨hg.os, hg.tape, hg.output, hg.size, fun b hb => hg.block b (Nat.lt_of_lt_of_le (hK b hb) h.size) (fun e => by have h1 := (hr b e.symm).1; have h2 := hK b hb; omega)⟩
theorem boxed3_kept {W W' : World} {row : Option Nat} {B : Nat} {cs : Array Value} {t : TypeId} (h : Blk W B cs t) (hg : W.grownBy W' row) (hr : ∀ r, row = some r → ∃ o : Obj, W.heap[r]? = some o ∧ o.isCells = false) : Blk W' B cs t :=
  (hg.block B h.lt (fun e => by
    obtain ⟨o, ho, hc⟩ := hr B e.symm
    rw [show W.heap[B]? = _ from h] at ho
    cases ho
    cases hc)).trans h
theorem Own.put {W : World} {B0 : Nat} {e : TypeId} {sz : Nat} {v : Value} {xs : List Value} (h : Own W B0 e sz v xs) {l : Nat} {o : Obj} (o' : Obj) (hl : W.heap[l]? = some o) (ho : o.isCells = false) : Own (W.putObj l o') B0 e sz v xs := by
  obtain ⟨n, h⟩ := h
  exact ⟨n, ownsRow_putObj h o' hl ho⟩
theorem boxed_notOwn {W : World} {B : Nat} {t e : TypeId} {u : Value} (h : Boxed W B t u) (hte : t ≠ e) {B0 sz : Nat} {v : Value} {xs : List Value} (hr : Own W B0 e sz v xs) : some B ≠ v.ownBlock := by
  obtain ⟨n, hr⟩ := hr
  exact h.not_row hte hr
theorem Own.not_cells {W : World} {B0 : Nat} {e : TypeId} {sz : Nat} {v : Value} {xs : List Value} (h : Own W B0 e sz v xs) {k : Nat} {o : Obj} (hk : W.heap[k]? = some o) (ho : o.isCells = false) : some k ≠ v.ownBlock := fun e' => by
  obtain ⟨cur, hc⟩ := h.typed e'.symm
  rw [hk] at hc
  cases hc
  cases ho
theorem keeps_own {W W' : World} {B0 : Nat} {e : TypeId} {sz : Nat} {v : Value} {xs : List Value} (h : Own W B0 e sz v xs) (hg : W.grownBy W' v.ownBlock) (B : Nat) : KeepsFrom B W W' :=
  ⟨hg.size, fun k _ _ hk ho => (hg.block k (Array.getElem?_eq_some_iff.1 hk).1 (h.not_cells hk ho)).trans hk⟩
theorem keeps_up {W W' : World} (h : KeepsFrom 0 W W') (B : Nat) : KeepsFrom B W W' := ⟨h.size, fun k o _ hk ho => h.same k o (Nat.zero_le _) hk ho⟩
end Go.Proofs.Ytjdigpfipmckhaa
namespace Go.Proofs.Ytjdigpfipmckhaa
open Go Go.RowKit Go.Maps
def QK (e : TypeId) (M : Nat → Prop) (B : Nat) (w : World) (x : Nat) : Prop := x < B ∨ (¬ M x ∧ x < w.heap.size ∧ ∀ cs, w.heap[x]? ≠ some (.cells cs e (0, 0)))
abbrev QKept (e : TypeId) (M : Nat → Prop) (B : Nat) (w w' : World) : Prop := Kept (QK e M B w) w w'
section
variable {e : TypeId} {M : Nat → Prop} {w w' w'' : World} {B : Nat}
theorem QKept.below (h : QKept e M B w w') : Below B w w' := Kept.below h fun _ hx => .inl hx
theorem QKept.next (h : QKept e M B w w') (k : QKept e M B w' w'') : QKept e M B w w'' := Kept.trans h (Kept.mono k fun x hx => by
  rcases hx with hx | ⟨h1, h2, h3⟩
  · exact .inl hx
  · refine .inr ⟨h1, Nat.lt_of_lt_of_le h2 h.size, fun cs => ?_⟩
    rw [h.block x (.inr ⟨h1, h2, h3⟩)]
    exact h3 cs)
theorem QKept.of (h : Below w.heap.size w w') (hB : B ≤ w.heap.size) : QKept e M B w w' := Below.kept h fun x hx => by
  rcases hx with hx | ⟨_, h2, _⟩
  · omega
  · exact h2
theorem QKept.box (h : QKept e M B w w') {x : Nat} {cs : Array Value} {t : TypeId} (hx : Blk w x cs t) (he : t ≠ e) (hb : ¬ M x) : Blk w' x cs t := Kept.blk h hx (.inr ⟨hb, hx.lt, fun cs' h' => by
  rw [show w.heap[x]? = _ from hx] at h'
  injection h' with h'
  injection h' with _ h2 _
  exact he h2⟩)
theorem QKept.turned {b : Nat} (h : Turned w w' b) (hb : M b) (hB : B ≤ b) : QKept e M B w w' := h.kept.mono fun x hx => by
  rcases hx with hx | ⟨h1, _⟩
  · show x ≠ b; omega
  · show x ≠ b; exact fun e => h1 (e ▸ hb)
theorem QKept.grown {v : Value} {sz : Nat} {xs : List Value} (ho : Own w B e sz v xs) (hg : w.grownBy w' v.ownBlock) (hB : B ≤ w.heap.size) : QKept e M B w w' := ⟨hg.os, hg.tape, hg.output, hg.size, fun x hx => by
  rcases hx with hx | ⟨_, h2, h3⟩
  · exact hg.block x (by omega) (fun e => by have := (ho.block x e.symm).1; omega)
  · refine hg.block x h2 (fun e => ?_)
    obtain ⟨n, ho⟩ := ho
    rcases ho.2 with ⟨rfl, _⟩ | ⟨g', cap, cur, rfl, hbg, hg', r⟩
    · cases e
    · injection e with e
      subst e
      exact h3 _ hg'⟩
end
theorem wpList_own2 {P : Program} {w : World} {ops : Array Oper} {rest : List Oper} {o : Oper} {a : Act} {Q : Exit → Act → World → Prop} {t e : TypeId} {size bytes : Nat} (E : ElemT P t e size bytes)
    (hg : o.guard = none) (s x : Operand) (hop : o.op = Op.call { callee := Callee.builtin Builtin.append, args := #[s, x], argTypes := #[t, t] })
    {B : Nat} {v : Value} {xs : List Value} (hs : a.eval s = v) (hown : Own w B e size v xs) {T : Nat → Prop} {y : Value} {news : List Value} (hx : a.eval x = y) (hy : Sl T w size y news) (h1 : ∀ u ∈ news, u.oneCell' = true)
    (hlen : xs.length + news.length ≤ 9223372036854775807) (hbytes : (xs.length + news.length) * bytes ≤ 140737488355328) (hB : B ≤ w.heap.size)
    (K : ∀ v' w', Own w' B e size v' (xs ++ news) → Below B w w' → w.grownBy w' v.ownBlock → wpList P ops Q rest (a.put o.dst v') w') : wpList P ops Q (o :: rest) a w :=
  wpList_plain hg fun K' hK' => wp_own E s x hop hs hown hx hy h1 hlen hbytes hB fun v' w' h2 h3 h4 => hK' _ _ (K v' w' h2 h3 h4)
end Go.Proofs.Ytjdigpfipmckhaa
namespace Go.Proofs.Ytjdigpfipmckhaa
open Go Go.RowKit
theorem Own.keepB {w w' : World} {B : Nat} {e : TypeId} {sz : Nat} {v : Value} {xs : List Value} (h : Own w B e sz v xs) (hs : ∀ g, v.ownBlock = some g → w'.heap[g]? = w.heap[g]?) : Own w' B e sz v xs := by
  obtain ⟨n, h⟩ := h
  refine ⟨n, h.1, ?_⟩
  rcases h.2 with hn | ⟨g, cap, cur, rfl, hbg, hg, r⟩
  · exact .inl hn
  · exact .inr ⟨g, cap, cur, rfl, hbg, (hs g rfl).trans hg, r⟩
theorem Own.notBlk {w : World} {B : Nat} {e t : TypeId} {sz : Nat} {v : Value} {xs : List Value} {b : Nat} {cs : Array Value} (h : Own w B e sz v xs) (hb : Blk w b cs t) (hne : t ≠ e) : ∀ g, v.ownBlock = some g → g ≠ b := by
  intro g hg he
  obtain ⟨n, h⟩ := h
  rcases h.2 with ⟨rfl, _⟩ | ⟨g', cap, cur, rfl, hbg, hg', r⟩
  · cases hg
  · injection hg with hg
    subst hg he
    rw [show w.heap[g']? = _ from hb] at hg'
    injection hg' with hg'
    injection hg' with _ h2 _
    exact hne h2
def WrB (w : World) (B b : Nat) (text : ByteArray) (odd : Bool) : Prop := B ≤ b ∧ ∃ p v, (p = .pointer none ∨ p = .pointer (some ⟨b, 0, none⟩)) ∧ Blk w b #[p, v, .bool odd] 133 ∧ Own w B 5 1 v (Lib.strCells text) ∧ (text.size = 0 → v = .slice none 0 0)
def WK (B b : Nat) (w : World) (x : Nat) : Prop := x < B ∨ (x ≠ b ∧ x < w.heap.size ∧ ∀ cs, w.heap[x]? ≠ some (.cells cs 5 (0, 0)))
abbrev WKept (B b : Nat) (w w' : World) : Prop := Kept (WK B b w) w w'
section
variable {w w' w'' : World} {B b : Nat}
theorem WKept.below (h : WKept B b w w') : Below B w w' := Kept.below h fun _ hx => .inl hx
theorem WKept.next (h : WKept B b w w') (k : WKept B b w' w'') : WKept B b w w'' := Kept.trans h (Kept.mono k fun x hx => by
  rcases hx with hx | ⟨h1, h2, h3⟩
  · exact .inl hx
  · refine .inr ⟨h1, Nat.lt_of_lt_of_le h2 h.size, fun cs => ?_⟩
    rw [h.block x (.inr ⟨h1, h2, h3⟩)]
    exact h3 cs)
theorem WKept.of (h : Below w.heap.size w w') (hB : B ≤ w.heap.size) : WKept B b w w' := Below.kept h fun x hx => by
  rcases hx with hx | ⟨_, h2, _⟩
  · omega
  · exact h2
theorem WKept.box (h : WKept B b w w') {x : Nat} {cs : Array Value} {e : TypeId} (hx : Blk w x cs e) (he : e ≠ 5) (hb : x ≠ b) : Blk w' x cs e := Kept.blk h hx (.inr ⟨hb, hx.lt, fun cs' h' => by
  rw [show w.heap[x]? = _ from hx] at h'
  injection h' with h'
  injection h' with _ h2 _
  exact he h2⟩)
theorem WrB.lt {text : ByteArray} {odd : Bool} (h : WrB w B b text odd) : b < w.heap.size := by
  obtain ⟨_, p, v, _, hb, _⟩ := h
  exact hb.lt
theorem WrB.up {text : ByteArray} {odd : Bool} (h : WrB w B b text odd) (hk : Below w.heap.size w w') : WrB w' B b text odd := by
  obtain ⟨hB, p, v, hp, hb, ho, hn⟩ := h
  exact ⟨hB, p, v, hp, hb.below hk, ho.below hk, hn⟩
theorem WrB.flag {text : ByteArray} {odd : Bool} (h : WrB w B b text odd) (o : Bool) : WrB (w.setCell ⟨b, 2, none⟩ (.bool o)) B b text o := by
  obtain ⟨hB, p, v, hp, hb, ho, hn⟩ := h
  exact ⟨hB, p, v, hp, hb.set 2 _, ho.keepB fun g hg => Below.heap_setCell _ _ _ g (ho.notBlk hb (by decide) g hg), hn⟩
theorem WKept.flag (hB : B ≤ b) (v : Value) : WKept B b w (w.setCell ⟨b, 2, none⟩ v) := (Kept.refl _ _).set (a := ⟨b, 2, none⟩) (fun h => by
  rcases h with h | ⟨h, _⟩
  · exact absurd h (by show ¬ b < B; omega)
  · exact h rfl) _
theorem WrB.odd2 {text : ByteArray} {odd : Bool} (h : WrB w B b text odd) : w.cell? ⟨b, 2, none⟩ = some (.bool odd) ∧ w.frozen? ⟨b, 2, none⟩ = false := by
  obtain ⟨hB, p, v, hp, hb, ho, hn⟩ := h
  exact ⟨hb.cells 2, hb.free 2⟩
end
theorem bytesInfoW : (Try.prog.info? 5).map (fun i => (i.zero, i.size, i.bytes)) = some (some (.int .u8 0), 1, 1) := by kernel_rfl
theorem writerSize : (Try.prog.info? 131).map (·.size) = some 2 := by kernel_rfl
theorem writerInfo : ∃ j, Try.prog.info? 131 = some j ∧ j.size ≠ 0 := by
  obtain ⟨j, hj, hs⟩ := Option.map_eq_some_iff.1 writerSize
  exact ⟨j, hj, by omega⟩
theorem liesW : liesAt Try.prog Try.prog.depth 133 (3 / Try.prog.cellsOf 133) 0 131 1 = true := by kernel_rfl
theorem WrB.shape {w : World} {b : Nat} {cs : Array Value} (h : Blk w b cs 133) (hs : cs.size = 3) : w.shape? b = some (133, 3) := by
  simp [World.shape?, show w.heap[b]? = _ from h, hs]
set_option maxRecDepth 100000 in
set_option maxHeartbeats 2000000 in
theorem copyCheck_used (b : Nat) (w : World) (h0 : w.cell? ⟨b, 0, none⟩ = some (.pointer (some ⟨b, 0, none⟩))) :
    Calls Try.prog 61 #[.pointer (some ⟨b, 0, none⟩)] w fun e w' => e = .returned (.tuple #[]) ∧ w' = w := by
  obtain ⟨j, hj, _⟩ := writerInfo
  go_enter Try.func61, Try.ntmps61
  go_wp2
  rw [Lib.run_neq_ptr_same w _ Try.underlying129 hj]
  go_wp2
  go_end0
  exact ⟨rfl, rfl⟩
set_option maxRecDepth 100000 in
set_option maxHeartbeats 2000000 in
theorem copyCheck_fresh (b : Nat) (w : World) (h0 : w.cell? ⟨b, 0, none⟩ = some (.pointer none)) (hsh : w.shape? b = some (133, 3)) (hfz : w.frozen? ⟨b, 0, none⟩ = false) :
    Calls Try.prog 61 #[.pointer (some ⟨b, 0, none⟩)] w fun e w' => e = .returned (.tuple #[]) ∧ w' = w.setCell ⟨b, 0, none⟩ (.pointer (some ⟨b, 0, none⟩)) := by
  obtain ⟨j, hj, hjs⟩ := writerInfo
  go_enter Try.func61, Try.ntmps61
  go_wp2
  rw [Lib.run_to_unsafe w ⟨b, 0, none⟩ Try.underlying129 Try.underlying165 hj hjs hsh (Nat.zero_lt_succ 2)]
  simp only [Result.andThen]
  rw [Oper.upon_value]
  go_wp2
  rw [run_callFunc_extern Try.func76 (by kernel_rfl) (by kernel_rfl) (by kernel_rfl) (e := Extern.AbiNoEscape.same) (by kernel_rfl)]
  rw [Lib.run_noEscape]
  simp only [Result.andThen]
  rw [Oper.upon_value]
  go_wp2
  rw [Lib.run_from_unsafe w ⟨b, 0, none⟩ Try.underlying165 Try.underlying129 hj hsh liesW]
  simp only [Result.andThen]
  rw [Oper.upon_value]
  go_wp2
  go_end0
  exact ⟨rfl, rfl⟩
theorem copyCheck_any {B b : Nat} {text : ByteArray} {odd : Bool} {w : World} (h : WrB w B b text odd) :
    Calls Try.prog 61 #[.pointer (some ⟨b, 0, none⟩)] w fun e w' => e = .returned (.tuple #[]) ∧ (∃ v, Blk w' b #[.pointer (some ⟨b, 0, none⟩), v, .bool odd] 133 ∧ Own w' B 5 1 v (Lib.strCells text)) ∧ WKept B b w w' := by
  obtain ⟨hB, p, v, hp, hb, ho, hn⟩ := h
  rcases hp with rfl | rfl
  · refine (copyCheck_fresh b w (hb.cells 0) (WrB.shape hb rfl) (hb.free 0)).mono ?_
    rintro e w' ⟨rfl, rfl⟩
    refine ⟨rfl, ⟨v, hb.set 0 _, ho.keepB fun g hg => Below.heap_setCell _ _ _ g (ho.notBlk hb (by decide) g hg)⟩, (Kept.refl _ _).set (a := ⟨b, 0, none⟩) (fun h => ?_) _⟩
    rcases h with h | ⟨h, _⟩
    · exact absurd h (by show ¬ b < B; omega)
    · exact h rfl
  · refine (copyCheck_used b w (hb.cells 0)).mono ?_
    rintro e w' ⟨rfl, rfl⟩
    exact ⟨rfl, ⟨v, hb, ho⟩, Kept.refl _ _⟩
set_option maxRecDepth 100000 in
set_option maxHeartbeats 2000000 in
theorem writeString_any {B b : Nat} {text : ByteArray} {odd : Bool} {w : World} (s : ByteArray) (h : WrB w B b text odd) (hlen : text.size + s.size ≤ 140737488355328) (hpos : 0 < text.size + s.size) (hBw : B ≤ w.heap.size) :
    Calls Try.prog 50 #[.pointer (some ⟨b, 0, none⟩), .string s] w fun e w' => e = .returned (.tuple #[.int .i64 s.size, .nilIface]) ∧ WrB w' B b (text ++ s) odd ∧ WKept B b w w' := by
  have HCC := Lib.hid (copyCheck_any h)
  have hB := h.1
  obtain ⟨i0, hi, hz0, hz1, hz2⟩ := info_parts bytesInfoW
  clear h
  go_enter Try.func50, Try.ntmps50
  go_wp2_with fail
  refine HCC.out.mono ?_
  rintro e w1 ⟨rfl, ⟨v, hb1, ho1⟩, hk1⟩
  have hsz1 := hk1.size
  have c1 := hb1.cells
  have HNB := Lib.hid (ho1.notBlk hb1 (by decide))
  have HBL := Lib.hid hb1
  have HO := Lib.hid ho1
  have HK := Lib.hid hk1
  obtain ⟨n1, ho1'⟩ := ho1
  have hn1 : n1 = text.size := by have := ho1'.1; rw [Lib.strCells_length] at this; omega
  subst hn1
  have hb1' := hb1
  clear HCC hb1 hk1
  go_wp2_with (at_builtin; refine Lib.wpList_append_own_string _ rfl _ _ 22 9 rfl B 5 i0 Try.underlying22 Try.underlying9 hi hz0 hz1 hz2 _ _ _ rfl ho1' s rfl ?c3 ?c4 ?c5 ?_)
  case c3 => unfold maxLen; omega
  case c4 => omega
  case c5 => omega
  intro v' w2 hown' hgrow _
  have hb2 : Blk w2 b #[.pointer (some ⟨b, 0, none⟩), v, .bool odd] 133 := (hgrow.block b hb1'.lt (fun e => HNB.out b e.symm rfl)).trans hb1'
  have d0 := hb2.cells
  have f0 := hb2.free
  have HO2 : Own w2 B 5 1 v' (Lib.strCells text ++ Lib.strCells s) := ⟨_, hown'⟩
  have HN2 := HO2.notBlk hb2 (by decide)
  have HKG : WKept B b w1 w2 := ⟨hgrow.os, hgrow.tape, hgrow.output, hgrow.size, fun x hx => by
    have hO := HO.out
    rcases hx with hx | ⟨h1, h2, h3⟩
    · exact hgrow.block x (by omega) (fun e => by have := (hO.block x e.symm).1; omega)
    · refine hgrow.block x h2 (fun e => ?_)
      obtain ⟨n, ho⟩ := hO
      rcases ho.2 with ⟨rfl, _⟩ | ⟨g', cap, cur, rfl, hbg, hg', r⟩
      · cases e
      · injection e with e
        subst e
        exact h3 _ hg'⟩
  have HO3 := Lib.hid HO2
  have HKG2 := Lib.hid HKG
  have HB2 := Lib.hid hb2
  have HN3 := Lib.hid HN2
  obtain ⟨ao, n', cap, rfl⟩ : ∃ ao n' cap, v' = .slice ao n' cap := by
    rcases hown'.2 with ⟨hv, _⟩ | ⟨g, cap, cur, hv, _⟩
    · exact ⟨_, _, _, hv⟩
    · exact ⟨_, _, _, hv⟩
  clear c1 hb1' ho1' hgrow hown' hb2 HO2 HN2 HKG hi hz0 hz1 hz2
  go_wp2_with fail
  go_ret2
  refine ⟨rfl, ⟨hB, _, _, .inr rfl, HB2.out.set 1 _, ?_, fun h => ?_⟩, ?_⟩
  · have h1 : Lib.strCells (text ++ s) = Lib.strCells text ++ Lib.strCells s := by simp [Lib.strCells]
    rw [h1]
    exact HO3.out.keepB fun g hg => Below.heap_setCell _ _ _ g (HN3.out g hg)
  · rw [ByteArray.size_append] at h
    omega
  · refine WKept.next (WKept.next HK.out HKG2.out) ((Kept.refl _ _).set (a := ⟨b, 1, none⟩) (fun h => ?_) _)
    rcases h with h | ⟨h, _⟩
    · exact absurd h (by show ¬ b < B; omega)
    · exact h rfl
end Go.Proofs.Ytjdigpfipmckhaa
namespace Go.Proofs.Ytjdigpfipmckhaa
open Go Go.RowKit
def headOk (ts : List TyS) (t : TyS) (k : Int) (a b : ByteArray) : Bool := !((k == 2 && !hasT t a) || (k == 3 && (!hasT t a || !anyT ts b)))
mutual
def RT.named (ts : List TyS) (t : TyS) : RT → Bool | .mk k a b ps => headOk ts t k a b && namedL ts t ps
def namedL (ts : List TyS) (t : TyS) : List RT → Bool | [] => true | r :: rs => r.named ts t && namedL ts t rs
end
theorem namedL_eq (ts : List TyS) (t : TyS) : ∀ l : List RT, namedL ts t l = l.all fun r => r.named ts t
  | [] => rfl
  | r :: rs => by rw [namedL, List.all_cons, namedL_eq ts t rs]
end Go.Proofs.Ytjdigpfipmckhaa
namespace Go.Proofs.Ytjdigpfipmckhaa
open Go Go.RowKit
theorem WalkN.skip {P : Program} {ops : Array Oper} {Q : Exit → Act → World → Prop} {S : World → Prop} {f : Nat} {l : Array Bool} {a : Act} {w : World} (i : Nat) (o : Oper) (ho : ops[i]? = some o) (hf : Region.free .any ops l i = true) (hr : (Region.ready .any ops l).contains i = true)
    (hw : Region.wanted o (yielded ops a.tmps) = false) (h : WalkN P ops Q S f (l.setIfInBounds i true) (a.put o.dst undef) w) : WalkN P ops Q S (f + 1) l a w :=
  .inr (.inl ⟨i, o, undef, ho, hf, hr, .inr ⟨hw, rfl⟩, h⟩)
end Go.Proofs.Ytjdigpfipmckhaa
namespace Go.Proofs.Ytjdigpfipmckhaa
open Go Go.RowKit
def innerD (k pk : Int) (d : Nat) : Nat := if k = 5 ∧ pk = 4 then d + 1 else d
mutual
def RT.textOk : RT → Nat → Bool
  | .mk k a b ps, d =>
    if k = 1 then decide (a.size = 0) && decide (b.size = 0) && decide (ps.length = 0)
    else if k = 2 then ownB a && decide (b.size = 0) && decide (ps.length = 0)
    else if k = 3 then ownB a && ownB b && decide (ps.length = 0)
    else if k = 4 ∨ k = 5 then decide (a.size = 0) && decide (b.size = 0) && decide (2 ≤ ps.length) && textL k ps d
    else false
def textL (k : Int) : List RT → Nat → Bool
  | [], _ => true
  | p :: ps, d => (decide (p.k ≠ k) && decide (innerD k p.k d ≤ 8) && p.textOk (innerD k p.k d)) && textL k ps d
end
def goodP (k : Int) (d : Nat) (p : RT) : Bool := decide (p.k ≠ k) && decide (innerD k p.k d ≤ 8) && p.textOk (innerD k p.k d)
theorem textL_eq (k : Int) (d : Nat) : ∀ l : List RT, textL k l d = l.all (goodP k d)
  | [] => by rw [textL]; rfl
  | r :: rs => by rw [textL, List.all_cons, textL_eq k d rs]; rfl
end Go.Proofs.Ytjdigpfipmckhaa
namespace Go.Proofs.Ytjdigpfipmckhaa
open Go Go.RowKit
def relOk (x : ByteArray × RT) : Bool := x.2.textOk 0 && ownB x.1 && decide (x.1 ≠ ⟨#[116, 121, 112, 101]⟩)
def tyOk (t : TyS) : Bool := ownB t.name && t.rels.all relOk
def prN (b : Bool) : Int := if b then 0 else 9
def printOk (ts : List TyS) : Bool := ts.all tyOk
end Go.Proofs.Ytjdigpfipmckhaa
namespace Go.Proofs.Ytjdigpfipmckhaa
open Go Go.RowKit
def tyLong (t : TyS) : Bool := decide (t.rels.length ≤ 16) && t.rels.all fun r => decide (r.2.sz ≤ 32)
def longOk (ts : List TyS) : Bool := decide (ts.length ≤ 16) && ts.all tyLong
def uniqOk (ts : List TyS) : Bool := decide ((ts.map (·.name)).Nodup) && ts.all fun t => decide ((t.rels.map (·.1)).Nodup)
def freshT (ts : List TyS) (j : Nat) : Prop := ∀ m (hm : m < ts.length) (hj : j < ts.length), m < j → ts[m].name ≠ ts[j].name
def namesOk (ts : List TyS) : Bool := ts.all fun t => t.rels.all fun r => r.2.named ts t
theorem uniq_at {ts : List TyS} (h : uniqOk ts = true) {i : Nat} (hi : i < ts.length) : freshT ts i ∧ ((ts[i].rels.map (·.1)).Nodup) := by
  unfold uniqOk at h
  rw [Bool.and_eq_true, decide_eq_true_eq, List.all_eq_true] at h
  refine ⟨fun m hm hj hmj he => ?_, of_decide_eq_true (h.2 _ (List.getElem_mem hi))⟩
  have := (List.pairwise_iff_getElem.1 h.1) m i (by simpa using hm) (by simpa using hi) hmj
  simp only [List.getElem_map] at this
  exact this he
theorem uniq_of {ts : List TyS} (h : ∀ j (hj : j < ts.length), freshT ts j ∧ ((ts[j].rels.map (·.1)).Nodup)) : uniqOk ts = true := by
  unfold uniqOk
  rw [Bool.and_eq_true, decide_eq_true_eq, List.all_eq_true]
  refine ⟨List.pairwise_iff_getElem.2 fun m j hm hj hmj => ?_, fun x hx => ?_⟩
  · simp only [List.getElem_map]
    exact (h j (by simpa using hj)).1 m (by simpa using hm) (by simpa using hj) hmj
  · obtain ⟨j, hj, rfl⟩ := List.getElem_of_mem hx
    exact decide_eq_true (h j hj).2
def freshN (l : List (ByteArray × RT)) (j : Nat) : Prop := ∀ m (hm : m < l.length) (hj : j < l.length), m < j → l[m].1 ≠ l[j].1
theorem fresh_of {l : List (ByteArray × RT)} (h : (l.map (·.1)).Nodup) (j : Nat) : freshN l j := fun m hm hj hmj he => by
  have := (List.pairwise_iff_getElem.1 h) m j (by simpa using hm) (by simpa using hj) hmj
  simp only [List.getElem_map] at this
  exact this he
def chk06 (ts : List TyS) : Int := if printOk ts then (if longOk ts then (if uniqOk ts then (if namesOk ts then 0 else 2) else 3) else 10) else 9
end Go.Proofs.Ytjdigpfipmckhaa
namespace Go.Proofs.Ytjdigpfipmckhaa
open Go Go.RowKit Go.Maps
abbrev RV := RT × Value
def rvV (x : RV) : Value := rV x.1 x.2
abbrev WV := List ByteArray × Value
def wvV (x : WV) : Value := x.2
def txs (l : List ByteArray) : List Value := l.map Value.string
theorem txs_one (l : List ByteArray) : ∀ u ∈ txs l, u.oneCell' = true := by
  intro u hu
  obtain ⟨s, _, rfl⟩ := List.mem_map.1 hu
  rfl
theorem txs_length (l : List ByteArray) : (txs l).length = l.length := by simp [txs]
theorem txs_append (a b : List ByteArray) : txs (a ++ b) = txs a ++ txs b := by simp [txs]
theorem textsT : ElemT Try.prog 58 9 1 16 := ElemT.mk' Try.underlying58 (show _ = some (some (.string ByteArray.empty), 1, 16) by kernel_rfl) rfl (by decide)
def relsOf (n : ByteArray) (l : List (ByteArray × RT)) : List (R2 × RT) := l.map fun r => (⟨n, r.1⟩, r.2)
def refsOf (ts : List TyS) : List (R2 × RT) := ts.flatMap fun t => relsOf t.name t.rels
def whereP (P : List (R2 × RT)) (n : ByteArray) : List ByteArray := (P.filter fun x => decide (x.1.r = n)).map (·.1.t)
def optL (l : List ByteArray) : Option (List ByteArray) := if l = [] then none else some l
theorem whereP_snoc (P : List (R2 × RT)) (x : R2 × RT) (n : ByteArray) : whereP (P ++ [x]) n = if x.1.r = n then whereP P n ++ [x.1.t] else whereP P n := by
  unfold whereP
  rw [List.filter_append, List.map_append]
  by_cases h : x.1.r = n
  · simp [h]
  · simp [h]
theorem refsOf_append (a b : List TyS) : refsOf (a ++ b) = refsOf a ++ refsOf b := List.flatMap_append
theorem refsOf_take {l : List TyS} {i : Nat} (hi : i < l.length) : refsOf (l.take (i + 1)) = refsOf (l.take i) ++ relsOf l[i].name l[i].rels := by
  rw [List.take_succ_eq_append_getElem hi, refsOf_append]
  simp [refsOf]
theorem relsOf_take {n : ByteArray} {l : List (ByteArray × RT)} {i : Nat} (hi : i < l.length) : relsOf n (l.take (i + 1)) = relsOf n (l.take i) ++ [(⟨n, l[i].1⟩, l[i].2)] := by
  rw [List.take_succ_eq_append_getElem hi]
  simp only [relsOf, List.map_append, List.map_cons, List.map_nil]
structure WhRows (w : World) (B : Nat) (lw : List (ByteArray × WV)) : Prop where
  rows : ∀ x ∈ lw, x.2.1 ≠ [] ∧ Own w B 9 1 x.2.2 (txs x.2.1)
  apart : ∀ x ∈ lw, ∀ y ∈ lw, x.1 ≠ y.1 → x.2.2.ownBlock ≠ y.2.2.ownBlock
def BkR (S : Nat → Prop) (w : World) (b1 : Nat) (P : List (R2 × RT)) : Prop :=
  ∃ lr : List (R2 × RV), Mp Try.prog 82 r2V rvV w b1 lr ∧ lr.map (fun x => (x.1, x.2.1)) = P ∧ ∀ x ∈ lr, RTAt S w x.2.1 x.2.2
def BkW (w : World) (B b3 : Nat) (P : List (R2 × RT)) : Prop :=
  ∃ lw : List (ByteArray × WV), Mp Try.prog 9 Value.string wvV w b3 lw ∧ WhRows w B lw ∧ ∀ n, (lookA lw n).map (·.1) = optL (whereP P n)
theorem Own.notMap {w : World} {B : Nat} {e : TypeId} {sz : Nat} {v : Value} {xs : List Value} (h : Own w B e sz v xs) {b : Nat} (hb : ∀ cs t fr, w.heap[b]? ≠ some (.cells cs t fr)) : ∀ g, v.ownBlock = some g → g ≠ b := by
  intro g hg he
  obtain ⟨n, h⟩ := h
  rcases h.2 with ⟨rfl, _⟩ | ⟨g', cap, cur, rfl, hbg, hg', r⟩
  · cases hg
  · injection hg with hg
    subst hg he
    exact hb _ _ _ hg'
theorem Mp.notCells {P : Program} {k : TypeId} {κ α : Type} {kv : κ → Value} {ev : α → Value} {w : World} {b : Nat} {l : List (κ × α)} (h : Mp P k kv ev w b l) : ∀ cs t fr, w.heap[b]? ≠ some (.cells cs t fr) := by
  obtain ⟨es, clock, hb, _⟩ := h
  intro cs t fr h
  rw [hb] at h
  cases h
theorem own_some {w : World} {B : Nat} {e : TypeId} {v : Value} {l : List ByteArray} (h : Own w B e 1 v (txs l)) (hl : l ≠ []) : ∃ g, v.ownBlock = some g := by
  obtain ⟨n, h⟩ := h
  rcases h.2 with ⟨rfl, rfl⟩ | ⟨g', cap, cur, rfl, hbg, hg', r⟩
  · have := h.1
    rw [txs_length] at this
    exact absurd (List.eq_nil_of_length_eq_zero (by omega)) hl
  · exact ⟨g', rfl⟩
theorem WhRows.keep {w w' : World} {B : Nat} {lw : List (ByteArray × WV)} (h : WhRows w B lw) (hs : ∀ x, B ≤ x → x < w.heap.size → (∃ cs, w.heap[x]? = some (.cells cs 9 (0, 0))) → w'.heap[x]? = w.heap[x]?) : WhRows w' B lw :=
  ⟨fun x hx => ⟨(h.rows x hx).1, (h.rows x hx).2.keepB fun g hg => by
    have ho := (h.rows x hx).2
    have hb := ho.block g hg
    refine hs g hb.1 hb.2 ?_
    obtain ⟨n, ho⟩ := ho
    rcases ho.2 with ⟨h0, _⟩ | ⟨g', cap, cur, h0, hbg, hg', r⟩
    · rw [h0] at hg; cases hg
    · rw [h0] at hg
      injection hg with hg
      subst hg
      exact ⟨_, hg'⟩⟩, h.apart⟩
theorem put_mem {κ α : Type} [DecidableEq κ] (a : κ) (y : α) (x : κ × α) : ∀ {l : List (κ × α)}, (l.map (·.1)).Nodup → x ∈ putA l a y → x = (a, y) ∨ (x ∈ l ∧ x.1 ≠ a)
  | [], _, h => by simp [putA] at h; exact .inl h
  | p :: r, hn, h => by
    simp only [List.map_cons, List.nodup_cons] at hn
    unfold putA at h
    split at h
    · rename_i e
      rcases List.mem_cons.1 h with h | h
      · exact .inl h
      · exact .inr ⟨by simp [h], fun e2 => hn.1 (by rw [e, ← e2]; exact List.mem_map.2 ⟨x, h, rfl⟩)⟩
    · rename_i e
      rcases List.mem_cons.1 h with h | h
      · exact .inr ⟨by simp [h], h ▸ e⟩
      · rcases put_mem a y x hn.2 h with h | h
        · exact .inl h
        · exact .inr ⟨by simp [h.1], h.2⟩
theorem WhRows.put {w w1 w2 w3 : World} {B b3 : Nat} {lw : List (ByteArray × WV)} (h : WhRows w B lw) {n : ByteArray} {names : List ByteArray} {v v' : Value} (hl : (lookA lw n = some (names, v)) ∨ (lookA lw n = none ∧ names = [] ∧ v = .slice none 0 0))
    (h1 : Below w.heap.size w w1) (h2 : w1.grownBy w2 v.ownBlock) {tn : ByteArray} (ho : Own w2 B 9 1 v' (txs (names ++ [tn]))) (hw : ∀ g, v'.ownBlock = some g → v.ownBlock = some g ∨ w1.heap.size ≤ g)
    (hm : Mp Try.prog 9 Value.string wvV w b3 lw) (hm2 : Mp Try.prog 9 Value.string wvV w2 b3 lw) (ht : Turned w2 w3 b3) : WhRows w3 B (putA lw n (names ++ [tn], v')) := by
  have hnd := hm.nodup
  have old : ∀ x ∈ lw, x.1 ≠ n → ∀ g, x.2.2.ownBlock = some g → v.ownBlock ≠ some g := fun x hx hne g hg e => by
    rcases hl with hl | ⟨_, _, rfl⟩
    · exact h.apart x hx _ (look_mem hl) hne (hg.trans e.symm)
    · cases e
  have lt : ∀ x ∈ lw, ∀ g, x.2.2.ownBlock = some g → g < w.heap.size := fun x hx g hg => ((h.rows x hx).2.block g hg).2
  refine ⟨fun x hx => ?_, fun x hx y hy hne => ?_⟩
  · rcases put_mem _ _ _ hnd hx with rfl | ⟨hx, hxn⟩
    · exact ⟨by simp, ho.keepB fun g hg => ht.kept.block g (ho.notMap hm2.notCells g hg)⟩
    · have hr := (h.rows x hx).2
      have hr1 := hr.below h1
      refine ⟨(h.rows x hx).1, hr1.keepB fun g hg => ?_⟩
      have hg1 := lt x hx g hg
      have hs1 := h1.size
      refine (ht.kept.block g ?_).trans (h2.block g (by omega) fun e => old x hx hxn g hg e.symm)
      intro e
      subst e
      exact hr.notMap hm.notCells g hg rfl
  · rcases put_mem _ _ _ hnd hx with rfl | ⟨hx, hxn⟩ <;> rcases put_mem _ _ _ hnd hy with rfl | ⟨hy, hyn⟩
    · exact absurd rfl hne
    · intro e
      obtain ⟨g, hg⟩ := own_some ho (by simp)
      have hg2 : y.2.2.ownBlock = some g := e.symm.trans hg
      rcases hw g hg with h3 | h3
      · exact old y hy hyn g hg2 h3
      · have := lt y hy g hg2
        have := h1.size
        omega
    · intro e
      obtain ⟨g, hg⟩ := own_some ho (by simp)
      have hg2 : x.2.2.ownBlock = some g := e.trans hg
      rcases hw g hg with h3 | h3
      · exact old x hx hxn g hg2 h3
      · have := lt x hx g hg2
        have := h1.size
        omega
    · exact h.apart x hx y hy hne
section
variable {S : Nat → Prop} {w w' : World} {B b1 b3 : Nat} {P : List (R2 × RT)}
theorem BkR.lt (h : BkR S w b1 P) : b1 < w.heap.size := by
  obtain ⟨lr, h1, _⟩ := h
  exact h1.lt
theorem BkR.notCells (h : BkR S w b1 P) : ∀ cs t fr, w.heap[b1]? ≠ some (.cells cs t fr) := by
  obtain ⟨lr, h1, _⟩ := h
  exact h1.notCells
theorem BkR.same (h : BkR S w b1 P) (hb : w'.heap[b1]? = w.heap[b1]?) (hs : Same S w w') : BkR S w' b1 P := by
  obtain ⟨lr, h1, h2, h3⟩ := h
  exact ⟨lr, h1.same hb, h2, fun x hx => (h3 x hx).same hs⟩
theorem BkR.up (h : BkR (· < w.heap.size) w b1 P) (hb : Below w.heap.size w w') : BkR (· < w'.heap.size) w' b1 P := by
  obtain ⟨lr, h1, h2, h3⟩ := h
  exact ⟨lr, h1.below hb, h2, fun x hx => (h3 x hx).up hb⟩
theorem BkW.lt (h : BkW w B b3 P) : b3 < w.heap.size := by
  obtain ⟨lw, h1, _⟩ := h
  exact h1.lt
theorem BkW.keep (h : BkW w B b3 P) (hb : w'.heap[b3]? = w.heap[b3]?) (hs : ∀ x, B ≤ x → x < w.heap.size → (∃ cs, w.heap[x]? = some (.cells cs 9 (0, 0))) → w'.heap[x]? = w.heap[x]?) : BkW w' B b3 P := by
  obtain ⟨lw, h1, h2, h3⟩ := h
  exact ⟨lw, h1.same hb, h2.keep hs, h3⟩
theorem BkW.up (h : BkW w B b3 P) (hb : Below w.heap.size w w') : BkW w' B b3 P := h.keep (hb.block _ h.lt) fun x _ hx _ => hb.block x hx
theorem BkW.turned (h : BkW w B b3 P) {b : Nat} (ht : Turned w w' b) (hb : b3 ≠ b) (hc : ∀ cs t fr, w.heap[b]? ≠ some (.cells cs t fr)) : BkW w' B b3 P :=
  h.keep (ht.kept.block _ hb) fun x _ _ hx => ht.kept.block x fun e => by
    obtain ⟨cs, hx⟩ := hx
    exact hc _ _ _ (e ▸ hx)
theorem pairs_look {α β : Type} {f : α → β} {k : R2} : ∀ {l : List (R2 × α)} {P : List (R2 × β)}, l.map (fun x => (x.1, f x.2)) = P → (lookA l k).map f = lookA P k
  | [], P, h => by subst h; rfl
  | x :: l, P, h => by
    subst h
    simp only [List.map_cons, lookA]
    split
    · rfl
    · exact pairs_look rfl
theorem BkR.look (h : BkR S w b1 P) (k : R2) (hk : k.Ok) : ∃ z : RV, (Instr.lookup 107 (.map (some b1)) (r2V k) true).run Try.prog w = .ok (.tuple #[rvV z, .bool (lookA P k).isSome]) w ∧ RTAt S w z.1 z.2 ∧ (∀ r, lookA P k = some r → z.1 = r) ∧ (lookA P k = none → z = (.mk 0 ByteArray.empty ByteArray.empty [], .slice none 0 0)) := by
  obtain ⟨lr, h1, h2, h3⟩ := h
  have hl := pairs_look (f := fun x : RV => x.1) (k := k) h2
  have hrun := h1.look refK r2V_inj Try.underlying107 (Try.zeroValue66 w) true (ref_key k hk)
  cases hlk : lookA lr k with
  | none =>
    rw [hlk] at hl hrun
    refine ⟨(.mk 0 ByteArray.empty ByteArray.empty [], .slice none 0 0), ?_, ?_, ?_, fun _ => rfl⟩
    · rw [hrun, ← hl]; rfl
    · exact (RTAt.iff _ _).2 ⟨[], rfl, by simp, Sl.nil _ _ _⟩
    · intro r hr; rw [← hl] at hr; cases hr
  | some x =>
    rw [hlk] at hl hrun
    refine ⟨x, ?_, h3 _ (look_mem hlk), ?_, ?_⟩
    · rw [hrun, ← hl]; rfl
    · intro r hr; rw [← hl] at hr; injection hr
    · intro hr; rw [← hl] at hr; cases hr
theorem BkR.store (h : BkR S w b1 P) {k : R2} (hk : k.Ok) {r : RT} {pv : Value} (hr : RTAt S w r pv) (hS : ∀ x, S x → x ≠ b1) (hn : lookA P k = none) :
    ∃ w', (Instr.mapUpdate 107 (.map (some b1)) (r2V k) (rV r pv)).run Try.prog w = .ok () w' ∧ BkR S w' b1 (P ++ [(k, r)]) ∧ Turned w w' b1 := by
  obtain ⟨lr, h1, h2, h3⟩ := h
  obtain ⟨w', hrun, hM, hT⟩ := h1.store refK r2V_inj Try.underlying107 (ref_key k hk) ((r, pv) : RV)
  have hl := pairs_look (f := fun x : RV => x.1) (k := k) h2
  rw [hn] at hl
  have hln : lookA lr k = none := by cases hlk : lookA lr k with | none => rfl | some x => rw [hlk] at hl; cases hl
  rw [put_miss (look_none_iff.1 hln)] at hM
  refine ⟨w', hrun, ⟨_, hM, by rw [List.map_append, h2]; rfl, fun x hx => ?_⟩, hT⟩
  have hs : Same S w w' := fun x hx => hT.kept.block x (hS x hx)
  rcases List.mem_append.1 hx with hx | hx
  · exact (h3 x hx).same hs
  · obtain rfl := List.mem_singleton.1 hx
    exact hr.same hs
theorem BkW.look (h : BkW w B b3 P) (n : ByteArray) (hn : n.size ≤ maxLen) : ∃ v, (Instr.lookup 109 (.map (some b3)) (.string n) false).run Try.prog w = .ok v w ∧ Own w B 9 1 v (txs (whereP P n)) ∧ ∃ lw, Mp Try.prog 9 Value.string wvV w b3 lw ∧ WhRows w B lw ∧ (∀ n, (lookA lw n).map (·.1) = optL (whereP P n)) ∧ (lookA lw n = some (whereP P n, v) ∨ (lookA lw n = none ∧ whereP P n = [] ∧ v = .slice none 0 0)) := by
  obtain ⟨lw, h1, h2, h3⟩ := h
  have hl := h3 n
  have hrun := h1.look strK strV_inj Try.underlying109 (Try.zeroValue58 w) false (str_key n hn)
  cases hlk : lookA lw n with
  | none =>
    rw [hlk] at hl hrun
    have hw : whereP P n = [] := by
      unfold optL at hl
      split at hl
      · assumption
      · cases hl
    exact ⟨.slice none 0 0, hrun, by rw [hw]; exact Own.nil _ _ _ _, lw, h1, h2, h3, .inr ⟨hlk, hw, rfl⟩⟩
  | some x =>
    rw [hlk] at hl hrun
    have hw : x.1 = whereP P n := by
      unfold optL at hl
      split at hl
      · cases hl
      · injection hl
    have hm := h2.rows _ (look_mem hlk)
    refine ⟨x.2, hrun, by rw [← hw]; exact hm.2, lw, h1, h2, h3, .inl ?_⟩
    rw [hlk, ← hw]
theorem BkW.put {w1 w2 : World} {lw : List (ByteArray × WV)} {k : R2} {r : RT} {v v' : Value} (hM : Mp Try.prog 9 Value.string wvV w b3 lw) (hR : WhRows w B lw) (hL : ∀ n, (lookA lw n).map (·.1) = optL (whereP P n))
    (hl : lookA lw k.r = some (whereP P k.r, v) ∨ (lookA lw k.r = none ∧ whereP P k.r = [] ∧ v = .slice none 0 0)) (h1 : Below w.heap.size w w1) (h2 : w1.grownBy w2 v.ownBlock) (ho0 : Own w B 9 1 v (txs (whereP P k.r))) (ho : Own w2 B 9 1 v' (txs (whereP P k.r ++ [k.t])))
    (hw : ∀ g, v'.ownBlock = some g → v.ownBlock = some g ∨ w1.heap.size ≤ g) (hk : k.r.size ≤ maxLen) :
    ∃ w', (Instr.mapUpdate 109 (.map (some b3)) (.string k.r) v').run Try.prog w2 = .ok () w' ∧ BkW w' B b3 (P ++ [(k, r)]) ∧ Turned w2 w' b3 := by
  have hm1 := hM.below h1
  have hm2 : Mp Try.prog 9 Value.string wvV w2 b3 lw := hm1.same (h2.block b3 hm1.lt (fun e => ((ho0.below h1).notMap hm1.notCells) b3 e.symm rfl))
  obtain ⟨w', hrun, hM', hT⟩ := hm2.store strK strV_inj Try.underlying109 (str_key k.r hk) ((whereP P k.r ++ [k.t], v') : WV)
  refine ⟨w', hrun, ⟨_, hM', hR.put (names := whereP P k.r) (v := v) ?_ h1 h2 ho hw hM hm2 hT, fun n => ?_⟩, hT⟩
  · rcases hl with hl | ⟨h3, h4, h5⟩
    · exact .inl hl
    · exact .inr ⟨h3, h4, h5⟩
  · rw [look_put, whereP_snoc]
    by_cases e : k.r = n
    · rw [if_pos e, if_pos e]
      subst e
      unfold optL
      rw [if_neg (by simp)]
      rfl
    · rw [if_neg e, if_neg e]
      exact hL n
end
end Go.Proofs.Ytjdigpfipmckhaa
