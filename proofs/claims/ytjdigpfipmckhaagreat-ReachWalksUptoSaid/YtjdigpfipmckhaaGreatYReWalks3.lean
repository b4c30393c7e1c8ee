/- Lemmas for the claim, no condition. -/
import Derived.Lib.Hide
import Derived.DeepKeys4
import Derived.RangeFuncGives
import Derived.RangeFuncNested
import Derived.RangeFuncLeaves
import Derived.WalkKit
import Derived.OwnWalkIn
import Derived.TacticsInMore
import Derived.RegionIn
import Derived.LoopNIn
import Derived.LoopIn
import Derived.Lib.Builder
import Derived.Lib.UnsafeStr
import Derived.Test.YtjdigpfipmckhaaGreatYReWalks1
import Derived.Test.YtjdigpfipmckhaaGreatYReWalks0
namespace Go.Proofs.YtjdigpfipmckhaaGreat
open Go Go.RowKit
structure R2 where
  t : ByteArray
  r : ByteArray
deriving DecidableEq
instance : Inhabited R2 := ⟨⟨ByteArray.empty, ByteArray.empty⟩⟩
def r2V (p : R2) : Value := .agg #[.string p.t, .string p.r]
def r2C (p : R2) : List Value := [.string p.t, .string p.r]
theorem r2C_length (p : R2) : (r2C p).length = 2 := rfl
theorem ba_toList (a b : ByteArray) : a.toList = b.toList ↔ a = b := by
  rw [ByteArray.toList_eq, ByteArray.toList_eq]
  exact ⟨fun h => ByteArray.ext (by rw [← Array.toList_inj]; exact h), fun h => by rw [h]⟩
theorem r2_eql (a b : R2) (W : World) : (binOp BinOp.eql 102 (r2V a) (r2V b)).run Tryz.prog W = .ok (.bool (decide (a = b))) W := by
  obtain ⟨a1, a2⟩ := a
  obtain ⟨b1, b2⟩ := b
  unfold r2V
  dsimp only
  go_simp
  simp only [ba_toList]
  by_cases h1 : a1 = b1 <;> by_cases h2 : a2 = b2 <;> simp [h1, h2]
theorem r2_neq (a b : R2) (W : World) : (binOp BinOp.neq 102 (r2V a) (r2V b)).run Tryz.prog W = .ok (.bool (decide (a ≠ b))) W := by
  obtain ⟨a1, a2⟩ := a
  obtain ⟨b1, b2⟩ := b
  unfold r2V
  dsimp only
  go_simp
  simp only [ba_toList]
  by_cases h1 : a1 = b1 <;> by_cases h2 : a2 = b2 <;> simp [h1, h2]
end Go.Proofs.YtjdigpfipmckhaaGreat
namespace Go.Proofs.YtjdigpfipmckhaaGreat
open Go Go.RowKit Go.Maps
theorem laidOut : laidOutB Tryz.prog = true := by kernel_rfl
theorem str_lits (d : Nat) (s : ByteArray) (h : s.size ≤ maxLen) : Tryz.prog.keyLits (d + 1) 9 [.string s] = some [.string s.data.toList] := by
  unfold Program.keyLits
  rw [Tryz.underlying9]
  simp only [h, if_true]
theorem obj_lits (d : Nat) (s u : ByteArray) (h : s.size ≤ maxLen) (k : u.size ≤ maxLen) : Tryz.prog.keyLits (d + 1 + 1) 28 [.string s, .string u] = some [.string s.data.toList, .string u.data.toList] := by
  unfold Program.keyLits
  rw [Tryz.underlying28]
  have e1 := str_lits d s h
  have e2 := str_lits d u k
  have e3 : Tryz.prog.cellsOf 28 = 2 := by kernel_rfl
  have e4 : Tryz.prog.cellsOf 9 = 1 := by kernel_rfl
  simp [e1, e2, e3, e4]
theorem types_many : ∃ d, Tryz.prog.types.size = d + 1 + 1 + 1 := ⟨Tryz.prog.types.size - 3, by have : 3 ≤ Tryz.prog.types.size := of_decide_eq_true (by kernel_rfl); omega⟩
end Go.Proofs.YtjdigpfipmckhaaGreat
namespace Go.Proofs.YtjdigpfipmckhaaGreat
open Go Go.RowKit Go.Maps
theorem refK : Keyed Tryz.prog 102 := Keyed.of_law (deep_law_laid laidOut (m := 3) (by decide) (of_decide_eq_true (by kernel_rfl)) (by kernel_rfl) (by kernel_rfl))
theorem r2V_inj (a b : R2) (h : r2V a = r2V b) : a = b := by
  obtain ⟨a1, a2⟩ := a
  obtain ⟨b1, b2⟩ := b
  simpa [r2V] using h
def R2.Ok (p : R2) : Prop := p.t.size ≤ maxLen ∧ p.r.size ≤ maxLen
theorem ref_lits (d : Nat) (p : R2) (h : p.Ok) : Tryz.prog.keyLits (d + 1 + 1) 102 [.string p.t, .string p.r] = some [.string p.t.data.toList, .string p.r.data.toList] := by
  unfold Program.keyLits
  rw [Tryz.underlying102]
  have e1 := str_lits d p.t h.1
  have e2 := str_lits d p.r h.2
  have e3 : Tryz.prog.cellsOf 102 = 2 := by kernel_rfl
  have e4 : Tryz.prog.cellsOf 9 = 1 := by kernel_rfl
  simp [e1, e2, e3, e4]
theorem ref_key (p : R2) (h : p.Ok) : ∃ q, keyOf Tryz.prog 102 (r2V p) = some q := by
  obtain ⟨d, hd⟩ := types_many
  have e := ref_lits (d + 1 + 1) p h
  have e2 : (Tryz.prog.keyType 102 && (r2V p).formed Tryz.prog 102) = true := by kernel_rfl
  have hs : Tryz.prog.types.size + 1 = d + 1 + 1 + 1 + 1 := by omega
  unfold keyOf
  rw [Tryz.underlying102]
  dsimp only
  rw [if_pos e2, hs]
  rw [show (r2V p).cells.toList = [.string p.t, .string p.r] from rfl, e]
  exact ⟨_, rfl⟩
theorem strK : Keyed Tryz.prog 9 := string_keyed Tryz.underlying9
theorem strV_inj (a b : ByteArray) (h : Value.string a = Value.string b) : a = b := by injection h
theorem str_key (s : ByteArray) (h : s.size ≤ maxLen) : ∃ q, keyOf Tryz.prog 9 (.string s) = some q := by
  unfold keyOf
  rw [Tryz.underlying9]
  dsimp only
  unfold mapKey
  rw [Tryz.underlying9]
  simp [h]
end Go.Proofs.YtjdigpfipmckhaaGreat
namespace Go.Proofs.YtjdigpfipmckhaaGreat
open Go Go.RowKit Go.Maps
abbrev bV : Bool → Value := fun x => .bool x
section
variable {κ α : Type} [DecidableEq κ]
theorem look_put (a : κ) (x : α) (b : κ) : ∀ l : List (κ × α), lookA (putA l a x) b = if a = b then some x else lookA l b
  | [] => by simp [putA, lookA]
  | p :: r => by
    unfold putA
    by_cases h : p.1 = a
    · rw [if_pos h]
      subst h
      by_cases hb : p.1 = b
      · simp [lookA, hb]
      · simp [lookA, hb]
    · rw [if_neg h]
      by_cases hb : p.1 = b
      · subst hb
        simp [lookA, Ne.symm h]
      · simp [lookA, hb, look_put a x b r]
theorem put_keys_mem (a : κ) (x : α) (b : κ × α) : ∀ {l : List (κ × α)}, b ∈ putA l a x → b = (a, x) ∨ b ∈ l
  | [], h => by simpa [putA] using h
  | p :: r, h => by
    unfold putA at h
    split at h
    · rcases List.mem_cons.1 h with h | h
      · exact .inl h
      · exact .inr (by simp [h])
    · rcases List.mem_cons.1 h with h | h
      · exact .inr (by simp [h])
      · rcases put_keys_mem a x b h with h | h
        · exact .inl h
        · exact .inr (by simp [h])
end
abbrev Tk (b : Nat) (w w' : World) : Prop := Kept (fun x => x < w.heap.size ∧ x ≠ b) w w'
section
variable {b : Nat} {w w' w'' : World}
theorem Tk.refl (b : Nat) (w : World) : Tk b w w := Kept.refl _ _
theorem Tk.next (h : Tk b w w') (k : Tk b w' w'') : Tk b w w'' := Kept.trans h (Kept.mono k fun x hx => ⟨Nat.lt_of_lt_of_le hx.1 h.size, hx.2⟩)
theorem Tk.of (h : Below w.heap.size w w') : Tk b w w' := Below.kept h fun x hx => hx.1
theorem Tk.turned (h : Turned w w' b) : Tk b w w' := h.kept.mono fun x hx => hx.2
theorem Tk.box (h : Tk b w w') {x : Nat} {cs : Array Value} {t : TypeId} (hx : Blk w x cs t) (hb : x ≠ b) : Blk w' x cs t := Kept.blk h hx ⟨hx.lt, hb⟩
theorem Tk.below (h : Tk b w w') {B : Nat} (h1 : B ≤ w.heap.size) (h2 : B ≤ b) : Below B w w' := Kept.below h fun x hx => ⟨by omega, by omega⟩
end
end Go.Proofs.YtjdigpfipmckhaaGreat
namespace Go.Proofs.YtjdigpfipmckhaaGreat
open Go Go.RowKit
theorem append_where {P : Program} {w : World} (base : Nat) (t ty e : TypeId) (i : TypeInfo) (z : Value) (ht : P.underlying t = some (.slice e)) (hi : P.info? e = some i) (hz : i.zero = some z)
    (v : Value) (n : Nat) (xs : List Value) (hown : w.ownsRow base e i.size v n xs)
    (a : Addr) (m c : Nat) (news : List Value) (hl : news.length = m * i.size) (hnews : ∀ j u, news[j]? = some u → w.cell? (a.add j) = some u) (h1 : ∀ u ∈ news, u.oneCell' = true)
    (h63 : n + m ≤ maxLen) (hbytes : (n + m) * i.bytes ≤ 140737488355328) {v' : Value} {w' : World} (hrun : (Builtin.append_ #[t, t] ty #[v, .slice (some a) m c]).run P w = .ok v' w') :
    ∀ g, v'.ownBlock = some g → v.ownBlock = some g ∨ w.heap.size ≤ g := by
  have hsmall : n + m ≤ 9223372036854775807 := by simp only [maxLen] at h63; omega
  rcases hown.2 with ⟨rfl, rfl⟩ | ⟨g, cap, cur, rfl, hbg, hg, hnc, hcm, hcs, htake⟩
  · have hx : xs = [] := List.eq_nil_of_length_eq_zero (by simpa using hown.1)
    subst hx
    by_cases hm : m = 0
    · subst hm
      have hn : news = [] := List.eq_nil_of_length_eq_zero (by simpa using hl)
      subst hn
      have : (Builtin.append_ #[t, t] ty #[.slice none 0 0, .slice (some a) 0 c]).run P w = .ok (.slice none 0 0) w := by
        simp [Builtin.append_, run_underlying ht, sizeOf, typeInfo, hi, Builtin.lenOf, Builtin.firstCells, loadCells, loadCellsFrom]
      rw [hrun] at this
      injection this with h1 h2
      subst h1
      intro g hg
      cases hg
    · have hr := run_append_nil (P := P) w t ty e i z ht hi hz a m c news hl hnews (by omega) (by omega) (by have hb := hbytes; simp only [Nat.zero_add] at hb; omega)
      rw [hrun] at hr
      injection hr with h1 h2
      subst h1
      intro g hg
      simp only [Value.ownBlock, Option.some.injEq] at hg
      exact .inr (Nat.le_of_eq hg)
  · by_cases hroom : n + m ≤ cap
    · have hfit : n * i.size + news.length ≤ cur.size := by rw [hl, hcs, ← Nat.add_mul]; exact Nat.mul_le_mul_right _ hroom
      have hr := run_append_room (P := P) w t ty e i ht hi g n cap cur hg a m c news hl hnews h1 hroom hfit
      rw [hrun] at hr
      injection hr with h1 h2
      subst h1
      intro g' hg'
      exact .inl hg'
    · have holds : ∀ j u, xs[j]? = some u → w.cell? ((⟨g, 0, none⟩ : Addr).add j) = some u := hown.cells (g := g) rfl
      have hr := run_append_grow (P := P) w t ty e i z ht hi hz ⟨g, 0, none⟩ n cap xs hown.1 holds a m c news hl hnews (by omega) (by omega) (growslice_fits (by omega) hbytes)
      rw [hrun] at hr
      injection hr with h1 h2
      subst h1
      intro g hg
      simp only [Value.ownBlock, Option.some.injEq] at hg
      exact .inr (Nat.le_of_eq hg)
theorem wp_ownw {P : Program} {w : World} {o : Oper} {a : Act} {K : Act → World → Prop} {Q : Exit → Act → World → Prop} {t e : TypeId} {size bytes : Nat} (E : ElemT P t e size bytes)
    (s x : Operand) (hop : o.op = Op.call { callee := Callee.builtin Builtin.append, args := #[s, x], argTypes := #[t, t] })
    {B : Nat} {v : Value} {xs : List Value} (hs : a.eval s = v) (hown : Own w B e size v xs) {ad : Addr} {m c : Nat} {news : List Value} (hx : a.eval x = .slice (some ad) m c) (hn : news.length = m * size)
    (hc : ∀ j u, news[j]? = some u → w.cell? (ad.add j) = some u) (h1 : ∀ u ∈ news, u.oneCell' = true)
    (hlen : xs.length + news.length ≤ 9223372036854775807) (hbytes : (xs.length + news.length) * bytes ≤ 140737488355328) (hB : B ≤ w.heap.size)
    (h : ∀ v' w', Own w' B e size v' (xs ++ news) → (∀ g, v'.ownBlock = some g → v.ownBlock = some g ∨ w.heap.size ≤ g) → w.grownBy w' v.ownBlock → K (a.put o.dst v') w') : o.wp P a w K Q := by
  obtain ⟨hund, ⟨i, z, hi, hz, h4, h5, h6⟩, hpos⟩ := E
  obtain ⟨k, hown⟩ := hown
  have e1 : ∀ k l : Nat, k ≤ l * size → l * size ≤ k → l ≤ k := fun k l _ hb => Nat.le_trans (Nat.le_mul_of_pos_right l hpos) hb
  have hnl : k ≤ xs.length := e1 _ _ (Nat.le_of_eq hown.1) (Nat.le_of_eq hown.1.symm)
  have hml : m ≤ news.length := e1 _ _ (Nat.le_of_eq hn) (Nat.le_of_eq hn.symm)
  have hb47 : (k + m) * bytes ≤ 140737488355328 := Nat.le_trans (Nat.mul_le_mul_right _ (by omega)) hbytes
  subst h4
  subst h5
  obtain ⟨v', w', hrun, r1, r2, _⟩ := run_append_own (P := P) w B t o.type e i z i.size i.bytes hund hi hz rfl rfl h6 hpos v k xs hown ad m c news hn hc h1 (by unfold maxLen; omega) hb47 hB
  have r3 := append_where B t o.type e i z hund hi hz v k xs hown ad m c news hn hc h1 (by unfold maxLen; omega) hb47 hrun
  unfold Oper.wp
  simp [execOp, hop, resolve, invoke, builtin, hs, hx, hrun, Result.andThen]
  exact h v' w' ⟨_, r1⟩ r3 r2
theorem wpList_ownw {P : Program} {w : World} {ops : Array Oper} {rest : List Oper} {o : Oper} {a : Act} {Q : Exit → Act → World → Prop} {t e : TypeId} {size bytes : Nat} (E : ElemT P t e size bytes)
    (hg : o.guard = none) (s x : Operand) (hop : o.op = Op.call { callee := Callee.builtin Builtin.append, args := #[s, x], argTypes := #[t, t] })
    {B : Nat} {v : Value} {xs : List Value} (hs : a.eval s = v) (hown : Own w B e size v xs) {ad : Addr} {m c : Nat} {news : List Value} (hx : a.eval x = .slice (some ad) m c) (hn : news.length = m * size)
    (hc : ∀ j u, news[j]? = some u → w.cell? (ad.add j) = some u) (h1 : ∀ u ∈ news, u.oneCell' = true)
    (hlen : xs.length + news.length ≤ 9223372036854775807) (hbytes : (xs.length + news.length) * bytes ≤ 140737488355328) (hB : B ≤ w.heap.size)
    (K : ∀ v' w', Own w' B e size v' (xs ++ news) → (∀ g, v'.ownBlock = some g → v.ownBlock = some g ∨ w.heap.size ≤ g) → w.grownBy w' v.ownBlock → wpList P ops Q rest (a.put o.dst v') w') : wpList P ops Q (o :: rest) a w :=
  wpList_plain hg fun K' hK' => wp_ownw E s x hop hs hown hx hn hc h1 hlen hbytes hB fun v' w' h2 h3 h4 => hK' _ _ (K v' w' h2 h3 h4)
theorem Own.apart {w : World} {B B' sz sz' : Nat} {e e' : TypeId} {v v' : Value} {xs xs' : List Value} (h : Own w B e sz v xs) (k : Own w B' e' sz' v' xs') (hne : e ≠ e') {g : Nat} (hg : v.ownBlock = some g) : v'.ownBlock ≠ some g := fun hv => by
  obtain ⟨c1, h1⟩ := h.typed hg
  obtain ⟨c2, h2⟩ := k.typed hv
  rw [h1] at h2
  exact hne (by injection Option.some.inj h2)
end Go.Proofs.YtjdigpfipmckhaaGreat
namespace Go.Proofs.YtjdigpfipmckhaaGreat
open Go Go.RowKit
attribute [local go_sem] Oper.semAt_some
theorem wpListIn_own {F : Fence} {n : Nat} {P : Program} {w : World} {ops : Array Oper} {rest : List Oper} {o : Oper} {a : Act} {Q : Exit → Act → World → Prop} {t e : TypeId} {size bytes : Nat} (E : ElemT P t e size bytes)
    (hg : o.guard = none) (s x : Operand) (hop : o.op = Op.call { callee := Callee.builtin Builtin.append, args := #[s, x], argTypes := #[t, t] })
    {B : Nat} {v : Value} {xs : List Value} (hs : a.eval s = v) (hown : Own w B e size v xs) {ad : Addr} {m c : Nat} {news : List Value} (hx : a.eval x = .slice (some ad) m c) (hn : news.length = m * size)
    (hc : ∀ j u, news[j]? = some u → w.cell? (ad.add j) = some u) (h1 : ∀ u ∈ news, u.oneCell' = true)
    (hlen : xs.length + news.length ≤ 9223372036854775807) (hbytes : (xs.length + news.length) * bytes ≤ 140737488355328) (hB : B ≤ w.heap.size)
    (K : ∀ v' w', Own w' B e size v' (xs ++ news) → (∀ g, v'.ownBlock = some g → v.ownBlock = some g ∨ w.heap.size ≤ g) → w.grownBy w' v.ownBlock → wpListIn F n P ops Q rest (a.put o.dst v') w') : wpListIn F n P ops Q (o :: rest) a w := by
  obtain ⟨hund, ⟨i, z, hi, hz, h4, h5, h6⟩, hpos⟩ := E
  obtain ⟨k, hown⟩ := hown
  have e1 : ∀ k l : Nat, k ≤ l * size → l * size ≤ k → l ≤ k := fun k l _ hb => Nat.le_trans (Nat.le_mul_of_pos_right l hpos) hb
  have hnl : k ≤ xs.length := e1 _ _ (Nat.le_of_eq hown.1) (Nat.le_of_eq hown.1.symm)
  have hml : m ≤ news.length := e1 _ _ (Nat.le_of_eq hn) (Nat.le_of_eq hn.symm)
  have hb47 : (k + m) * bytes ≤ 140737488355328 := Nat.le_trans (Nat.mul_le_mul_right _ (by omega)) hbytes
  subst h4
  subst h5
  refine wpListIn_plain hg fun K' hK' => ?_
  obtain ⟨v', w', hrun, r1, r2, _⟩ := run_append_own (P := P) w B t o.type e i z i.size i.bytes hund hi hz rfl rfl h6 hpos v k xs hown ad m c news hn hc h1 (by unfold maxLen; omega) hb47 hB
  have r3 := append_where B t o.type e i z hund hi hz v k xs hown ad m c news hn hc h1 (by unfold maxLen; omega) hb47 hrun
  unfold Oper.wpIn
  refine ⟨?_, ?_⟩
  · simp [Oper.about, hop, resolve, Target.leads, Sem.run_pure]
  · rw [Oper.semAt_plain F _ _ (by rw [hop]; intro c hc'; cases hc')]
    simp [execOp, hop, resolve, invoke, builtin, hs, hx, hrun, Result.andThen]
    exact hK' _ _ (K v' w' ⟨_, r1⟩ r3 r2)
theorem own_ownFrom {β : Type} (B0 Bs : Nat) (t e : TypeId) (sz : Nat) (f : β → List Value) (G : Value → Prop) (B : Nat) : OwnFrom B (fun s W => ∃ v, Boxed W Bs t v ∧ Own W B0 e sz v (f s) ∧ G v) := by
  rintro s X Y row ⟨v, hv, ⟨n, hr⟩, hG⟩ hg hrow
  obtain ⟨v2, h1, h2, rfl⟩ := (holdsRow_own B0 Bs t e sz (fun _ : Unit => n) (fun _ => f s) (fun _ u => u = v)) () X Y row ⟨v, hv, hr, rfl⟩ hg (fun r e => (hrow r e).2)
  exact ⟨v2, h1, ⟨n, h2⟩, hG⟩
theorem ownFrom_kept {β : Type} {K : Nat → Prop} {B : Nat} {w0 : World} (hK : ∀ b, K b → b < w0.heap.size) (hB : w0.heap.size ≤ B) : OwnFrom B (fun (_ : β) W => Kept K w0 W) := fun _ X _ row h hg hr =>
  h.trans ⟨hg.os, hg.tape, hg.output, hg.size, fun b hb => hg.block b (Nat.lt_of_lt_of_le (hK b hb) h.size) (fun e => by have h1 := (hr b e.symm).1; have h2 := hK b hb; omega)⟩
theorem boxed3_kept {W W' : World} {row : Option Nat} {B : Nat} {cs : Array Value} {t : TypeId} (h : Blk W B cs t) (hg : W.grownBy W' row) (hr : ∀ r, row = some r → ∃ o : Obj, W.heap[r]? = some o ∧ o.isCells = false) : Blk W' B cs t :=
  (hg.block B h.lt (fun e => by
    obtain ⟨o, ho, hc⟩ := hr B e.symm
    rw [show W.heap[B]? = _ from h] at ho
    cases ho
    cases hc)).trans h
theorem Own.put {W : World} {B0 : Nat} {e : TypeId} {sz : Nat} {v : Value} {xs : List Value} (h : Own W B0 e sz v xs) {l : Nat} {o : Obj} (o' : Obj) (hl : W.heap[l]? = some o) (ho : o.isCells = false) : Own (W.putObj l o') B0 e sz v xs := by
  obtain ⟨n, h⟩ := h
  exact ⟨n, ownsRow_putObj h o' hl ho⟩
theorem boxed_notOwn {W : World} {B : Nat} {t e : TypeId} {u : Value} (h : Boxed W B t u) (hte : t ≠ e) {B0 sz : Nat} {v : Value} {xs : List Value} (hr : Own W B0 e sz v xs) : some B ≠ v.ownBlock := by
  obtain ⟨n, hr⟩ := hr
  exact h.not_row hte hr
theorem Own.not_cells {W : World} {B0 : Nat} {e : TypeId} {sz : Nat} {v : Value} {xs : List Value} (h : Own W B0 e sz v xs) {k : Nat} {o : Obj} (hk : W.heap[k]? = some o) (ho : o.isCells = false) : some k ≠ v.ownBlock := fun e' => by
  obtain ⟨cur, hc⟩ := h.typed e'.symm
  rw [hk] at hc
  cases hc
  cases ho
theorem keeps_own {W W' : World} {B0 : Nat} {e : TypeId} {sz : Nat} {v : Value} {xs : List Value} (h : Own W B0 e sz v xs) (hg : W.grownBy W' v.ownBlock) (B : Nat) : KeepsFrom B W W' :=
  ⟨hg.size, fun k _ _ hk ho => (hg.block k (Array.getElem?_eq_some_iff.1 hk).1 (h.not_cells hk ho)).trans hk⟩
theorem keeps_up {W W' : World} (h : KeepsFrom 0 W W') (B : Nat) : KeepsFrom B W W' := ⟨h.size, fun k o _ hk ho => h.same k o (Nat.zero_le _) hk ho⟩
end Go.Proofs.YtjdigpfipmckhaaGreat
namespace Go.Proofs.YtjdigpfipmckhaaGreat
open Go Go.RowKit Go.Maps
def QK (e : TypeId) (M : Nat → Prop) (B : Nat) (w : World) (x : Nat) : Prop := x < B ∨ (¬ M x ∧ x < w.heap.size ∧ ∀ cs, w.heap[x]? ≠ some (.cells cs e (0, 0)))
abbrev QKept (e : TypeId) (M : Nat → Prop) (B : Nat) (w w' : World) : Prop := Kept (QK e M B w) w w'
section
variable {e : TypeId} {M : Nat → Prop} {w w' w'' : World} {B : Nat}
theorem QKept.below (h : QKept e M B w w') : Below B w w' := Kept.below h fun _ hx => .inl hx
theorem QKept.next (h : QKept e M B w w') (k : QKept e M B w' w'') : QKept e M B w w'' := Kept.trans h (Kept.mono k fun x hx => by
  rcases hx with hx | ⟨h1, h2, h3⟩
  · exact .inl hx
  · refine .inr ⟨h1, Nat.lt_of_lt_of_le h2 h.size, fun cs => ?_⟩
    rw [h.block x (.inr ⟨h1, h2, h3⟩)]
    exact h3 cs)
theorem QKept.of (h : Below w.heap.size w w') (hB : B ≤ w.heap.size) : QKept e M B w w' := Below.kept h fun x hx => by
  rcases hx with hx | ⟨_, h2, _⟩
  · omega
  · exact h2
theorem QKept.box (h : QKept e M B w w') {x : Nat} {cs : Array Value} {t : TypeId} (hx : Blk w x cs t) (he : t ≠ e) (hb : ¬ M x) : Blk w' x cs t := Kept.blk h hx (.inr ⟨hb, hx.lt, fun cs' h' => by
  rw [show w.heap[x]? = _ from hx] at h'
  injection h' with h'
  injection h' with _ h2 _
  exact he h2⟩)
theorem QKept.turned {b : Nat} (h : Turned w w' b) (hb : M b) (hB : B ≤ b) : QKept e M B w w' := h.kept.mono fun x hx => by
  rcases hx with hx | ⟨h1, _⟩
  · show x ≠ b; omega
  · show x ≠ b; exact fun e => h1 (e ▸ hb)
theorem QKept.grown {v : Value} {sz : Nat} {xs : List Value} (ho : Own w B e sz v xs) (hg : w.grownBy w' v.ownBlock) (hB : B ≤ w.heap.size) : QKept e M B w w' := ⟨hg.os, hg.tape, hg.output, hg.size, fun x hx => by
  rcases hx with hx | ⟨_, h2, h3⟩
  · exact hg.block x (by omega) (fun e => by have := (ho.block x e.symm).1; omega)
  · refine hg.block x h2 (fun e => ?_)
    obtain ⟨n, ho⟩ := ho
    rcases ho.2 with ⟨rfl, _⟩ | ⟨g', cap, cur, rfl, hbg, hg', r⟩
    · cases e
    · injection e with e
      subst e
      exact h3 _ hg'⟩
end
theorem wpList_own2 {P : Program} {w : World} {ops : Array Oper} {rest : List Oper} {o : Oper} {a : Act} {Q : Exit → Act → World → Prop} {t e : TypeId} {size bytes : Nat} (E : ElemT P t e size bytes)
    (hg : o.guard = none) (s x : Operand) (hop : o.op = Op.call { callee := Callee.builtin Builtin.append, args := #[s, x], argTypes := #[t, t] })
    {B : Nat} {v : Value} {xs : List Value} (hs : a.eval s = v) (hown : Own w B e size v xs) {T : Nat → Prop} {y : Value} {news : List Value} (hx : a.eval x = y) (hy : Sl T w size y news) (h1 : ∀ u ∈ news, u.oneCell' = true)
    (hlen : xs.length + news.length ≤ 9223372036854775807) (hbytes : (xs.length + news.length) * bytes ≤ 140737488355328) (hB : B ≤ w.heap.size)
    (K : ∀ v' w', Own w' B e size v' (xs ++ news) → Below B w w' → w.grownBy w' v.ownBlock → wpList P ops Q rest (a.put o.dst v') w') : wpList P ops Q (o :: rest) a w :=
  wpList_plain hg fun K' hK' => wp_own E s x hop hs hown hx hy h1 hlen hbytes hB fun v' w' h2 h3 h4 => hK' _ _ (K v' w' h2 h3 h4)
end Go.Proofs.YtjdigpfipmckhaaGreat
namespace Go.Proofs.YtjdigpfipmckhaaGreat
open Go Go.RowKit
theorem Own.keepB {w w' : World} {B : Nat} {e : TypeId} {sz : Nat} {v : Value} {xs : List Value} (h : Own w B e sz v xs) (hs : ∀ g, v.ownBlock = some g → w'.heap[g]? = w.heap[g]?) : Own w' B e sz v xs := by
  obtain ⟨n, h⟩ := h
  refine ⟨n, h.1, ?_⟩
  rcases h.2 with hn | ⟨g, cap, cur, rfl, hbg, hg, r⟩
  · exact .inl hn
  · exact .inr ⟨g, cap, cur, rfl, hbg, (hs g rfl).trans hg, r⟩
theorem Own.notBlk {w : World} {B : Nat} {e t : TypeId} {sz : Nat} {v : Value} {xs : List Value} {b : Nat} {cs : Array Value} (h : Own w B e sz v xs) (hb : Blk w b cs t) (hne : t ≠ e) : ∀ g, v.ownBlock = some g → g ≠ b := by
  intro g hg he
  obtain ⟨n, h⟩ := h
  rcases h.2 with ⟨rfl, _⟩ | ⟨g', cap, cur, rfl, hbg, hg', r⟩
  · cases hg
  · injection hg with hg
    subst hg he
    rw [show w.heap[g']? = _ from hb] at hg'
    injection hg' with hg'
    injection hg' with _ h2 _
    exact hne h2
def WrB (w : World) (B b : Nat) (text : ByteArray) (odd : Bool) : Prop := B ≤ b ∧ ∃ p v, (p = .pointer none ∨ p = .pointer (some ⟨b, 0, none⟩)) ∧ Blk w b #[p, v, .bool odd] 234 ∧ Own w B 5 1 v (Lib.strCells text) ∧ (text.size = 0 → v = .slice none 0 0)
def WK (B b : Nat) (w : World) (x : Nat) : Prop := x < B ∨ (x ≠ b ∧ x < w.heap.size ∧ ∀ cs, w.heap[x]? ≠ some (.cells cs 5 (0, 0)))
abbrev WKept (B b : Nat) (w w' : World) : Prop := Kept (WK B b w) w w'
section
variable {w w' w'' : World} {B b : Nat}
theorem WKept.below (h : WKept B b w w') : Below B w w' := Kept.below h fun _ hx => .inl hx
theorem WKept.next (h : WKept B b w w') (k : WKept B b w' w'') : WKept B b w w'' := Kept.trans h (Kept.mono k fun x hx => by
  rcases hx with hx | ⟨h1, h2, h3⟩
  · exact .inl hx
  · refine .inr ⟨h1, Nat.lt_of_lt_of_le h2 h.size, fun cs => ?_⟩
    rw [h.block x (.inr ⟨h1, h2, h3⟩)]
    exact h3 cs)
theorem WKept.of (h : Below w.heap.size w w') (hB : B ≤ w.heap.size) : WKept B b w w' := Below.kept h fun x hx => by
  rcases hx with hx | ⟨_, h2, _⟩
  · omega
  · exact h2
theorem WKept.box (h : WKept B b w w') {x : Nat} {cs : Array Value} {e : TypeId} (hx : Blk w x cs e) (he : e ≠ 5) (hb : x ≠ b) : Blk w' x cs e := Kept.blk h hx (.inr ⟨hb, hx.lt, fun cs' h' => by
  rw [show w.heap[x]? = _ from hx] at h'
  injection h' with h'
  injection h' with _ h2 _
  exact he h2⟩)
theorem WrB.lt {text : ByteArray} {odd : Bool} (h : WrB w B b text odd) : b < w.heap.size := by
  obtain ⟨_, p, v, _, hb, _⟩ := h
  exact hb.lt
theorem WrB.up {text : ByteArray} {odd : Bool} (h : WrB w B b text odd) (hk : Below w.heap.size w w') : WrB w' B b text odd := by
  obtain ⟨hB, p, v, hp, hb, ho, hn⟩ := h
  exact ⟨hB, p, v, hp, hb.below hk, ho.below hk, hn⟩
theorem WrB.flag {text : ByteArray} {odd : Bool} (h : WrB w B b text odd) (o : Bool) : WrB (w.setCell ⟨b, 2, none⟩ (.bool o)) B b text o := by
  obtain ⟨hB, p, v, hp, hb, ho, hn⟩ := h
  exact ⟨hB, p, v, hp, hb.set 2 _, ho.keepB fun g hg => Below.heap_setCell _ _ _ g (ho.notBlk hb (by decide) g hg), hn⟩
theorem WKept.flag (hB : B ≤ b) (v : Value) : WKept B b w (w.setCell ⟨b, 2, none⟩ v) := (Kept.refl _ _).set (a := ⟨b, 2, none⟩) (fun h => by
  rcases h with h | ⟨h, _⟩
  · exact absurd h (by show ¬ b < B; omega)
  · exact h rfl) _
theorem WrB.odd2 {text : ByteArray} {odd : Bool} (h : WrB w B b text odd) : w.cell? ⟨b, 2, none⟩ = some (.bool odd) ∧ w.frozen? ⟨b, 2, none⟩ = false := by
  obtain ⟨hB, p, v, hp, hb, ho, hn⟩ := h
  exact ⟨hb.cells 2, hb.free 2⟩
end
theorem bytesInfoW : (Tryz.prog.info? 5).map (fun i => (i.zero, i.size, i.bytes)) = some (some (.int .u8 0), 1, 1) := by kernel_rfl
theorem writerSize : (Tryz.prog.info? 232).map (·.size) = some 2 := by kernel_rfl
theorem writerInfo : ∃ j, Tryz.prog.info? 232 = some j ∧ j.size ≠ 0 := by
  obtain ⟨j, hj, hs⟩ := Option.map_eq_some_iff.1 writerSize
  exact ⟨j, hj, by omega⟩
theorem liesW : liesAt Tryz.prog Tryz.prog.depth 234 (3 / Tryz.prog.cellsOf 234) 0 232 1 = true := by kernel_rfl
theorem WrB.shape {w : World} {b : Nat} {cs : Array Value} (h : Blk w b cs 234) (hs : cs.size = 3) : w.shape? b = some (234, 3) := by
  simp [World.shape?, show w.heap[b]? = _ from h, hs]
set_option maxRecDepth 100000 in
set_option maxHeartbeats 2000000 in
theorem copyCheck_used (b : Nat) (w : World) (h0 : w.cell? ⟨b, 0, none⟩ = some (.pointer (some ⟨b, 0, none⟩))) :
    Calls Tryz.prog 180 #[.pointer (some ⟨b, 0, none⟩)] w fun e w' => e = .returned (.tuple #[]) ∧ w' = w := by
  obtain ⟨j, hj, _⟩ := writerInfo
  go_enter Tryz.func180, Tryz.ntmps180
  go_wp2
  rw [Lib.run_neq_ptr_same w _ Tryz.underlying230 hj]
  go_wp2
  go_end0
  exact ⟨rfl, rfl⟩
set_option maxRecDepth 100000 in
set_option maxHeartbeats 2000000 in
theorem copyCheck_fresh (b : Nat) (w : World) (h0 : w.cell? ⟨b, 0, none⟩ = some (.pointer none)) (hsh : w.shape? b = some (234, 3)) (hfz : w.frozen? ⟨b, 0, none⟩ = false) :
    Calls Tryz.prog 180 #[.pointer (some ⟨b, 0, none⟩)] w fun e w' => e = .returned (.tuple #[]) ∧ w' = w.setCell ⟨b, 0, none⟩ (.pointer (some ⟨b, 0, none⟩)) := by
  obtain ⟨j, hj, hjs⟩ := writerInfo
  go_enter Tryz.func180, Tryz.ntmps180
  go_wp2
  rw [Lib.run_to_unsafe w ⟨b, 0, none⟩ Tryz.underlying230 Tryz.underlying288 hj hjs hsh (Nat.zero_lt_succ 2)]
  simp only [Result.andThen]
  rw [Oper.upon_value]
  go_wp2
  rw [run_callFunc_extern Tryz.func208 (by kernel_rfl) (by kernel_rfl) (by kernel_rfl) (e := Extern.AbiNoEscape.same) (by kernel_rfl)]
  rw [Lib.run_noEscape]
  simp only [Result.andThen]
  rw [Oper.upon_value]
  go_wp2
  rw [Lib.run_from_unsafe w ⟨b, 0, none⟩ Tryz.underlying288 Tryz.underlying230 hj hsh liesW]
  simp only [Result.andThen]
  rw [Oper.upon_value]
  go_wp2
  go_end0
  exact ⟨rfl, rfl⟩
theorem copyCheck_any {B b : Nat} {text : ByteArray} {odd : Bool} {w : World} (h : WrB w B b text odd) :
    Calls Tryz.prog 180 #[.pointer (some ⟨b, 0, none⟩)] w fun e w' => e = .returned (.tuple #[]) ∧ (∃ v, Blk w' b #[.pointer (some ⟨b, 0, none⟩), v, .bool odd] 234 ∧ Own w' B 5 1 v (Lib.strCells text)) ∧ WKept B b w w' := by
  obtain ⟨hB, p, v, hp, hb, ho, hn⟩ := h
  rcases hp with rfl | rfl
  · refine (copyCheck_fresh b w (hb.cells 0) (WrB.shape hb rfl) (hb.free 0)).mono ?_
    rintro e w' ⟨rfl, rfl⟩
    refine ⟨rfl, ⟨v, hb.set 0 _, ho.keepB fun g hg => Below.heap_setCell _ _ _ g (ho.notBlk hb (by decide) g hg)⟩, (Kept.refl _ _).set (a := ⟨b, 0, none⟩) (fun h => ?_) _⟩
    rcases h with h | ⟨h, _⟩
    · exact absurd h (by show ¬ b < B; omega)
    · exact h rfl
  · refine (copyCheck_used b w (hb.cells 0)).mono ?_
    rintro e w' ⟨rfl, rfl⟩
    exact ⟨rfl, ⟨v, hb, ho⟩, Kept.refl _ _⟩
set_option maxRecDepth 100000 in
set_option maxHeartbeats 2000000 in
theorem writeString_any {B b : Nat} {text : ByteArray} {odd : Bool} {w : World} (s : ByteArray) (h : WrB w B b text odd) (hlen : text.size + s.size ≤ 140737488355328) (hpos : 0 < text.size + s.size) (hBw : B ≤ w.heap.size) :
    Calls Tryz.prog 151 #[.pointer (some ⟨b, 0, none⟩), .string s] w fun e w' => e = .returned (.tuple #[.int .i64 s.size, .nilIface]) ∧ WrB w' B b (text ++ s) odd ∧ WKept B b w w' := by
  have HCC := Lib.hid (copyCheck_any h)
  have hB := h.1
  obtain ⟨i0, hi, hz0, hz1, hz2⟩ := info_parts bytesInfoW
  clear h
  go_enter Tryz.func151, Tryz.ntmps151
  go_wp2_with fail
  refine HCC.out.mono ?_
  rintro e w1 ⟨rfl, ⟨v, hb1, ho1⟩, hk1⟩
  have hsz1 := hk1.size
  have c1 := hb1.cells
  have HNB := Lib.hid (ho1.notBlk hb1 (by decide))
  have HBL := Lib.hid hb1
  have HO := Lib.hid ho1
  have HK := Lib.hid hk1
  obtain ⟨n1, ho1'⟩ := ho1
  have hn1 : n1 = text.size := by have := ho1'.1; rw [Lib.strCells_length] at this; omega
  subst hn1
  have hb1' := hb1
  clear HCC hb1 hk1
  go_wp2_with (at_builtin; refine Lib.wpList_append_own_string _ rfl _ _ 62 9 rfl B 5 i0 Tryz.underlying62 Tryz.underlying9 hi hz0 hz1 hz2 _ _ _ rfl ho1' s rfl ?c3 ?c4 ?c5 ?_)
  case c3 => unfold maxLen; omega
  case c4 => omega
  case c5 => omega
  intro v' w2 hown' hgrow _
  have hb2 : Blk w2 b #[.pointer (some ⟨b, 0, none⟩), v, .bool odd] 234 := (hgrow.block b hb1'.lt (fun e => HNB.out b e.symm rfl)).trans hb1'
  have d0 := hb2.cells
  have f0 := hb2.free
  have HO2 : Own w2 B 5 1 v' (Lib.strCells text ++ Lib.strCells s) := ⟨_, hown'⟩
  have HN2 := HO2.notBlk hb2 (by decide)
  have HKG : WKept B b w1 w2 := ⟨hgrow.os, hgrow.tape, hgrow.output, hgrow.size, fun x hx => by
    have hO := HO.out
    rcases hx with hx | ⟨h1, h2, h3⟩
    · exact hgrow.block x (by omega) (fun e => by have := (hO.block x e.symm).1; omega)
    · refine hgrow.block x h2 (fun e => ?_)
      obtain ⟨n, ho⟩ := hO
      rcases ho.2 with ⟨rfl, _⟩ | ⟨g', cap, cur, rfl, hbg, hg', r⟩
      · cases e
      · injection e with e
        subst e
        exact h3 _ hg'⟩
  have HO3 := Lib.hid HO2
  have HKG2 := Lib.hid HKG
  have HB2 := Lib.hid hb2
  have HN3 := Lib.hid HN2
  obtain ⟨ao, n', cap, rfl⟩ : ∃ ao n' cap, v' = .slice ao n' cap := by
    rcases hown'.2 with ⟨hv, _⟩ | ⟨g, cap, cur, hv, _⟩
    · exact ⟨_, _, _, hv⟩
    · exact ⟨_, _, _, hv⟩
  clear c1 hb1' ho1' hgrow hown' hb2 HO2 HN2 HKG hi hz0 hz1 hz2
  go_wp2_with fail
  go_ret2
  refine ⟨rfl, ⟨hB, _, _, .inr rfl, HB2.out.set 1 _, ?_, fun h => ?_⟩, ?_⟩
  · have h1 : Lib.strCells (text ++ s) = Lib.strCells text ++ Lib.strCells s := by simp [Lib.strCells]
    rw [h1]
    exact HO3.out.keepB fun g hg => Below.heap_setCell _ _ _ g (HN3.out g hg)
  · rw [ByteArray.size_append] at h
    omega
  · refine WKept.next (WKept.next HK.out HKG2.out) ((Kept.refl _ _).set (a := ⟨b, 1, none⟩) (fun h => ?_) _)
    rcases h with h | ⟨h, _⟩
    · exact absurd h (by show ¬ b < B; omega)
    · exact h rfl
end Go.Proofs.YtjdigpfipmckhaaGreat
