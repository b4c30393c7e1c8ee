/- References of a type's relations: rows of them; the walk of the document's among. What holds of any type. References as keys of maps. Maps as pairs: what is looked up behind a store; the store in a drawn region. What holds of any type. A world behind a call that has turned but some maps and rows of its own; append in a drawn region, and where its result lies. No condition: lemmas. -/
import Derived.Lib.Hide
import Derived.DeepKeys4
import Derived.RangeFuncGives
import Derived.RangeFuncNested
import Derived.RangeFuncLeaves
import Derived.WalkKit
import Derived.OwnWalkIn
import Derived.TacticsInMore
import Derived.RegionIn
import Derived.LoopNIn
import Derived.LoopIn
import Derived.Test.YtfhonficpccegaaZ3
import Derived.Test.YtfhonficpccegaaZ2
import Derived.Test.YtfhonficpccegaaZ1
import Derived.Test.YtfhonficpccegaaZ0
namespace Go.Proofs.Ytfhonficpccegaa
open Go Go.RowKit

/-- A relation of a type. -/
structure R2 where
  t : ByteArray
  r : ByteArray
deriving DecidableEq
instance : Inhabited R2 := ⟨⟨ByteArray.empty, ByteArray.empty⟩⟩
def r2V (p : R2) : Value := .agg #[.string p.t, .string p.r]
def r2C (p : R2) : List Value := [.string p.t, .string p.r]
theorem r2C_length (p : R2) : (r2C p).length = 2 := rfl
def r2cs (l : List R2) : List Value := l.flatMap r2C
theorem r2cs_one (l : List R2) : ∀ u ∈ r2cs l, u.oneCell' = true := by
  intro u hu
  obtain ⟨t, _, h⟩ := List.mem_flatMap.1 hu
  simp only [r2C, List.mem_cons, List.not_mem_nil, or_false] at h
  rcases h with rfl | rfl <;> rfl
theorem r2cs_length (l : List R2) : (r2cs l).length = 2 * l.length := by
  rw [r2cs, flat_length r2C_length]; omega
theorem r2cs_append (a b : List R2) : r2cs (a ++ b) = r2cs a ++ r2cs b := List.flatMap_append
theorem refs_rows {S : Nat → Prop} {w : World} {v : Value} {l : List R2} (h : Sl S w 2 v (r2cs l)) :
    ∃ ao c, v = .slice ao l.length c ∧ l.length ≤ c ∧ c ≤ 9223372036854775807 ∧ ∀ i (hi : i < l.length), ∃ b off, ao = some ⟨b, off, none⟩ ∧ S b ∧ w.cell? ⟨b, off + i * 2, none⟩ = some (.string l[i].t) ∧ w.cell? ⟨b, off + i * 2 + 1, none⟩ = some (.string l[i].r) := by
  obtain ⟨ao, c, rfl, h1, h2, hc⟩ := Sl.rows r2C_length (by decide) (show Sl S w 2 v (l.flatMap r2C) from h)
  refine ⟨ao, c, rfl, h1, h2, fun i hi => ?_⟩
  obtain ⟨b, off, rfl, hb, hc⟩ := hc (by omega)
  exact ⟨b, off, rfl, hb, hc i hi 0 _ rfl, hc i hi 1 _ rfl⟩
theorem ba_toList (a b : ByteArray) : a.toList = b.toList ↔ a = b := by
  rw [ByteArray.toList_eq, ByteArray.toList_eq]
  exact ⟨fun h => ByteArray.ext (by rw [← Array.toList_inj]; exact h), fun h => by rw [h]⟩
theorem r2_eql (a b : R2) (W : World) : (binOp BinOp.eql 43 (r2V a) (r2V b)).run Try.prog W = .ok (.bool (decide (a = b))) W := by
  obtain ⟨a1, a2⟩ := a
  obtain ⟨b1, b2⟩ := b
  unfold r2V
  dsimp only
  go_simp
  simp only [ba_toList]
  by_cases h1 : a1 = b1 <;> by_cases h2 : a2 = b2 <;> simp [h1, h2]
theorem r2_neq (a b : R2) (W : World) : (binOp BinOp.neq 43 (r2V a) (r2V b)).run Try.prog W = .ok (.bool (decide (a ≠ b))) W := by
  obtain ⟨a1, a2⟩ := a
  obtain ⟨b1, b2⟩ := b
  unfold r2V
  dsimp only
  go_simp
  simp only [ba_toList]
  by_cases h1 : a1 = b1 <;> by_cases h2 : a2 = b2 <;> simp [h1, h2]

set_option maxRecDepth 100000 in
set_option maxHeartbeats 2000000 in
theorem among_any (v : Value) (l : List R2) (q : R2) (w : World) (h : Sl (· < w.heap.size) w 2 v (r2cs l)) : Calls Try.prog 39 #[v, r2V q] w fun e w' => e = .returned (.bool (decide (q ∈ l))) ∧ Below w.heap.size w w' := by
  obtain ⟨ao, c, rfl, hlc, hcm, hcell⟩ := refs_rows h
  have HC := Lib.hid hcell
  clear h hcell
  obtain ⟨qt, qr⟩ := q
  generalize hg : decide ((⟨qt, qr⟩ : R2) ∈ l) = g
  have HG := Lib.hid hg.symm
  have hQ := Blk.made w #[.string qt, .string qr] 43
  have hq0 := hQ.cells
  have HQ := Lib.hid hQ
  have HB0 := Lib.hid (show Below w.heap.size w (w.alloc (.cells #[.string qt, .string qr] 43)) from (Below.refl _ _).alloc (Nat.le_refl _) _)
  clear hg hQ
  unfold r2V
  dsimp only
  go_enter Try.func39, Try.ntmps39
  go_wp2_with fail
  clear hq0
  obtain ⟨w1, hw1⟩ : ∃ w1, w1 = w.alloc (.cells #[.string qt, .string qr] 43) := ⟨_, rfl⟩
  rw [← hw1] at HQ HB0 ⊢
  clear hw1
  go_loopw [9] (fun ii wr => ∃ i : Nat, i ≤ l.length ∧ ii = .int .i64 i ∧ (∀ j (hj : j < l.length), j < i → l[j] ≠ ⟨qt, qr⟩) ∧ Below w1.heap.size w1 wr) (fun ii _ => l.length - (intOf ii).toNat)
  case atStart => exact ⟨0, by omega, rfl, fun _ _ h => absurd h (by omega), Below.refl _ _⟩
  case round =>
    obtain ⟨i, hi, rfl, hall, hb1⟩ := hrel
    have HALL := Lib.hid hall
    have hbel : Below w.heap.size w wr := HB0.out.trans (hb1.mono HB0.out.size)
    clear hall
    by_cases hlt : i < l.length
    · have HUP := Lib.hid (fun h => upto_succ (p := fun j hj => l[j] ≠ ⟨qt, qr⟩) HALL.out hlt h)
      have HAN := Lib.hid (fun (h : l[i] = ⟨qt, qr⟩) => show g = true from by rw [HG.out, decide_eq_true_eq, ← h]; exact List.getElem_mem hlt)
      obtain ⟨b, off, rfl, hb, c0, c1⟩ := HC.out i hlt
      have d0 := (hbel.cell (p := ⟨b, off + i * 2, none⟩) hb).trans c0
      have d1 := (hbel.cell (p := ⟨b, off + i * 2 + 1, none⟩) hb).trans c1
      clear c0 c1
      generalize l[i] = x at *
      obtain ⟨xt, xr⟩ := x
      dsimp only at d0 d1
      have hE : Below w1.heap.size w1 (wr.alloc (.cells #[.string xt, .string xr] 43)) := hb1.alloc hb1.size _
      have hbx := (Blk.made wr #[.string xt, .string xr] 43).cells
      have hbq := (HQ.out.below hE).cells
      have HE := Lib.hid hE
      have HBE := Lib.hid (HB0.out.trans (hE.mono HB0.out.size))
      have heq := fun W => r2_eql ⟨xt, xr⟩ ⟨qt, qr⟩ W
      unfold r2V at heq
      dsimp only at heq
      clear hb1 hbel hE
      by_cases hm : (⟨xt, xr⟩ : R2) = ⟨qt, qr⟩
      · have HT := Lib.hid (HAN.out hm)
        rw [decide_eq_true hm] at heq
        clear HUP HAN hm
        go_wp2_with fail
        go_ret
        exact ⟨by rw [HT.out]; rfl, HBE.out⟩
      · have HN := Lib.hid (HUP.out hm)
        rw [decide_eq_false hm] at heq
        clear HUP HAN hm
        go_wp2_with fail
        go_roundw
        case rel => exact ⟨i + 1, by omega, by go_num, HN.out, HE.out⟩
        case measure => simp [intOf]; omega
    · obtain rfl : i = l.length := by omega
      have HF := Lib.hid (show g = false from by
        rw [HG.out, decide_eq_false_iff_not]
        intro hx
        obtain ⟨j, hj, he⟩ := List.getElem_of_mem hx
        exact HALL.out j hj hj he)
      have HBE := Lib.hid hbel
      clear hbel hb1
      go_wp2_with fail
      go_ret
      exact ⟨by rw [HF.out]; rfl, HBE.out⟩

end Go.Proofs.Ytfhonficpccegaa
namespace Go.Proofs.Ytfhonficpccegaa
open Go Go.RowKit Go.Maps

theorem laidOut : laidOutB Try.prog = true := by kernel_rfl
theorem str_lits (d : Nat) (s : ByteArray) (h : s.size ≤ maxLen) : Try.prog.keyLits (d + 1) 9 [.string s] = some [.string s.data.toList] := by
  unfold Program.keyLits
  rw [Try.underlying9]
  simp only [h, if_true]
theorem obj_lits (d : Nat) (s u : ByteArray) (h : s.size ≤ maxLen) (k : u.size ≤ maxLen) : Try.prog.keyLits (d + 1 + 1) 33 [.string s, .string u] = some [.string s.data.toList, .string u.data.toList] := by
  unfold Program.keyLits
  rw [Try.underlying33]
  have e1 := str_lits d s h
  have e2 := str_lits d u k
  have e3 : Try.prog.cellsOf 33 = 2 := by kernel_rfl
  have e4 : Try.prog.cellsOf 9 = 1 := by kernel_rfl
  simp [e1, e2, e3, e4]
theorem types_many : ∃ d, Try.prog.types.size = d + 1 + 1 + 1 := ⟨Try.prog.types.size - 3, by have : 3 ≤ Try.prog.types.size := of_decide_eq_true (by kernel_rfl); omega⟩

end Go.Proofs.Ytfhonficpccegaa
namespace Go.Proofs.Ytfhonficpccegaa
open Go Go.RowKit Go.Maps

theorem refK : Keyed Try.prog 43 := Keyed.of_law (deep_law_laid laidOut (m := 3) (by decide) (of_decide_eq_true (by kernel_rfl)) (by kernel_rfl) (by kernel_rfl))
theorem r2V_inj (a b : R2) (h : r2V a = r2V b) : a = b := by
  obtain ⟨a1, a2⟩ := a
  obtain ⟨b1, b2⟩ := b
  simpa [r2V] using h
/-- Texts that a machine can hold. -/
def R2.Ok (p : R2) : Prop := p.t.size ≤ maxLen ∧ p.r.size ≤ maxLen
theorem ref_lits (d : Nat) (p : R2) (h : p.Ok) : Try.prog.keyLits (d + 1 + 1) 43 [.string p.t, .string p.r] = some [.string p.t.data.toList, .string p.r.data.toList] := by
  unfold Program.keyLits
  rw [Try.underlying43]
  have e1 := str_lits d p.t h.1
  have e2 := str_lits d p.r h.2
  have e3 : Try.prog.cellsOf 43 = 2 := by kernel_rfl
  have e4 : Try.prog.cellsOf 9 = 1 := by kernel_rfl
  simp [e1, e2, e3, e4]
theorem ref_key (p : R2) (h : p.Ok) : ∃ q, keyOf Try.prog 43 (r2V p) = some q := by
  obtain ⟨d, hd⟩ := types_many
  have e := ref_lits (d + 1 + 1) p h
  have e2 : (Try.prog.keyType 43 && (r2V p).formed Try.prog 43) = true := by kernel_rfl
  have hs : Try.prog.types.size + 1 = d + 1 + 1 + 1 + 1 := by omega
  unfold keyOf
  rw [Try.underlying43]
  dsimp only
  rw [if_pos e2, hs]
  rw [show (r2V p).cells.toList = [.string p.t, .string p.r] from rfl, e]
  exact ⟨_, rfl⟩
theorem strK : Keyed Try.prog 9 := string_keyed Try.underlying9
theorem strV_inj (a b : ByteArray) (h : Value.string a = Value.string b) : a = b := by injection h
theorem str_key (s : ByteArray) (h : s.size ≤ maxLen) : ∃ q, keyOf Try.prog 9 (.string s) = some q := by
  unfold keyOf
  rw [Try.underlying9]
  dsimp only
  unfold mapKey
  rw [Try.underlying9]
  simp [h]

end Go.Proofs.Ytfhonficpccegaa
namespace Go.Proofs.Ytfhonficpccegaa
open Go Go.RowKit Go.Maps

abbrev bV : Bool → Value := fun x => .bool x

section
variable {κ α : Type} [DecidableEq κ]
theorem look_put (a : κ) (x : α) (b : κ) : ∀ l : List (κ × α), lookA (putA l a x) b = if a = b then some x else lookA l b
  | [] => by simp [putA, lookA]
  | p :: r => by
    unfold putA
    by_cases h : p.1 = a
    · rw [if_pos h]
      subst h
      by_cases hb : p.1 = b
      · simp [lookA, hb]
      · simp [lookA, hb]
    · rw [if_neg h]
      by_cases hb : p.1 = b
      · subst hb
        simp [lookA, Ne.symm h]
      · simp [lookA, hb, look_put a x b r]
theorem put_keys_mem (a : κ) (x : α) (b : κ × α) : ∀ {l : List (κ × α)}, b ∈ putA l a x → b = (a, x) ∨ b ∈ l
  | [], h => by simpa [putA] using h
  | p :: r, h => by
    unfold putA at h
    split at h
    · rcases List.mem_cons.1 h with h | h
      · exact .inl h
      · exact .inr (by simp [h])
    · rcases List.mem_cons.1 h with h | h
      · exact .inr (by simp [h])
      · rcases put_keys_mem a x b h with h | h
        · exact .inl h
        · exact .inr (by simp [h])
end
theorem wp_mp_store {P : Program} {w : World} {o : Oper} {a : Act} {Kx : Act → World → Prop} {Q : Exit → Act → World → Prop} {κ α : Type} {kv : κ → Value} {ev : α → Value} {b : Nat} {l : List (κ × α)} [DecidableEq κ] (m x v : Operand) (t : TypeId) (hop : o.op = Op.mapUpdate t m x v) {k e : TypeId} (K : Keyed P k) (inj : ∀ a b, kv a = kv b → a = b) (ht : P.underlying t = some (.map k e))
    (hm : a.eval m = .map (some b)) (h : Mp P k kv ev w b l) {y : κ} (hx : a.eval x = kv y) (hk : ∃ q, keyOf P k (kv y) = some q) {u : α} (hv : a.eval v = ev u)
    (hK : ∀ w', Mp P k kv ev w' b (putA l y u) → Turned w w' b → Kx (a.put o.dst undef) w') : o.wp P a w Kx Q := by
  obtain ⟨w', hrun, h1, h2⟩ := h.store K inj ht hk u
  unfold Oper.wp
  simp [execOp, hop, hm, hx, hv, hrun, Result.andThen]
  exact hK w' h1 h2

/-- Nothing that was there has turned but b. -/
abbrev Tk (b : Nat) (w w' : World) : Prop := Kept (fun x => x < w.heap.size ∧ x ≠ b) w w'
section
variable {b : Nat} {w w' w'' : World}
theorem Tk.refl (b : Nat) (w : World) : Tk b w w := Kept.refl _ _
theorem Tk.next (h : Tk b w w') (k : Tk b w' w'') : Tk b w w'' := Kept.trans h (Kept.mono k fun x hx => ⟨Nat.lt_of_lt_of_le hx.1 h.size, hx.2⟩)
theorem Tk.of (h : Below w.heap.size w w') : Tk b w w' := Below.kept h fun x hx => hx.1
theorem Tk.turned (h : Turned w w' b) : Tk b w w' := h.kept.mono fun x hx => hx.2
theorem Tk.box (h : Tk b w w') {x : Nat} {cs : Array Value} {t : TypeId} (hx : Blk w x cs t) (hb : x ≠ b) : Blk w' x cs t := Kept.blk h hx ⟨hx.lt, hb⟩
theorem Tk.below (h : Tk b w w') {B : Nat} (h1 : B ≤ w.heap.size) (h2 : B ≤ b) : Below B w w' := Kept.below h fun x hx => ⟨by omega, by omega⟩
end

end Go.Proofs.Ytfhonficpccegaa
namespace Go.Proofs.Ytfhonficpccegaa
open Go Go.RowKit

attribute [local go_sem] Oper.semAt_some
/-- Where append's result lies: where the row lay, or in a new block. -/
theorem append_where {P : Program} {w : World} (base : Nat) (t ty e : TypeId) (i : TypeInfo) (z : Value) (ht : P.underlying t = some (.slice e)) (hi : P.info? e = some i) (hz : i.zero = some z)
    (v : Value) (n : Nat) (xs : List Value) (hown : w.ownsRow base e i.size v n xs)
    (a : Addr) (m c : Nat) (news : List Value) (hl : news.length = m * i.size) (hnews : ∀ j u, news[j]? = some u → w.cell? (a.add j) = some u) (h1 : ∀ u ∈ news, u.oneCell' = true)
    (h63 : n + m ≤ maxLen) (hbytes : (n + m) * i.bytes ≤ 140737488355328) {v' : Value} {w' : World} (hrun : (Builtin.append_ #[t, t] ty #[v, .slice (some a) m c]).run P w = .ok v' w') :
    ∀ g, v'.ownBlock = some g → v.ownBlock = some g ∨ w.heap.size ≤ g := by
  have hsmall : n + m ≤ 9223372036854775807 := by simp only [maxLen] at h63; omega
  rcases hown.2 with ⟨rfl, rfl⟩ | ⟨g, cap, cur, rfl, hbg, hg, hnc, hcm, hcs, htake⟩
  · have hx : xs = [] := List.eq_nil_of_length_eq_zero (by simpa using hown.1)
    subst hx
    by_cases hm : m = 0
    · subst hm
      have hn : news = [] := List.eq_nil_of_length_eq_zero (by simpa using hl)
      subst hn
      have : (Builtin.append_ #[t, t] ty #[.slice none 0 0, .slice (some a) 0 c]).run P w = .ok (.slice none 0 0) w := by
        simp [Builtin.append_, run_underlying ht, sizeOf, typeInfo, hi, Builtin.lenOf, Builtin.firstCells, loadCells, loadCellsFrom]
      rw [hrun] at this
      injection this with h1 h2
      subst h1
      intro g hg
      cases hg
    · have hr := run_append_nil (P := P) w t ty e i z ht hi hz a m c news hl hnews (by omega) (by omega) (by have hb := hbytes; simp only [Nat.zero_add] at hb; omega)
      rw [hrun] at hr
      injection hr with h1 h2
      subst h1
      intro g hg
      simp only [Value.ownBlock, Option.some.injEq] at hg
      exact .inr (Nat.le_of_eq hg)
  · by_cases hroom : n + m ≤ cap
    · have hfit : n * i.size + news.length ≤ cur.size := by rw [hl, hcs, ← Nat.add_mul]; exact Nat.mul_le_mul_right _ hroom
      have hr := run_append_room (P := P) w t ty e i ht hi g n cap cur hg a m c news hl hnews h1 hroom hfit
      rw [hrun] at hr
      injection hr with h1 h2
      subst h1
      intro g' hg'
      exact .inl hg'
    · have holds : ∀ j u, xs[j]? = some u → w.cell? ((⟨g, 0, none⟩ : Addr).add j) = some u := hown.cells (g := g) rfl
      have hr := run_append_grow (P := P) w t ty e i z ht hi hz ⟨g, 0, none⟩ n cap xs hown.1 holds a m c news hl hnews (by omega) (by omega) (growslice_fits (by omega) hbytes)
      rw [hrun] at hr
      injection hr with h1 h2
      subst h1
      intro g hg
      simp only [Value.ownBlock, Option.some.injEq] at hg
      exact .inr (Nat.le_of_eq hg)
theorem wpListIn_own {F : Fence} {n : Nat} {P : Program} {w : World} {ops : Array Oper} {rest : List Oper} {o : Oper} {a : Act} {Q : Exit → Act → World → Prop} {t e : TypeId} {size bytes : Nat} (E : ElemT P t e size bytes)
    (hg : o.guard = none) (s x : Operand) (hop : o.op = Op.call { callee := Callee.builtin Builtin.append, args := #[s, x], argTypes := #[t, t] })
    {B : Nat} {v : Value} {xs : List Value} (hs : a.eval s = v) (hown : Own w B e size v xs) {ad : Addr} {m c : Nat} {news : List Value} (hx : a.eval x = .slice (some ad) m c) (hn : news.length = m * size)
    (hc : ∀ j u, news[j]? = some u → w.cell? (ad.add j) = some u) (h1 : ∀ u ∈ news, u.oneCell' = true)
    (hlen : xs.length + news.length ≤ 9223372036854775807) (hbytes : (xs.length + news.length) * bytes ≤ 140737488355328) (hB : B ≤ w.heap.size)
    (K : ∀ v' w', Own w' B e size v' (xs ++ news) → (∀ g, v'.ownBlock = some g → v.ownBlock = some g ∨ w.heap.size ≤ g) → w.grownBy w' v.ownBlock → wpListIn F n P ops Q rest (a.put o.dst v') w') : wpListIn F n P ops Q (o :: rest) a w := by
  obtain ⟨hund, ⟨i, z, hi, hz, h4, h5, h6⟩, hpos⟩ := E
  obtain ⟨k, hown⟩ := hown
  have e1 : ∀ k l : Nat, k ≤ l * size → l * size ≤ k → l ≤ k := fun k l _ hb => Nat.le_trans (Nat.le_mul_of_pos_right l hpos) hb
  have hnl : k ≤ xs.length := e1 _ _ (Nat.le_of_eq hown.1) (Nat.le_of_eq hown.1.symm)
  have hml : m ≤ news.length := e1 _ _ (Nat.le_of_eq hn) (Nat.le_of_eq hn.symm)
  have hb47 : (k + m) * bytes ≤ 140737488355328 := Nat.le_trans (Nat.mul_le_mul_right _ (by omega)) hbytes
  subst h4
  subst h5
  refine wpListIn_plain hg fun K' hK' => ?_
  obtain ⟨v', w', hrun, r1, r2, _⟩ := run_append_own (P := P) w B t o.type e i z i.size i.bytes hund hi hz rfl rfl h6 hpos v k xs hown ad m c news hn hc h1 (by unfold maxLen; omega) hb47 hB
  have r3 := append_where B t o.type e i z hund hi hz v k xs hown ad m c news hn hc h1 (by unfold maxLen; omega) hb47 hrun
  unfold Oper.wpIn
  refine ⟨?_, ?_⟩
  · simp [Oper.about, hop, resolve, Target.leads, Sem.run_pure]
  · rw [Oper.semAt_plain F _ _ (by rw [hop]; intro c hc'; cases hc')]
    simp [execOp, hop, resolve, invoke, builtin, hs, hx, hrun, Result.andThen]
    exact hK' _ _ (K v' w' ⟨_, r1⟩ r3 r2)
theorem own_ownFrom {β : Type} (B0 Bs : Nat) (t e : TypeId) (sz : Nat) (f : β → List Value) (G : Value → Prop) (B : Nat) : OwnFrom B (fun s W => ∃ v, Boxed W Bs t v ∧ Own W B0 e sz v (f s) ∧ G v) := by
  rintro s X Y row ⟨v, hv, ⟨n, hr⟩, hG⟩ hg hrow
  obtain ⟨v2, h1, h2, rfl⟩ := (holdsRow_own B0 Bs t e sz (fun _ : Unit => n) (fun _ => f s) (fun _ u => u = v)) () X Y row ⟨v, hv, hr, rfl⟩ hg (fun r e => (hrow r e).2)
  exact ⟨v2, h1, ⟨n, h2⟩, hG⟩
theorem ownFrom_kept {β : Type} {K : Nat → Prop} {B : Nat} {w0 : World} (hK : ∀ b, K b → b < w0.heap.size) (hB : w0.heap.size ≤ B) : OwnFrom B (fun (_ : β) W => Kept K w0 W) := fun _ X _ row h hg hr =>
  h.trans ⟨hg.os, hg.tape, hg.output, hg.size, fun b hb => hg.block b (Nat.lt_of_lt_of_le (hK b hb) h.size) (fun e => by have h1 := (hr b e.symm).1; have h2 := hK b hb; omega)⟩
theorem boxed3_kept {W W' : World} {row : Option Nat} {B : Nat} {cs : Array Value} {t : TypeId} (h : Blk W B cs t) (hg : W.grownBy W' row) (hr : ∀ r, row = some r → ∃ o : Obj, W.heap[r]? = some o ∧ o.isCells = false) : Blk W' B cs t :=
  (hg.block B h.lt (fun e => by
    obtain ⟨o, ho, hc⟩ := hr B e.symm
    rw [show W.heap[B]? = _ from h] at ho
    cases ho
    cases hc)).trans h
theorem Own.put {W : World} {B0 : Nat} {e : TypeId} {sz : Nat} {v : Value} {xs : List Value} (h : Own W B0 e sz v xs) {l : Nat} {o : Obj} (o' : Obj) (hl : W.heap[l]? = some o) (ho : o.isCells = false) : Own (W.putObj l o') B0 e sz v xs := by
  obtain ⟨n, h⟩ := h
  exact ⟨n, ownsRow_putObj h o' hl ho⟩
theorem boxed_notOwn {W : World} {B : Nat} {t e : TypeId} {u : Value} (h : Boxed W B t u) (hte : t ≠ e) {B0 sz : Nat} {v : Value} {xs : List Value} (hr : Own W B0 e sz v xs) : some B ≠ v.ownBlock := by
  obtain ⟨n, hr⟩ := hr
  exact h.not_row hte hr
theorem Own.not_cells {W : World} {B0 : Nat} {e : TypeId} {sz : Nat} {v : Value} {xs : List Value} (h : Own W B0 e sz v xs) {k : Nat} {o : Obj} (hk : W.heap[k]? = some o) (ho : o.isCells = false) : some k ≠ v.ownBlock := fun e' => by
  obtain ⟨cur, hc⟩ := h.typed e'.symm
  rw [hk] at hc
  cases hc
  cases ho
theorem keeps_own {W W' : World} {B0 : Nat} {e : TypeId} {sz : Nat} {v : Value} {xs : List Value} (h : Own W B0 e sz v xs) (hg : W.grownBy W' v.ownBlock) (B : Nat) : KeepsFrom B W W' :=
  ⟨hg.size, fun k _ _ hk ho => (hg.block k (Array.getElem?_eq_some_iff.1 hk).1 (h.not_cells hk ho)).trans hk⟩
theorem keeps_walks {W W' : World} (h : KeepsFrom 0 W W') : KeepsWalks W W' := ⟨h.size, fun k o hk ho => h.same k o (Nat.zero_le _) hk (Obj.not_cells_of_walk ho)⟩
theorem keeps_up {W W' : World} (h : KeepsFrom 0 W W') (B : Nat) : KeepsFrom B W W' := ⟨h.size, fun k o _ hk ho => h.same k o (Nat.zero_le _) hk ho⟩

end Go.Proofs.Ytfhonficpccegaa
namespace Go.Proofs.Ytfhonficpccegaa
open Go Go.RowKit Go.Maps

/-- What is left alone where blocks of M, and rows of e from B on, may turn. -/
def QK (e : TypeId) (M : Nat → Prop) (B : Nat) (w : World) (x : Nat) : Prop := x < B ∨ (¬ M x ∧ x < w.heap.size ∧ ∀ cs, w.heap[x]? ≠ some (.cells cs e (0, 0)))
abbrev QKept (e : TypeId) (M : Nat → Prop) (B : Nat) (w w' : World) : Prop := Kept (QK e M B w) w w'
section
variable {e : TypeId} {M : Nat → Prop} {w w' w'' : World} {B : Nat}
theorem QKept.below (h : QKept e M B w w') : Below B w w' := Kept.below h fun _ hx => .inl hx
theorem QKept.next (h : QKept e M B w w') (k : QKept e M B w' w'') : QKept e M B w w'' := Kept.trans h (Kept.mono k fun x hx => by
  rcases hx with hx | ⟨h1, h2, h3⟩
  · exact .inl hx
  · refine .inr ⟨h1, Nat.lt_of_lt_of_le h2 h.size, fun cs => ?_⟩
    rw [h.block x (.inr ⟨h1, h2, h3⟩)]
    exact h3 cs)
theorem QKept.of (h : Below w.heap.size w w') (hB : B ≤ w.heap.size) : QKept e M B w w' := Below.kept h fun x hx => by
  rcases hx with hx | ⟨_, h2, _⟩
  · omega
  · exact h2
theorem QKept.box (h : QKept e M B w w') {x : Nat} {cs : Array Value} {t : TypeId} (hx : Blk w x cs t) (he : t ≠ e) (hb : ¬ M x) : Blk w' x cs t := Kept.blk h hx (.inr ⟨hb, hx.lt, fun cs' h' => by
  rw [show w.heap[x]? = _ from hx] at h'
  injection h' with h'
  injection h' with _ h2 _
  exact he h2⟩)
theorem QKept.turned {b : Nat} (h : Turned w w' b) (hb : M b) (hB : B ≤ b) : QKept e M B w w' := h.kept.mono fun x hx => by
  rcases hx with hx | ⟨h1, _⟩
  · show x ≠ b; omega
  · show x ≠ b; exact fun e => h1 (e ▸ hb)
/-- Behind an append to a row of the call's own. -/
theorem QKept.grown {v : Value} {sz : Nat} {xs : List Value} (ho : Own w B e sz v xs) (hg : w.grownBy w' v.ownBlock) (hB : B ≤ w.heap.size) : QKept e M B w w' := ⟨hg.os, hg.tape, hg.output, hg.size, fun x hx => by
  rcases hx with hx | ⟨_, h2, h3⟩
  · exact hg.block x (by omega) (fun e => by have := (ho.block x e.symm).1; omega)
  · refine hg.block x h2 (fun e => ?_)
    obtain ⟨n, ho⟩ := ho
    rcases ho.2 with ⟨rfl, _⟩ | ⟨g', cap, cur, rfl, hbg, hg', r⟩
    · cases e
    · injection e with e
      subst e
      exact h3 _ hg'⟩
end

/-- The law of append to a row of the call's own in a drawn region; where its result lies. -/
theorem wp_ownw {P : Program} {w : World} {o : Oper} {a : Act} {K : Act → World → Prop} {Q : Exit → Act → World → Prop} {t e : TypeId} {size bytes : Nat} (E : ElemT P t e size bytes)
    (s x : Operand) (hop : o.op = Op.call { callee := Callee.builtin Builtin.append, args := #[s, x], argTypes := #[t, t] })
    {B : Nat} {v : Value} {xs : List Value} (hs : a.eval s = v) (hown : Own w B e size v xs) {ad : Addr} {m c : Nat} {news : List Value} (hx : a.eval x = .slice (some ad) m c) (hn : news.length = m * size)
    (hc : ∀ j u, news[j]? = some u → w.cell? (ad.add j) = some u) (h1 : ∀ u ∈ news, u.oneCell' = true)
    (hlen : xs.length + news.length ≤ 9223372036854775807) (hbytes : (xs.length + news.length) * bytes ≤ 140737488355328) (hB : B ≤ w.heap.size)
    (h : ∀ v' w', Own w' B e size v' (xs ++ news) → (∀ g, v'.ownBlock = some g → v.ownBlock = some g ∨ w.heap.size ≤ g) → w.grownBy w' v.ownBlock → K (a.put o.dst v') w') : o.wp P a w K Q := by
  obtain ⟨hund, ⟨i, z, hi, hz, h4, h5, h6⟩, hpos⟩ := E
  obtain ⟨k, hown⟩ := hown
  have e1 : ∀ k l : Nat, k ≤ l * size → l * size ≤ k → l ≤ k := fun k l _ hb => Nat.le_trans (Nat.le_mul_of_pos_right l hpos) hb
  have hnl : k ≤ xs.length := e1 _ _ (Nat.le_of_eq hown.1) (Nat.le_of_eq hown.1.symm)
  have hml : m ≤ news.length := e1 _ _ (Nat.le_of_eq hn) (Nat.le_of_eq hn.symm)
  have hb47 : (k + m) * bytes ≤ 140737488355328 := Nat.le_trans (Nat.mul_le_mul_right _ (by omega)) hbytes
  subst h4
  subst h5
  obtain ⟨v', w', hrun, r1, r2, _⟩ := run_append_own (P := P) w B t o.type e i z i.size i.bytes hund hi hz rfl rfl h6 hpos v k xs hown ad m c news hn hc h1 (by unfold maxLen; omega) hb47 hB
  have r3 := append_where B t o.type e i z hund hi hz v k xs hown ad m c news hn hc h1 (by unfold maxLen; omega) hb47 hrun
  unfold Oper.wp
  simp [execOp, hop, resolve, invoke, builtin, hs, hx, hrun, Result.andThen]
  exact h v' w' ⟨_, r1⟩ r3 r2

/-- The law of append to a row of the call's own, whatever is appended. -/
theorem wpList_own2 {P : Program} {w : World} {ops : Array Oper} {rest : List Oper} {o : Oper} {a : Act} {Q : Exit → Act → World → Prop} {t e : TypeId} {size bytes : Nat} (E : ElemT P t e size bytes)
    (hg : o.guard = none) (s x : Operand) (hop : o.op = Op.call { callee := Callee.builtin Builtin.append, args := #[s, x], argTypes := #[t, t] })
    {B : Nat} {v : Value} {xs : List Value} (hs : a.eval s = v) (hown : Own w B e size v xs) {T : Nat → Prop} {y : Value} {news : List Value} (hx : a.eval x = y) (hy : Sl T w size y news) (h1 : ∀ u ∈ news, u.oneCell' = true)
    (hlen : xs.length + news.length ≤ 9223372036854775807) (hbytes : (xs.length + news.length) * bytes ≤ 140737488355328) (hB : B ≤ w.heap.size)
    (K : ∀ v' w', Own w' B e size v' (xs ++ news) → Below B w w' → w.grownBy w' v.ownBlock → wpList P ops Q rest (a.put o.dst v') w') : wpList P ops Q (o :: rest) a w :=
  wpList_plain hg fun K' hK' => wp_own E s x hop hs hown hx hy h1 hlen hbytes hB fun v' w' h2 h3 h4 => hK' _ _ (K v' w' h2 h3 h4)

end Go.Proofs.Ytfhonficpccegaa
