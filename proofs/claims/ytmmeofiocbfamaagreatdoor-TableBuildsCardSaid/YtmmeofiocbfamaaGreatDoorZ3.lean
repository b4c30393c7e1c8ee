/- Look-ups in maps, as the walk wants them. Rows of the call's own beside one another: blocks of different element types are different blocks. frame's table. The walks of codec.Put and sentryref02.Put. The walks of sentryref02.Put and codec.Get; what Get tells of what Put wrote. No condition: lemmas. -/
import Derived.Laws.BitsAllLaws
import Derived.Deep.WholeRow
import Derived.Deep.DeepMust
import Derived.Laws.Tables
import Derived.Laws.CopyOwn
import Derived.Test.YtmmeofiocbfamaaGreatDoorZ2
import Derived.Test.YtmmeofiocbfamaaGreatDoorZ1
import Derived.Test.YtmmeofiocbfamaaGreatDoorZ0
namespace Go.Proofs.YtmmeofiocbfamaaGreatDoor
open Go Go.RowKit
open Go.Maps (Keyed)

variable {P : Program} (w : World) {ops : Array Oper} {rest : List Oper} {o : Oper} {a : Act} {Q : Exit → Act → World → Prop} {κ α : Type} {kv : κ → Value} {ev : α → Value} {b : Nat} {l : List (κ × α)}

/-- 'v, ok := m[k]' where the key is there, and where it isn't. -/
theorem wpList_mp_some [DecidableEq κ] (hg : o.guard = none) (m x : Operand) (t : TypeId) (hop : o.op = Op.lookup t m x true) {k e : TypeId} (K : Keyed P k) (inj : ∀ a b, kv a = kv b → a = b) (ht : P.underlying t = some (.map k e))
    {z : Value} (hz : (zeroValue e).run P w = .ok z w) (hm : a.eval m = .map (some b)) (h : Mp P k kv ev w b l) {y : κ} (hx : a.eval x = kv y) (hk : ∃ q, keyOf P k (kv y) = some q) {r : α} (hr : lookA l y = some r)
    (hK : wpList P ops Q rest (a.put o.dst (.tuple #[ev r, .bool true])) w) : wpList P ops Q (o :: rest) a w := wpList_mp_look w hg m x t hop K inj ht hz hm h hx hk hr hK
theorem wpList_mp_none [DecidableEq κ] (hg : o.guard = none) (m x : Operand) (t : TypeId) (hop : o.op = Op.lookup t m x true) {k e : TypeId} (K : Keyed P k) (inj : ∀ a b, kv a = kv b → a = b) (ht : P.underlying t = some (.map k e))
    {z : Value} (hz : (zeroValue e).run P w = .ok z w) (hm : a.eval m = .map (some b)) (h : Mp P k kv ev w b l) {y : κ} (hx : a.eval x = kv y) (hk : ∃ q, keyOf P k (kv y) = some q) (hr : lookA l y = none)
    (hK : wpList P ops Q rest (a.put o.dst (.tuple #[z, .bool false])) w) : wpList P ops Q (o :: rest) a w := wpList_mp_look w hg m x t hop K inj ht hz hm h hx hk hr hK
/-- 'm[k]' alone. -/
theorem wpList_mp_get [DecidableEq κ] (hg : o.guard = none) (m x : Operand) (t : TypeId) (hop : o.op = Op.lookup t m x false) {k e : TypeId} (K : Keyed P k) (inj : ∀ a b, kv a = kv b → a = b) (ht : P.underlying t = some (.map k e))
    {z : Value} (hz : (zeroValue e).run P w = .ok z w) (hm : a.eval m = .map (some b)) (h : Mp P k kv ev w b l) {y : κ} (hx : a.eval x = kv y) (hk : ∃ q, keyOf P k (kv y) = some q) {r : Value} (hr : (match lookA l y with | some u => ev u | none => z) = r)
    (hK : wpList P ops Q rest (a.put o.dst r) w) : wpList P ops Q (o :: rest) a w := wpList_mp_look w hg m x t hop K inj ht hz hm h hx hk rfl (by
      have : lookV false z ev (lookA l y) = r := by rw [← hr]; cases lookA l y <;> rfl
      rw [this]; exact hK)

theorem setUp {B b i : Nat} {w w' : World} (h : Below B w w') (hb : B ≤ b) (v : Value) : Below B w (w'.setCell ⟨b, i, none⟩ v) := h.setCell hb v

theorem set5_block {W : World} {B b i0 i1 i2 i3 i4 : Nat} {v0 v1 v2 v3 v4 : Value} (h : b ≠ B) :
    (((((W.setCell ⟨B, i0, none⟩ v0).setCell ⟨B, i1, none⟩ v1).setCell ⟨B, i2, none⟩ v2).setCell ⟨B, i3, none⟩ v3).setCell ⟨B, i4, none⟩ v4).heap[b]? = W.heap[b]? := by
  rw [Below.heap_setCell _ _ _ b h, Below.heap_setCell _ _ _ b h, Below.heap_setCell _ _ _ b h, Below.heap_setCell _ _ _ b h, Below.heap_setCell _ _ _ b h]

end Go.Proofs.YtmmeofiocbfamaaGreatDoor
namespace Go.Proofs.YtmmeofiocbfamaaGreatDoor
open Go Go.RowKit

section
variable {w w' : World} {B B' p : Nat} {e e' : TypeId} {sz sz' : Nat} {v v' : Value} {xs xs' : List Value} {cs : Array Value}
theorem Own.typed (h : Own w B e sz v xs) {g : Nat} (hg : v.ownBlock = some g) : ∃ cur, w.heap[g]? = some (.cells cur e (0, 0)) := by
  obtain ⟨n, _, h2⟩ := h
  rcases h2 with ⟨rfl, _⟩ | ⟨g', cap, cur, rfl, _, hh, _⟩
  · cases hg
  · obtain rfl : g' = g := Option.some.inj hg
    exact ⟨cur, hh⟩
theorem Own.keepOwn (h : Own w B e sz v xs) (hs : ∀ g, v.ownBlock = some g → w'.heap[g]? = w.heap[g]?) : Own w' B e sz v xs := by
  obtain ⟨n, h1, h2⟩ := h
  refine ⟨n, h1, ?_⟩
  rcases h2 with h2 | ⟨g, cap, cur, rfl, hb, hh, r⟩
  · exact .inl h2
  · exact .inr ⟨g, cap, cur, rfl, hb, (hs g rfl).trans hh, r⟩
theorem Own.aside (h : Own w B e sz v xs) (k : Own w B' e' sz' v' xs') (hne : e ≠ e') (hg : w.grownBy w' v'.ownBlock) : Own w' B e sz v xs :=
  h.keepOwn fun g hv => hg.block g (h.block g hv).2 fun hv' => by
    obtain ⟨c1, h1⟩ := h.typed hv
    obtain ⟨c2, h2⟩ := k.typed hv'.symm
    rw [h1] at h2
    exact hne (by injection Option.some.inj h2)
theorem Blk.aside (h : Blk w p cs e) (k : Own w B' e' sz' v' xs') (hne : e ≠ e') (hg : w.grownBy w' v'.ownBlock) : Blk w' p cs e :=
  (hg.block p h.lt fun hv' => by
    obtain ⟨c2, h2⟩ := k.typed hv'.symm
    have h1 : w.heap[p]? = some (.cells cs e (0, 0)) := h
    rw [h1] at h2
    exact hne (by injection Option.some.inj h2)).trans h

theorem blk_set6 {a0 a1 a2 a3 a4 a5 b0 b1 b2 b3 b4 b5 : Value} (h : Blk w p #[a0, a1, a2, a3, a4, a5] e) :
    Blk ((((((w.setCell ⟨p, 0, none⟩ b0).setCell ⟨p, 1, none⟩ b1).setCell ⟨p, 2, none⟩ b2).setCell ⟨p, 3, none⟩ b3).setCell ⟨p, 4, none⟩ b4).setCell ⟨p, 5, none⟩ b5) p #[b0, b1, b2, b3, b4, b5] e :=
  (((((h.set 0 b0).set 1 b1).set 2 b2).set 3 b3).set 4 b4).set 5 b5
theorem own_set6 {b0 b1 b2 b3 b4 b5 : Value} (h : Own w B e sz v xs) (hp : Blk w p cs e') (hne : e ≠ e') :
    Own ((((((w.setCell ⟨p, 0, none⟩ b0).setCell ⟨p, 1, none⟩ b1).setCell ⟨p, 2, none⟩ b2).setCell ⟨p, 3, none⟩ b3).setCell ⟨p, 4, none⟩ b4).setCell ⟨p, 5, none⟩ b5) B e sz v xs :=
  h.keepOwn fun g hv => by
    have hgp : g ≠ p := by
      rintro rfl
      obtain ⟨c1, h1⟩ := h.typed hv
      have h2 : w.heap[g]? = some (.cells cs e' (0, 0)) := hp
      rw [h1] at h2
      exact hne (by injection Option.some.inj h2)
    rw [Below.heap_setCell _ _ _ g hgp, Below.heap_setCell _ _ _ g hgp, Below.heap_setCell _ _ _ g hgp, Below.heap_setCell _ _ _ g hgp, Below.heap_setCell _ _ _ g hgp, Below.heap_setCell _ _ _ g hgp]
theorem below_set6 {w0 : World} {b0 b1 b2 b3 b4 b5 : Value} (h : Below B w0 w) (hp : B ≤ p) :
    Below B w0 ((((((w.setCell ⟨p, 0, none⟩ b0).setCell ⟨p, 1, none⟩ b1).setCell ⟨p, 2, none⟩ b2).setCell ⟨p, 3, none⟩ b3).setCell ⟨p, 4, none⟩ b4).setCell ⟨p, 5, none⟩ b5) :=
  setUp (setUp (setUp (setUp (setUp (setUp h hp _) hp _) hp _) hp _) hp _) hp _
end

section
variable {P : Program} {ops : Array Oper} {Q : Exit → Act → World → Prop} {S : World → Prop}
theorem WalkN.three {f : Nat} {l : Array Bool} {a : Act} {w : World} (i j m : Nat) (hr : Region.ready .any ops l = [i, j, m]) (h : MadeN P ops Q S f l a w i) (h' : MadeN P ops Q S f l a w j) (h'' : MadeN P ops Q S f l a w m) : WalkN P ops Q S (f + 1) l a w := by
  refine .inr (.inr ⟨by rw [hr]; simp, fun k hk => ?_⟩)
  rw [hr] at hk
  have : k = i ∨ k = j ∨ k = m := by simpa using hk
  rcases this with rfl | rfl | rfl
  · obtain ⟨o, ho, hw, h⟩ := h
    exact ⟨o, ho, fun K hK => by rw [if_pos hw]; exact h K hK⟩
  · obtain ⟨o, ho, hw, h⟩ := h'
    exact ⟨o, ho, fun K hK => by rw [if_pos hw]; exact h K hK⟩
  · obtain ⟨o, ho, hw, h⟩ := h''
    exact ⟨o, ho, fun K hK => by rw [if_pos hw]; exact h K hK⟩
end

end Go.Proofs.YtmmeofiocbfamaaGreatDoor
namespace Go.Proofs.YtmmeofiocbfamaaGreatDoor
open Go Go.RowKit

theorem crc_form {s : Nat} (h : s < 2 ^ 32) : bits .xor .u32 (s / 2 : Int) (bits .and .u32 3988292384 (-(bits .and .u32 (s : Int) 1) % 4294967296)) = ((crcS s : Nat) : Int) := by
  have e1 : bits .and .u32 (s : Int) 1 = ((s % 2 : Nat) : Int) := by
    have := u32_and_nat s 1 (by omega) (by decide)
    rw [nat_mask1] at this
    exact this
  have e2 : ((s : Int) / 2) = ((s / 2 : Nat) : Int) := by omega
  rw [e1]
  unfold crcS
  rcases Nat.mod_two_eq_zero_or_one s with h0 | h0
  · rw [h0, if_neg (by decide), show bits .and .u32 3988292384 (-((0 : Nat) : Int) % 4294967296) = ((0 : Nat) : Int) from by kernel_rfl, e2, u32_xor_nat _ _ (by omega) (by decide), Nat.xor_zero]
  · rw [h0, if_pos rfl, show bits .and .u32 3988292384 (-((1 : Nat) : Int) % 4294967296) = ((3988292384 : Nat) : Int) from by kernel_rfl, e2, u32_xor_nat _ _ (by omega) (by decide)]
/-- The table, as far as it has come. -/
def tabC (i : Nat) : Array Value := (((List.range i).map fun j => Value.int .u32 ((crcN 8 j : Nat) : Int)) ++ List.replicate (256 - i) (Value.int .u32 0)).toArray
theorem tabC_size {i : Nat} (h : i ≤ 256) : (tabC i).size = 256 := by unfold tabC; simp; omega
theorem tabC_zero : tabC 0 = Array.replicate 256 (.int .u32 0) := by
  unfold tabC
  rw [← Array.toList_inj, Array.toList_replicate]
  rfl
theorem tabC_set {i : Nat} (h : i < 256) : (tabC i).setIfInBounds i (.int .u32 ((crcN 8 i : Nat) : Int)) = tabC (i + 1) := by
  unfold tabC
  rw [← Array.toList_inj, Array.toList_setIfInBounds]
  simp only [List.toList_toArray]
  rw [List.set_append_right _ _ (by simp), List.length_map, List.length_range, Nat.sub_self, show 256 - i = (256 - (i + 1)) + 1 from by omega, List.replicate_succ, List.set_cons_zero, List.range_succ, List.map_append, List.append_assoc]
  rfl
theorem tabC_next {i : Nat} (h : i < 256) : (tabC i)[i]? = some (.int .u32 0) := by
  unfold tabC
  rw [List.getElem?_toArray, List.getElem?_append_right (by simp), List.length_map, List.length_range, Nat.sub_self, List.getElem?_replicate_of_lt (by omega)]
theorem tabC_at {i j : Nat} (h : j < i) : (tabC i)[j]? = some (.int .u32 ((crcN 8 j : Nat) : Int)) := by
  unfold tabC
  rw [List.getElem?_toArray, List.getElem?_append_left (by simpa using h), List.getElem?_map, List.getElem?_range h]
  rfl
theorem tabC_one (i : Nat) : (tabC i).all (·.oneCell') = true := by
  rw [Array.all_eq_true_iff_forall_mem]
  intro v hv
  unfold tabC at hv
  simp only [List.mem_toArray, List.mem_append, List.mem_map] at hv
  rcases hv with ⟨j, _, rfl⟩ | hv
  · rfl
  · rw [(List.mem_replicate.1 hv).2]; rfl
theorem zero115 : (Tryz.prog.info? 121).map (fun i => (i.zero, i.size)) = some (some (.agg (Array.replicate 256 (.int .u32 0))), 256) := by kernel_rfl

set_option maxRecDepth 1000000 in
set_option maxHeartbeats 1000000 in
theorem table_any (w : World) : Calls Tryz.prog 84 #[] w fun e w' => e = .returned (.agg (tabC 256)) ∧ Ext w w' := by
  have hz := (zero_of_info zero115).1
  go_enter Tryz.func84, Tryz.ntmps84
  go_wp2_with fail
  obtain ⟨w1, hw1⟩ : ∃ x, x = w.alloc (.cells (Array.replicate 256 (.int .u32 0)) 121) := ⟨_, rfl⟩
  obtain ⟨w2, hw2⟩ : ∃ x, x = w1.alloc (.cells (Array.replicate 256 (.int .u32 0)) 121) := ⟨_, rfl⟩
  have e1 : w1.heap.size = w.heap.size + 1 := by rw [hw1]; simp
  have x1 : Ext w w1 := by rw [hw1]; exact Ext.alloc _ _
  have x2 : Ext w1 w2 := by rw [hw2]; exact Ext.alloc _ _
  have HB0 := Lib.hid (show Blk w2 w.heap.size (Array.replicate 256 (.int .u32 0)) 121 from Blk.below (by rw [hw1]; exact Blk.made _ _ _) x2)
  have HB1 := Lib.hid (show Blk w2 (w.heap.size + 1) (tabC 0) 121 from by rw [hw2, ← e1, tabC_zero]; exact Blk.made _ _ _)
  have HX := Lib.hid (show Ext w w2 from x1.trans x2)
  rw [← hw1, ← hw2]
  clear hw1 hw2 e1 x1 x2
  obtain ⟨b0, hb0⟩ : ∃ x, x = w.heap.size := ⟨_, rfl⟩
  rw [← hb0] at HB0 HB1 ⊢
  have HBW := Lib.hid (show w.heap.size ≤ b0 from by omega)
  clear hb0 hz
  go_loopw [4] (fun iv wr => ∃ i : Nat, i ≤ 256 ∧ iv = .int .i64 i ∧ Blk wr (b0 + 1) (tabC i) 121 ∧ Blk wr b0 (Array.replicate 256 (.int .u32 0)) 121 ∧ Ext w wr) (fun iv _ => 256 - (intOf iv).toNat)
  case atStart => exact ⟨0, by omega, rfl, HB1.out, HB0.out, HX.out⟩
  case round =>
    obtain ⟨i, hi, rfl, hb1, hb0, hx⟩ := hrel
    have H1 := Lib.hid hb1
    have H0 := Lib.hid hb0
    have HE := Lib.hid hx
    clear HB0 HB1 HX hb1 hb0 hx
    by_cases hlt : i < 256
    · go_wp2_with fail
      go_loopw [3, 9] (fun sv kv wq => ∃ k s : Nat, k ≤ 8 ∧ kv = .int .i64 k ∧ sv = .int .u32 s ∧ s < 2 ^ 32 ∧ crcN (8 - k) s = crcN 8 i ∧ wq = wr) (fun _ kv _ => 8 - (intOf kv).toNat)
      case atStart => exact ⟨0, i, by omega, rfl, by rfl, by omega, rfl, rfl⟩
      case round =>
        obtain ⟨k, s, hk, rfl, rfl, hs, hcr, rfl⟩ := hrel
        have HCR := Lib.hid hcr
        have HS := Lib.hid hs
        clear hcr
        by_cases hkl : k < 8
        · have HF := Lib.hid (crc_form hs)
          have HN := Lib.hid (show crcN (8 - (k + 1)) (crcS s) = crcN 8 i from by rw [← HCR.out, show 8 - k = (8 - (k + 1)) + 1 from by omega]; rfl)
          have HL := Lib.hid (crcS_lt hs)
          go_wp2_with fail
          go_roundw
          case rel => exact ⟨k + 1, crcS s, by omega, by go_num, congrArg (Value.int .u32) HF.out, HL.out, HN.out, trivial⟩
          case measure => simp [intOf]; omega
        · obtain rfl : k = 8 := by omega
          obtain rfl : s = crcN 8 i := HCR.out
          have c1 := (H1.out.cells i).trans (tabC_next hlt)
          have f1 := H1.out.free i
          have hi0 : (0 : Int) ≤ (i : Int) := by omega
          have HS1 := Lib.hid (H1.out.set_to (cs' := tabC (i + 1)) i (.int .u32 ((crcN 8 i : Nat) : Int)) (tabC_set hlt))
          have HS0 := Lib.hid (H0.out.other (a := ⟨b0 + 1, i, none⟩) (show b0 ≠ b0 + 1 by omega) (.int .u32 ((crcN 8 i : Nat) : Int)))
          have HSE := Lib.hid (show Ext w (wr.setCell ⟨b0 + 1, i, none⟩ (.int .u32 ((crcN 8 i : Nat) : Int))) from Below.setCell HE.out (by have := HBW.out; show w.heap.size ≤ b0 + 1; omega) _)
          go_wp2_with fail
          go_roundw
          case rel => exact ⟨i + 1, by omega, by go_num, HS1.out, HS0.out, HSE.out⟩
          case measure => simp [intOf]; omega
    · obtain rfl : i = 256 := by omega
      have hsz : (Tryz.prog.info? 121).map (·.size) = some (tabC 256).size := by rw [tabC_size (Nat.le_refl _)]; exact (zero_of_info zero115).2
      have HSZ := Lib.hid hsz
      clear hsz
      go_wp2_with (first
        | (refine wpList_load_row rfl 121 (.tmp 1) rfl (b0 + 1) rfl 121 (tabC 256) (0, 0) _ H1.out Tryz.underlying121 rfl HSZ.out ?_)
        | (refine wpList_store_row rfl 121 (.tmp 0) (.tmp 23) rfl b0 (tabC 256) rfl rfl 121 (Array.replicate 256 (.int .u32 0)) H0.out HSZ.out (by rw [tabC_size (Nat.le_refl _), Array.size_replicate]) (tabC_one 256) ?_))
      exact bodyPost_ret (v := .agg (tabC 256)) (results_cell_row rfl _ _ b0 121 (tabC 256) (0, 0) _ rfl (setRow_heap _ _ _ _ _ _ H0.out) Tryz.underlying121 rfl HSZ.out) rfl ⟨rfl, below_setRow HE.out HBW.out _⟩

end Go.Proofs.YtmmeofiocbfamaaGreatDoor
namespace Go.Proofs.YtmmeofiocbfamaaGreatDoor
open Go Go.RowKit

/-- Bytes as cells. -/
def bc (l : List UInt8) : List Value := l.map fun c => .int .u8 c.toNat
theorem bc_append (a b : List UInt8) : bc (a ++ b) = bc a ++ bc b := by simp [bc]
theorem bc_length (a : List UInt8) : (bc a).length = a.length := by simp [bc]
theorem bc_one (a : List UInt8) : ∀ u ∈ bc a, u.oneCell' = true := by
  intro u hu
  obtain ⟨_, _, rfl⟩ := List.mem_map.1 hu
  rfl

theorem bytesT : ElemT Tryz.prog 24 5 1 1 := ElemT.mk' Tryz.underlying24 (show _ = some (some (.int .u8 0), 1, 1) by kernel_rfl) rfl (by decide)

/-- P2.1: a number as bytes. -/
def putB (q : Nat) : List UInt8 := if q < 128 then [UInt8.ofNat q] else UInt8.ofNat (q % 128 + 128) :: putB (q / 128)
termination_by q
decreasing_by omega

theorem putB_small {q : Nat} (h : q < 128) : putB q = [UInt8.ofNat q] := by rw [putB, if_pos h]
theorem putB_big {q : Nat} (h : 128 ≤ q) : putB q = UInt8.ofNat (q % 128 + 128) :: putB (q / 128) := by rw [putB, if_neg (by omega)]

theorem bc_putB_big {q : Nat} (h : 128 ≤ q) : bc (putB q) = .int .u8 ((UInt8.ofNat (q % 128 + 128)).toNat : Int) :: bc (putB (q / 128)) := by rw [putB_big h]; rfl

theorem putB_length (k : Nat) : ∀ q : Nat, q < 128 ^ (k + 1) → (putB q).length ≤ k + 1 := by
  induction k with
  | zero => intro q h; rw [putB_small (by simpa using h)]; simp
  | succ k ih =>
    intro q h
    by_cases h1 : q < 128
    · rw [putB_small h1]; simp
    · rw [putB_big (by omega)]
      have := ih (q / 128) (by rw [Nat.pow_succ] at h; omega)
      simp; omega

theorem putB_pos (q : Nat) : 0 < (putB q).length := by
  by_cases h : q < 128
  · rw [putB_small h]; simp
  · rw [putB_big (by omega)]; simp

/-- Below 2^64. -/
def U64 (q : Nat) : Prop := q < 18446744073709551616
theorem U64.lt {q : Nat} (h : U64 q) : q < 18446744073709551616 := h
theorem U64.len {q : Nat} (h : U64 q) : (putB q).length ≤ 10 := putB_length 9 q (by have := h.lt; omega)

theorem U64.div {q : Nat} (h : U64 q) (k : Nat) : U64 (q / k) := Nat.lt_of_le_of_lt (Nat.div_le_self _ _) h
theorem U64.wrap {q : Nat} (h : U64 q) : IntKind.u64.wrap (q : Int) = (q : Int) := by
  have := h.lt
  simp only [IntKind.wrap, IntKind.bits, IntKind.signed, Bool.false_and, Bool.false_eq_true, if_false]
  omega
theorem U64.wrapDiv {q : Nat} (h : U64 q) (k : Nat) : IntKind.u64.wrap ((q : Int) / (k : Int)) = (q : Int) / (k : Int) := (h.div k).wrap

set_option maxRecDepth 100000 in
theorem or128 (q : Nat) : bits BinOp.or IntKind.u8 ((q : Int) % 256) 128 = ((UInt8.ofNat (q % 128 + 128)).toNat : Int) := by
  have e1 : (q : Int) % 256 = ((q % 256 : Nat) : Int) := by omega
  have e2 : q % 128 = (q % 256) % 128 := by omega
  rw [e1, e2]
  have h : q % 256 < 256 := Nat.mod_lt _ (by decide)
  generalize q % 256 = r at h
  revert r
  decide

theorem ofNat_toNat (q : Nat) (h : q < 256) : (((UInt8.ofNat q).toNat : Nat) : Int) = q := by
  have : (UInt8.ofNat q).toNat = q := by simp; omega
  rw [this]

/-- It returns a slice that may be appended to and reads as xs; nothing that was there has turned. -/
def RetApp (w : World) (e sz : Nat) (xs : List Value) (en : Ending) (w' : World) : Prop := ∃ v, en = .returned v ∧ App w' w.heap.size e sz v xs ∧ Below w.heap.size w w'

set_option maxRecDepth 100000 in
set_option maxHeartbeats 400000 in
theorem put_any (b : Value) (xs : List UInt8) (q : Nat) (w : World) (hb : Sl (· < w.heap.size) w 1 b (bc xs)) (hx : xs.length ≤ 100000000) (hq : U64 q) :
    Calls Tryz.prog 59 #[b, .int .u64 q] w (RetApp w 5 1 (bc (xs ++ putB q))) := by
  have hlen := hq.len
  have HX : Hid (bc (xs ++ putB q) = bc xs ++ bc (putB q)) := bc_append _ _
  have hxl := bc_length xs
  generalize bc xs = cs at *
  obtain ⟨ao, n, c, rfl, hn, hnc, hc, hnone, hcell⟩ := id hb
  have hc' : c ≤ 9223372036854775807 := by unfold maxLen at hc; omega
  have hcn : cs.length ≤ 100000000 := by omega
  have happ0 : App w w.heap.size 5 1 (.slice ao n n) cs := App.full ⟨ao, n, n, rfl, hn, Nat.le_refl _, by omega, fun h => by have := hnone h; omega, hcell⟩
  have HN := Lib.hid hn
  clear hn hcell hb hxl
  go_enter Tryz.func59, Tryz.ntmps59
  go_wp2
  go_loopw [0, 1] (fun bb vv wr => ∃ (r : Nat) (ys : List Value), vv = .int .u64 r ∧ ys ++ bc (putB r) = cs ++ bc (putB q) ∧ App wr w.heap.size 5 1 bb ys ∧ Below w.heap.size w wr) (fun _ vv _ => (intOf vv).toNat)
  case atStart => exact ⟨q, cs, rfl, rfl, happ0, Below.refl _ _⟩
  case round =>
    obtain ⟨r, ys, rfl, hys, happ, hbel⟩ := hrel
    have hyl : ys.length ≤ 100000010 := by
      have := congrArg List.length hys
      simp only [List.length_append, bc_length] at this
      omega
    have HY := Lib.hid hys
    have hbs := hbel.size
    clear hys
    by_cases hr : r < 128
    all_goals
      go_wp2_with (first | (at_builtin; refine wpList_app_lit bytesT rfl (.tmp 15) (.tmp 19) rfl rfl happ rfl rfl (by simp [Value.oneCell']) (by simp; omega) (by simp; omega) hbs ?_; intro v1 w1 happ1 hb1 _) | (at_builtin; refine wpList_app_lit bytesT rfl (.tmp 21) (.tmp 24) rfl rfl happ rfl rfl (by simp [Value.oneCell']) (by simp; omega) (by simp; omega) hbs ?_; intro v1 w1 happ1 hb1 _))
    · go_ret
      rw [HX.out, ← HY.out, putB_small hr]
      rw [← ofNat_toNat r (by omega)] at happ1
      exact ⟨_, rfl, by rw [show bc [UInt8.ofNat r] = [Value.int .u8 ((UInt8.ofNat r).toNat : Int)] from rfl]; exact happ1, hbel.trans hb1⟩
    · go_roundw
      case rel =>
        rw [or128] at happ1
        exact ⟨r / 128, _, by go_num, by rw [← HY.out, bc_putB_big (show 128 ≤ r by omega), List.append_assoc]; rfl, happ1, hbel.trans hb1⟩
      case measure => simp [intOf]; omega

end Go.Proofs.YtmmeofiocbfamaaGreatDoor
namespace Go.Proofs.YtmmeofiocbfamaaGreatDoor
open Go Go.RowKit

set_option maxRecDepth 100000 in
set_option maxHeartbeats 400000 in
theorem refPut_any (b : Value) (xs : List UInt8) (q : Nat) (w : World) (hb : Sl (· < w.heap.size) w 1 b (bc xs)) (hx : xs.length ≤ 100000000) (hq : U64 q) :
    Calls Tryz.prog 35 #[b, .int .u64 q] w (RetApp w 5 1 (bc (xs ++ putB q))) := by
  have hlen := hq.len
  have HX : Hid (bc (xs ++ putB q) = bc xs ++ bc (putB q)) := bc_append _ _
  have hone := bc_one xs
  have hxl := bc_length xs
  generalize bc xs = cs at *
  have hcn : cs.length ≤ 100000000 := by omega
  have happ0 : App (w.alloc (.cells #[] 5)) w.heap.size 5 1 (.slice (some ⟨w.heap.size, 0, none⟩) 0 0) [] := .inr ⟨_, 0, rfl, rfl, Nat.zero_le _, (fun h => by cases h), fun h => absurd rfl h⟩
  have hb1 := hb.same (w' := w.alloc (.cells #[] 5)) (fun k hk => Below.heap_alloc w _ k hk)
  have HL := Lib.hid hxl
  clear hxl hb
  go_enter Tryz.func35, Tryz.ntmps35
  go_wp2_with (at_builtin; refine wpList_app bytesT rfl (.tmp 6) (.tmp 7) rfl rfl happ0 rfl hb1 hone (by simp; omega) (by simp; omega) (by simp) ?_; intro v1 w1 happ1 hbel1 _)
  have hbel1 : Below w.heap.size w w1 := ((Below.refl _ _).alloc (Nat.le_refl _) _).trans hbel1
  clear hb1 happ0 hone
  go_loopw [5, 1] (fun bb vv wr => ∃ (r : Nat) (ys : List Value), vv = .int .u64 r ∧ U64 r ∧ ys ++ bc (putB r) = cs ++ bc (putB q) ∧ App wr w.heap.size 5 1 bb ys ∧ Below w.heap.size w wr) (fun _ vv _ => (intOf vv).toNat)
  case atStart => exact ⟨q, cs, rfl, hq, rfl, happ1, hbel1⟩
  case round =>
    obtain ⟨r, ys, rfl, hu, hys, happ, hbel⟩ := hrel
    have hw : IntKind.u64.wrap ((r : Int) / 128) = (r : Int) / 128 := hu.wrapDiv 128
    have hyl : ys.length ≤ 100000010 := by
      have := congrArg List.length hys
      simp only [List.length_append, bc_length] at this
      omega
    have HY := Lib.hid hys
    have hbs := hbel.size
    clear hys
    by_cases hr : r < 128
    all_goals
      go_wp2_with (first | (at_builtin; refine wpList_app_lit bytesT rfl (.tmp 11) (.tmp 16) rfl rfl happ rfl rfl (by simp [Value.oneCell']) (by simp; omega) (by simp; omega) hbs ?_; intro v1 w1 happ1 hb1 _) | (at_builtin; refine wpList_app_lit bytesT rfl (.tmp 20) (.tmp 23) rfl rfl happ rfl rfl (by simp [Value.oneCell']) (by simp; omega) (by simp; omega) hbs ?_; intro v1 w1 happ1 hb1 _))
    · go_ret
      rw [HX.out, ← HY.out, putB_small hr]
      rw [← ofNat_toNat r (by omega)] at happ1
      exact ⟨_, rfl, by rw [show bc [UInt8.ofNat r] = [Value.int .u8 ((UInt8.ofNat r).toNat : Int)] from rfl]; exact happ1, hbel.trans hb1⟩
    · go_roundw
      case rel =>
        rw [show ((r : Int) % 128 + 128) = ((r % 128 + 128 : Nat) : Int) from by omega, ← ofNat_toNat (r % 128 + 128) (by omega)] at happ1
        exact ⟨r / 128, _, by go_num, hu.div 128, by rw [← HY.out, bc_putB_big (show 128 ≤ r by omega), List.append_assoc]; rfl, happ1, hbel.trans hb1⟩
      case measure => simp [intOf]; omega

/-- P2.1: the number that bytes begin with: number, length, error (i bytes are read, their number is v). -/
def getG : List UInt8 → Nat → Nat → Nat × Nat × Nat
  | [], _, _ => (0, 0, 7)
  | c :: r, i, v => if (i = 9 ∧ 1 < c.toNat) ∨ (c.toNat = 0 ∧ 0 < i) then (0, 0, 9) else if c.toNat < 128 then (v + c.toNat % 128 * 2 ^ (7 * i), i + 1, 0) else getG r (i + 1) (v + c.toNat % 128 * 2 ^ (7 * i))

theorem getG_putB (rest : List UInt8) (k : Nat) : ∀ (q i v : Nat), q < 128 ^ (k + 1) → i + k = 9 → (0 < i → 0 < q) → q * 2 ^ (7 * i) < 2 ^ 64 → getG (putB q ++ rest) i v = (v + q * 2 ^ (7 * i), i + (putB q).length, 0) := by
  induction k with
  | zero =>
    intro q i v h hi hp hb
    have hi9 : i = 9 := by omega
    subst hi9
    have hq : q < 2 := by
      apply Nat.lt_of_not_le
      intro hle
      have := Nat.mul_le_mul_right (2 ^ (7 * 9)) hle
      omega
    rw [putB_small (by omega)]
    have e : (UInt8.ofNat q).toNat = q := by simp; omega
    simp only [List.cons_append, List.nil_append, getG, e, List.length_cons, List.length_nil]
    rw [if_neg (by have := hp (by omega); omega), if_pos (by omega), Nat.mod_eq_of_lt (by omega)]
  | succ k ih =>
    intro q i v h hi hp hb
    by_cases hq : q < 128
    · rw [putB_small hq]
      have e : (UInt8.ofNat q).toNat = q := by simp; omega
      simp only [List.cons_append, List.nil_append, getG, e, List.length_cons, List.length_nil]
      rw [if_neg (by omega), if_pos hq, Nat.mod_eq_of_lt hq]
    · rw [putB_big (by omega)]
      have e : (UInt8.ofNat (q % 128 + 128)).toNat = q % 128 + 128 := by simp; omega
      simp only [List.cons_append, getG, e, List.length_cons]
      have em : (q % 128 + 128) % 128 = q % 128 := by omega
      have hdm := Nat.div_add_mod q 128
      have e2 : q / 128 * 2 ^ (7 * (i + 1)) = 128 * (q / 128) * 2 ^ (7 * i) := by
        rw [show 7 * (i + 1) = 7 * i + 7 from by omega, Nat.pow_add, Nat.mul_comm 128, Nat.mul_assoc, Nat.mul_comm (2 ^ (7 * i))]
      rw [if_neg (by omega), if_neg (by omega), em, ih (q / 128) (i + 1) _ (by rw [Nat.pow_succ] at h; omega) (by omega) (by omega) (by
        rw [e2]
        have := Nat.mul_le_mul_right (2 ^ (7 * i)) (show 128 * (q / 128) ≤ q by omega)
        omega), e2]
      simp only [Prod.mk.injEq, and_true]
      refine ⟨?_, by omega⟩
      have hs : q * 2 ^ (7 * i) = (128 * (q / 128) + q % 128) * 2 ^ (7 * i) := by rw [hdm]
      rw [hs, Nat.add_mul]
      omega

theorem getG_put (q : Nat) (h : U64 q) (rest : List UInt8) : getG (putB q ++ rest) 0 0 = (q, (putB q).length, 0) := by
  have := h.lt
  rw [getG_putB rest 9 q 0 0 (by omega) (by omega) (by omega) (by omega)]
  simp

/-- What the round of Get computes. -/
theorem get_or (v i c : Nat) (hv : v < 2 ^ (7 * i)) (hi : i ≤ 9) (hc : c < 256) (h9 : i = 9 → c ≤ 1) :
    bits BinOp.or IntKind.u64 (v : Int) (IntKind.u64.wrap (IntKind.u64.wrap (bits BinOp.and IntKind.u8 (c : Int) 127) * 2 ^ (7 * i))) = ((v + c % 128 * 2 ^ (7 * i) : Nat) : Int) := by
  have h1 : bits BinOp.and IntKind.u8 (c : Int) 127 = ((c % 128 : Nat) : Int) := by
    rw [show (127 : Int) = ((127 : Nat) : Int) from rfl, u8_and_nat c 127 hc (by decide), nat_mask7]
  have hc128 : c % 128 < 128 := Nat.mod_lt _ (by decide)
  have hpow : 2 ^ (7 * i) ≤ 2 ^ 63 := Nat.pow_le_pow_right (by decide) (by omega)
  have hprod : c % 128 * 2 ^ (7 * i) < 18446744073709551616 ∧ v < 18446744073709551616 := by
    refine ⟨?_, by omega⟩
    by_cases h : i = 9
    · have := h9 h
      subst h
      have := Nat.mul_le_mul_right (2 ^ (7 * 9)) (show c % 128 ≤ 1 by omega)
      omega
    · have h8 : 2 ^ (7 * i) ≤ 2 ^ 56 := Nat.pow_le_pow_right (by decide) (by omega)
      have := Nat.mul_le_mul (show c % 128 ≤ 127 by omega) h8
      omega
  have e1 : IntKind.u64.wrap ((c % 128 : Nat) : Int) = ((c % 128 : Nat) : Int) := by rw [IntKind.wrap_u64]; omega
  have e2 : IntKind.u64.wrap (((c % 128 : Nat) : Int) * 2 ^ (7 * i)) = ((c % 128 * 2 ^ (7 * i) : Nat) : Int) := by
    rw [IntKind.wrap_u64]
    have : (((c % 128 : Nat) : Int) * 2 ^ (7 * i)) = ((c % 128 * 2 ^ (7 * i) : Nat) : Int) := by push_cast; rfl
    rw [this]
    omega
  rw [h1, e1, e2, u64_or_nat _ _ hprod.2 hprod.1, Nat.or_comm, nat_join (7 * i) _ _ (by simp) hv]
  congr 1
  omega

theorem get_bound (v i c : Nat) (hv : v < 2 ^ (7 * i)) : v + c % 128 * 2 ^ (7 * i) < 2 ^ (7 * (i + 1)) := by
  have hc : c % 128 < 128 := Nat.mod_lt _ (by decide)
  have : 2 ^ (7 * (i + 1)) = 128 * 2 ^ (7 * i) := by rw [show 7 * (i + 1) = 7 * i + 7 from by omega, Nat.pow_add]; omega
  have h2 := Nat.mul_le_mul_right (2 ^ (7 * i)) (show c % 128 ≤ 127 by omega)
  omega

/-- Get's answer. -/
def RetGet (r : Nat × Nat × Nat) (w : World) (e : Ending) (w' : World) : Prop := e = .returned (.tuple #[.int .u64 r.1, .int .i64 r.2.1, .int .i64 r.2.2]) ∧ w = w'
theorem RetGet.mk' {a b c : Int} {r : Nat × Nat × Nat} {w : World} (x y z : Nat) (h : r = (x, y, z)) (h1 : a = x) (h2 : b = y) (h3 : c = z) : RetGet r w (.returned (.tuple #[.int .u64 a, .int .i64 b, .int .i64 c])) w := by
  subst h h1 h2 h3
  exact ⟨rfl, rfl⟩

set_option maxRecDepth 100000 in
set_option maxHeartbeats 400000 in
theorem get_any (x : Value) (bs : List UInt8) (w : World) (S : Nat → Prop) (hb : Sl S w 1 x (bc bs)) (hx : bs.length ≤ 1000000000) :
    Calls Tryz.prog 72 #[x] w (RetGet (getG bs 0 0) w) := by
  obtain ⟨ao, n, cc, rfl, hn, hnc, hc, hnone, hcell⟩ := hb
  rw [bc_length] at hn
  obtain rfl : n = bs.length := by omega
  have hc' : cc ≤ 9223372036854775807 := by unfold maxLen at hc; omega
  clear hn hc hnone
  by_cases hbs : bs = []
  · subst hbs
    simp only [List.length_nil] at *
    go_enter Tryz.func72, Tryz.ntmps72
    go_wp2
    refine wp_loop_rounds 1 ?_
    rw [rounds_succ]
    go_wp2
    go_ret3
    exact ⟨rfl, rfl⟩
  · obtain ⟨b, off, rfl, -, hcc⟩ := hcell (by simpa [bc] using hbs)
    have hce : ∀ j (hj : j < bs.length), w.cell? ⟨b, off + j, none⟩ = some (.int .u8 (bs[j].toNat)) := by
      intro j hj
      exact hcc j _ (by simp [bc, hj])
    have HC := Lib.hid hce
    clear hcc hcell hce hbs
    go_enter Tryz.func72, Tryz.ntmps72
    go_wp2
    go_loop [5, 10] (fun vv ii => ∃ (v i : Nat), vv = .int .u64 v ∧ ii = .int .i64 i ∧ i ≤ 9 ∧ i ≤ bs.length ∧ getG (bs.drop i) i v = getG bs 0 0 ∧ v < 2 ^ (7 * i)) (fun _ ii => bs.length - (intOf ii).toNat)
    case atStart => exact ⟨0, 0, rfl, rfl, by omega, by omega, rfl, by decide⟩
    case round =>
      obtain ⟨v, i, rfl, rfl, hi, hin, hg, hv⟩ := hrel
      have HG := Lib.hid hg
      have HV := Lib.hid hv
      clear hg hv
      by_cases hlt : i < bs.length
      · have hci := HC.out i hlt
        have hdrop := List.drop_eq_getElem_cons hlt
        have HD := Lib.hid hdrop
        have hc2 : bs[i].toNat < 256 := bs[i].toNat_lt
        have HO := fun (h : i = 9 → bs[i].toNat ≤ 1) => Lib.hid (get_or v i bs[i].toNat HV.out hi hc2 h)
        have HB := Lib.hid (get_bound v i bs[i].toNat HV.out)
        clear hdrop HC
        generalize hcn : bs[i].toNat = c at *
        have HN := Lib.hid hcn
        clear hcn
        go_wp2
        all_goals first
          | (go_ret3; exact RetGet.mk' 0 0 9 (by rw [← HG.out, HD.out, getG, HN.out, if_pos (by omega)]) rfl rfl rfl)
          | (go_ret3; exact RetGet.mk' _ _ 0 (by rw [← HG.out, HD.out, getG, HN.out, if_neg (by omega), if_pos (by omega)]) (HO (by omega)).out (by omega) rfl)
          | (go_ret3; have h0 : c = 0 := by omega
             exact RetGet.mk' _ _ 0 (by rw [← HG.out, HD.out, getG, HN.out, if_neg (by omega), if_pos (by omega)]) (by rw [← (HO (by omega)).out, h0]; rfl) (by omega) rfl)
          | (go_round; case rel => (exact ⟨_, i + 1, congrArg (Value.int .u64) (HO (by omega)).out, by go_num, by omega, by omega, by rw [← HG.out, HD.out, getG, HN.out, if_neg (by omega), if_neg (by omega)], HB.out⟩)
             case measure => (simp [intOf]; omega))
      · go_wp2
        go_ret3
        exact RetGet.mk' 0 0 7 (by rw [← HG.out, List.drop_of_length_le (by omega), getG]) rfl rfl rfl

end Go.Proofs.YtmmeofiocbfamaaGreatDoor
