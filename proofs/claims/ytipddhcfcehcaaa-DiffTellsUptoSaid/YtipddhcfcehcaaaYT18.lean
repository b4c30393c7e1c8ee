/- Lemmas for the claim, no condition. -/
import Derived.Test.YtipddhcfcehcaaaYT17
namespace Go.Proofs.Ytipddhcfcehcaaa
open Go Go.RowKit Go.Maps

theorem ruleT : ElemT Try.prog 70 72 4 64 := ElemT.mk' Try.underlying70 (show _ = some (some (.agg #[.int .i64 0, .string ByteArray.empty, .string ByteArray.empty, .slice none 0 0]), 4, 64) by kernel_rfl) rfl (by decide)
theorem leafD_k (x : ByteArray) : ((leafD x).k = 1 ∨ (leafD x).k = 2) ∧ (leafD x).ps = [] := by
  unfold leafD
  split <;> simp [RT.k, RT.ps]
/-- A rule without parts, as it lies. -/
def leafQ (r : RT) : RT × Value := (r, .slice none 0 0)
def leafCs (l : List RT) : List Value := (l.map leafQ).flatMap rC
theorem leafCs_length (l : List RT) : (leafCs l).length = l.length * 4 := by
  induction l with
  | nil => rfl
  | cons x l ih => simp only [leafCs, List.map_cons, List.flatMap_cons, List.length_append, List.length_cons] at ih ⊢; rw [ih]; simp [rC]; omega
theorem leafCs_append (a b : List RT) : leafCs (a ++ b) = leafCs a ++ leafCs b := by simp [leafCs]
theorem RTAt.leaf (S : Nat → Prop) (w : World) {r : RT} (h : r.ps = []) : RTAt S w r (.slice none 0 0) := (RTAt.iff _ _).2 ⟨[], by rw [h]; rfl, by simp, Sl.nil _ _ _⟩
/-- The cells of a row of rules without parts. -/
theorem leafs_at {S : Nat → Prop} {w : World} {v : Value} {l : List RT} (h : Sl S w 4 v (leafCs l)) : ∃ ao c, v = .slice ao l.length c ∧ l.length ≤ c ∧ c ≤ 9223372036854775807 ∧ ∀ i (hi : i < l.length), ∃ b off, ao = some ⟨b, off, none⟩ ∧ S b ∧ w.cell? ⟨b, off + i * 4, none⟩ = some (.int .i64 l[i].k) ∧ w.cell? ⟨b, off + i * 4 + 1, none⟩ = some (.string l[i].a) ∧ w.cell? ⟨b, off + i * 4 + 2, none⟩ = some (.string l[i].b) ∧ w.cell? ⟨b, off + i * 4 + 3, none⟩ = some (.slice none 0 0) := by
  obtain ⟨ao, c, rfl, h4, h5, hc⟩ := Sl.rows rC_length (by decide) h
  rw [List.length_map] at h4 ⊢
  refine ⟨ao, c, rfl, h4, h5, fun i hi => ?_⟩
  obtain ⟨b, off, rfl, hb, hc⟩ := hc (by rw [List.length_map]; omega)
  have hx : (l.map leafQ)[i]'(by rw [List.length_map]; exact hi) = leafQ l[i] := List.getElem_map _
  have hc2 := hc i (by rw [List.length_map]; exact hi)
  rw [hx] at hc2
  exact ⟨b, off, rfl, hb, hc2 0 _ rfl, hc2 1 _ rfl, hc2 2 _ rfl, hc2 3 _ rfl⟩
/-- Where the first of some texts lies. -/
theorem text_first {S : Nat → Prop} {w : World} {ao : Option Addr} {n c : Nat} {l : List ByteArray} (h : Sl S w 1 (.slice ao n c) (txs l)) (hl : 0 < l.length) : ∃ b off, ao = some ⟨b, off, none⟩ ∧ S b ∧ w.cell? ⟨b, off, none⟩ = some (.string l[0]) := by
  obtain ⟨ao', n', c', hv, h1, h2, h3, h4, h5⟩ := h
  cases hv
  obtain ⟨b, off, rfl, hb, hc⟩ := h5 (fun e => by have := congrArg List.length e; rw [txs_length] at this; simp only [List.length_nil] at this; omega)
  exact ⟨b, off, rfl, hb, hc 0 _ (by simp [txs, hl])⟩

set_option maxRecDepth 100000 in
set_option maxHeartbeats 1000000 in
theorem several5_any {S : Nat → Prop} (x : ByteArray) (rest : List ByteArray) (v : Value) (w : World) (hSw : ∀ b, S b → b < w.heap.size) (hx : isNm x = true) (hr : ∀ h : 0 < rest.length, rest[0] ≠ ⟨#[45, 62]⟩ ∧ rest[0] ≠ ⟨#[38]⟩) (h : Sl S w 1 v (txs (x :: rest))) :
    Calls Try.prog 74 #[v, .int .i64 0, .string ⟨#[38]⟩, .int .i64 5] w fun e w' => ∃ v', e = .returned (.tuple #[rV (leafD x) (.slice none 0 0), v', .bool true]) ∧ Sl S w' 1 v' (txs rest) ∧ Below w.heap.size w w' := by
  obtain ⟨w1, hw1⟩ : ∃ z, z = w.alloc (.cells #[.int .i64 0, .string ⟨#[]⟩, .string ⟨#[]⟩, .slice none 0 0] 72) := ⟨_, rfl⟩
  obtain ⟨w2, hw2⟩ : ∃ z, z = w1.alloc (.cells #[.int .i64 0, .string ⟨#[]⟩, .string ⟨#[]⟩, .slice none 0 0] 72) := ⟨_, rfl⟩
  have e1 : w1.heap.size = w.heap.size + 1 := by rw [hw1]; simp
  have x01 : Ext w w1 := by rw [hw1]; exact Ext.alloc _ _
  have x12 : Ext w1 w2 := by rw [hw2]; exact Ext.alloc _ _
  have HRB := Lib.hid (show Blk w2 w.heap.size #[.int .i64 0, .string ⟨#[]⟩, .string ⟨#[]⟩, .slice none 0 0] 72 from Blk.below (by rw [hw1]; exact Blk.made _ _ _) x12)
  have HPB := Lib.hid (show Blk w2 (w.heap.size + 1) #[.int .i64 0, .string ⟨#[]⟩, .string ⟨#[]⟩, .slice none 0 0] 72 from by rw [hw2, ← e1]; exact Blk.made _ _ _)
  have HB2 := Lib.hid (show Below w.heap.size w w2 from x01.trans x12)
  have HSW := Lib.hid hSw
  have HON := Lib.hid (one_any (S := S) x rest v w2 (fun b hb => Nat.lt_of_lt_of_le (HSW.out b hb) HB2.out.size) hx (fun h => (hr h).1) (h.same ((Same.below HB2.out).mono HSW.out)))
  have HR := Lib.hid hr
  have HLK := Lib.hid (leafD_k x)
  have HSL := Lib.hid h
  obtain ⟨ao, n, c, rfl, hn, hnc, hcm⟩ := h.len
  clear hn hr h hSw
  subst hw2 hw1
  clear e1 x01 x12
  generalize leafD x = r at *
  unfold rV at HON ⊢
  have HCASE := Lib.hid (Nat.eq_zero_or_pos rest.length)
  go_enter Try.func74, Try.ntmps74
  go_wp2_with fail
  go_loopw [0, 11] (fun lv pv wr => lv = .slice ao n c ∧ pv = .slice none 0 0 ∧ wr = w.alloc (.cells #[.int .i64 0, .string ⟨#[]⟩, .string ⟨#[]⟩, .slice none 0 0] 72)) (fun _ _ _ => 0)
  case atStart => exact ⟨rfl, rfl, rfl⟩
  case round =>
    obtain ⟨rfl, rfl, rfl⟩ := hrel
    go_wp2_with fail
    refine HON.out.mono ?_
    rintro e w3 ⟨v3, rfl, hsl3, hb3⟩
    have HR3 := Lib.hid (HRB.out.below hb3)
    have HP3 := Lib.hid (HPB.out.below hb3)
    have HB3 := Lib.hid (HB2.out.trans (hb3.mono HB2.out.size))
    have HSL3 := Lib.hid hsl3
    obtain ⟨ao3, n3, c3, rfl, hn3, hnc3, hcm3⟩ := hsl3.len
    clear hb3 HRB HPB HB2 HON hsl3
    have p3 := HP3.out.cells
    have q3 := HP3.out.free
    obtain ⟨br, hbr⟩ : ∃ z, z = w.heap.size + 1 := ⟨_, rfl⟩
    rw [← hbr] at HP3 p3 q3 ⊢
    have HBR := Lib.hid hbr
    rw [txs_length, Nat.mul_one] at hn3
    have HN3 := Lib.hid hn3
    have hs1 := HP3.out.set_to 0 (.int .i64 r.k) rfl
    have hs2 := hs1.set_to 1 (.string r.a) rfl
    have hs3 := hs2.set_to 2 (.string r.b) rfl
    have hs4 := hs3.set_to 3 (.slice none 0 0) rfl
    have HP4 := Lib.hid hs4
    have hk5 : (r.k == 5) = false := by
      have := HLK.out.1
      rw [beq_eq_false_iff_ne]; omega
    have HKB := Lib.hid (show Kept (fun b => S b ∨ b = w.heap.size) w3 ((((w3.setCell ⟨br, 0, none⟩ (.int .i64 r.k)).setCell ⟨br, 1, none⟩ (.string r.a)).setCell ⟨br, 2, none⟩ (.string r.b)).setCell ⟨br, 3, none⟩ (.slice none 0 0)) from by
      have hno : ¬ (S br ∨ br = w.heap.size) := by
        rintro (h | h)
        · have := HSW.out _ h; omega
        · omega
      exact ((((Kept.refl _ _).set hno _).set hno _).set hno _).set hno _)
    have HBB := Lib.hid (show Below w.heap.size w ((((w3.setCell ⟨br, 0, none⟩ (.int .i64 r.k)).setCell ⟨br, 1, none⟩ (.string r.a)).setCell ⟨br, 2, none⟩ (.string r.b)).setCell ⟨br, 3, none⟩ (.slice none 0 0)) from (((HB3.out.setCell (show w.heap.size ≤ br by omega) _).setCell (show w.heap.size ≤ br by omega) _).setCell (show w.heap.size ≤ br by omega) _).setCell (show w.heap.size ≤ br by omega) _)
    clear hs1 hs2 hs3 hs4 hbr hn3
    by_cases h0 : n3 = 0
    · subst h0
      go_wp2_with (at_builtin; go_must (refine wpList_own_lit ruleT rfl (.tmp 42) (.tmp 44) rfl rfl (Own.nil _ w3.heap.size _ _) (by show Value.slice (some ⟨w3.heap.size, 0, none⟩) 1 1 = _; simp) rfl (by simp [Value.oneCell']) (by simp) (by simp) (by simp) ?_); intro v4 w4 hown4 hb4 hgr4; have HO4 := Lib.hid (show Own w4 w3.heap.size 72 4 v4 (leafCs [r]) from hown4); have HR4 := Lib.hid (show Blk w4 w.heap.size #[.int .i64 0, .string ⟨#[]⟩, .string ⟨#[]⟩, .slice none 0 0] 72 from (hb4.block _ HR3.out.lt).trans (HKB.out.blk HR3.out (.inr rfl))); have HB4 := Lib.hid (HBB.out.trans (hb4.mono HB3.out.size)); have HS4 := Lib.hid (HSL3.out.same (fun b hb => (hb4.block b (Nat.lt_of_lt_of_le (HSW.out b hb) HB3.out.size)).trans (HKB.out.block b (.inl hb)))); obtain ⟨ao4, c4, rfl, hlc4, hcm4, hat4⟩ := leafs_at HO4.out.sl; obtain ⟨g4, off4, rfl, hg4, k0, k1, k2, k3⟩ := hat4 0 (by simp); simp only [Nat.zero_mul, Nat.add_zero, List.getElem_cons_zero] at k0 k1 k2 k3; clear hown4 hb4 hgr4 hat4 hlc4; have r4 := HR4.out.cells; have f4 := HR4.out.free)
      have hs1 := HR4.out.set_to 0 (.int .i64 r.k) rfl
      have hs2 := hs1.set_to 1 (.string r.a) rfl
      have hs3 := hs2.set_to 2 (.string r.b) rfl
      have hs4 := hs3.set_to 3 (.slice none 0 0) rfl
      have hbe := setAt (i := 3) (v := .slice none 0 0) (setAt (i := 2) (v := .string r.b) (setAt (i := 1) (v := .string r.a) (setAt (i := 0) (v := .int .i64 r.k) HB4.out)))
      have hno : ¬ S w.heap.size := fun h => by have := HSW.out _ h; omega
      have hkb := ((((Kept.refl S w4).set (a := ⟨w.heap.size, 0, none⟩) hno (.int .i64 r.k)).set (a := ⟨w.heap.size, 1, none⟩) hno (.string r.a)).set (a := ⟨w.heap.size, 2, none⟩) hno (.string r.b)).set (a := ⟨w.heap.size, 3, none⟩) hno (.slice none 0 0)
      refine bodyPost_ret (v := .tuple #[.agg #[.int .i64 r.k, .string r.a, .string r.b, .slice none 0 0], .slice ao3 0 c3, .bool true]) ?_ rfl ⟨_, rfl, HS4.out.same hkb.block, hbe⟩
      rw [results_cell_tmp2 rfl]
      have hl := run_loadVar_row (P := Try.prog) _ w.heap.size _ 72 _ _ _ hs4 Try.underlying72 rfl (by kernel_rfl)
      simp [asAddr, hl, Result.andThen]
    · obtain ⟨b5, off5, rfl, hb5, hd5⟩ := text_first HSL3.out (by have := HN3.out; omega)
      have hne := ba_beq' (HR.out (by have := HN3.out; omega)).2
      rw [← ByteArray.toList_eq, show (⟨#[38]⟩ : ByteArray).data.toList = [38] from rfl] at hne
      have hn0 : ((n3 : Int) == 0) = false := by rw [beq_eq_false_iff_ne]; omega
      have hn1 : (0 : Int) < (n3 : Int) := by omega
      generalize rest[0]'(by have := HN3.out; omega) = y at *
      go_wp2_with (at_builtin; go_must (refine wpList_own_lit ruleT rfl (.tmp 42) (.tmp 44) rfl rfl (Own.nil _ w3.heap.size _ _) (by show Value.slice (some ⟨w3.heap.size, 0, none⟩) 1 1 = _; simp) rfl (by simp [Value.oneCell']) (by simp) (by simp) (by simp) ?_); intro v4 w4 hown4 hb4 hgr4; have HO4 := Lib.hid (show Own w4 w3.heap.size 72 4 v4 (leafCs [r]) from hown4); have HR4 := Lib.hid (show Blk w4 w.heap.size #[.int .i64 0, .string ⟨#[]⟩, .string ⟨#[]⟩, .slice none 0 0] 72 from (hb4.block _ HR3.out.lt).trans (HKB.out.blk HR3.out (.inr rfl))); have HB4 := Lib.hid (HBB.out.trans (hb4.mono HB3.out.size)); have HSM4 := Lib.hid (show ∀ b, S b → w4.heap[b]? = w3.heap[b]? from fun b hb => (hb4.block b (Nat.lt_of_lt_of_le (HSW.out b hb) HB3.out.size)).trans (HKB.out.block b (.inl hb))); have HS4 := Lib.hid (HSL3.out.same (fun b hb => (hb4.block b (Nat.lt_of_lt_of_le (HSW.out b hb) HB3.out.size)).trans (HKB.out.block b (.inl hb)))); obtain ⟨ao4, c4, rfl, hlc4, hcm4, hat4⟩ := leafs_at HO4.out.sl; obtain ⟨g4, off4, rfl, hg4, k0, k1, k2, k3⟩ := hat4 0 (by simp); simp only [Nat.zero_mul, Nat.add_zero, List.getElem_cons_zero] at k0 k1 k2 k3; clear hown4 hb4 hgr4 hat4 hlc4; have r4 := HR4.out.cells; have f4 := HR4.out.free; have d5 : w4.cell? ⟨b5, off5, none⟩ = some (.string y) := (World.cell?_of_block (a := ⟨b5, off5, none⟩) (HSM4.out b5 hb5)).trans hd5)
      have hs1 := HR4.out.set_to 0 (.int .i64 r.k) rfl
      have hs2 := hs1.set_to 1 (.string r.a) rfl
      have hs3 := hs2.set_to 2 (.string r.b) rfl
      have hs4 := hs3.set_to 3 (.slice none 0 0) rfl
      have hbe := setAt (i := 3) (v := .slice none 0 0) (setAt (i := 2) (v := .string r.b) (setAt (i := 1) (v := .string r.a) (setAt (i := 0) (v := .int .i64 r.k) HB4.out)))
      have hno : ¬ S w.heap.size := fun h => by have := HSW.out _ h; omega
      have hkb := ((((Kept.refl S w4).set (a := ⟨w.heap.size, 0, none⟩) hno (.int .i64 r.k)).set (a := ⟨w.heap.size, 1, none⟩) hno (.string r.a)).set (a := ⟨w.heap.size, 2, none⟩) hno (.string r.b)).set (a := ⟨w.heap.size, 3, none⟩) hno (.slice none 0 0)
      refine bodyPost_ret (v := .tuple #[.agg #[.int .i64 r.k, .string r.a, .string r.b, .slice none 0 0], .slice (some ⟨b5, off5, none⟩) n3 c3, .bool true]) ?_ rfl ⟨_, rfl, HS4.out.same hkb.block, hbe⟩
      rw [results_cell_tmp2 rfl]
      have hl := run_loadVar_row (P := Try.prog) _ w.heap.size _ 72 _ _ _ hs4 Try.underlying72 rfl (by kernel_rfl)
      simp [asAddr, hl, Result.andThen]

end Go.Proofs.Ytipddhcfcehcaaa
namespace Go.Proofs.Ytipddhcfcehcaaa
open Go Go.RowKit Go.Maps

/-- Words behind |. -/
def barT : List ByteArray → List ByteArray
  | [] => []
  | y :: ys => ⟨#[124]⟩ :: y :: barT ys
/-- Words with | between. -/
def altT (x : ByteArray) (ys : List ByteArray) : List ByteArray := x :: barT ys
/-- What they say. -/
def altR (x : ByteArray) (ys : List ByteArray) : RT := if ys = [] then leafD x else .mk 4 ⟨#[]⟩ ⟨#[]⟩ ((x :: ys).map leafD)
theorem barT_length (ys : List ByteArray) : (barT ys).length = 2 * ys.length := by
  induction ys with
  | nil => rfl
  | cons y ys ih => rw [barT, List.length_cons, List.length_cons, ih, List.length_cons]; omega
theorem leafs_ps {l : List ByteArray} {ps qs : List RT} (h : ps ++ qs = l.map leafD) : ∀ r ∈ ps, r.ps = [] := fun r hr => by
  have := List.mem_append_left qs hr
  rw [h] at this
  obtain ⟨x, _, rfl⟩ := List.mem_map.1 this
  exact (leafD_k x).2
theorem RTAt.leafs {S : Nat → Prop} {w : World} {v : Value} {ps : List RT} (hp : ∀ r ∈ ps, r.ps = []) (h : Sl S w 4 v (leafCs ps)) (k : Int) (a b : ByteArray) : RTAt S w (.mk k a b ps) v :=
  (RTAt.iff _ _).2 ⟨ps.map leafQ, by rw [List.map_map]; exact (List.map_congr_left fun _ _ => rfl).trans (List.map_id _), fun x hx => by
    obtain ⟨r, hr, rfl⟩ := List.mem_map.1 hx
    exact RTAt.leaf S w (hp r hr), h⟩
theorem alt_one {r : RT} {x : ByteArray} {ys : List ByteArray} (h : [r] = (x :: ys).map leafD) : altR x ys = r := by
  cases ys with
  | nil => unfold altR; rw [if_pos rfl]; simpa using h.symm
  | cons y ys => simp at h
theorem alt_more {ps : List RT} {x : ByteArray} {ys : List ByteArray} (h : ps = (x :: ys).map leafD) (h2 : 2 ≤ ps.length) : altR x ys = .mk 4 ⟨#[]⟩ ⟨#[]⟩ ps := by
  cases ys with
  | nil => subst h; simp at h2
  | cons y ys => unfold altR; rw [if_neg (by simp), h]
def slcLen : Value → Nat | .slice _ n _ => n | _ => 0

set_option maxRecDepth 100000 in
set_option maxHeartbeats 1000000 in
theorem several4_any {S : Nat → Prop} (x0 : ByteArray) (ys0 : List ByteArray) (v : Value) (w : World) (hSw : ∀ b, S b → b < w.heap.size) (hx0 : ∀ z ∈ x0 :: ys0, isNm z = true) (hl0 : ys0.length ≤ 100000) (h : Sl S w 1 v (txs (altT x0 ys0))) :
    Calls Try.prog 74 #[v, .int .i64 0, .string ⟨#[124]⟩, .int .i64 4] w fun e w' => ∃ v' pv, e = .returned (.tuple #[rV (altR x0 ys0) pv, v', .bool true]) ∧ Sl S w' 1 v' [] ∧ RTAt (fun b => w.heap.size ≤ b ∧ b < w'.heap.size) w' (altR x0 ys0) pv ∧ Below w.heap.size w w' := by
  have HSW := Lib.hid hSw
  have HX0 := Lib.hid hx0
  have HL0 := Lib.hid hl0
  have HSL := Lib.hid h
  have HR0 := Lib.hid (Blk.made w #[.int .i64 0, .string ⟨#[]⟩, .string ⟨#[]⟩, .slice none 0 0] 72)
  have HB0 := Lib.hid (Ext.alloc w (.cells #[.int .i64 0, .string ⟨#[]⟩, .string ⟨#[]⟩, .slice none 0 0] 72))
  clear hSw hx0 hl0 h
  obtain ⟨ao, n, c, rfl, -, -, -⟩ := HSL.out.len
  go_enter Try.func74, Try.ntmps74
  go_wp2_with fail
  go_loopw [0, 11] (fun lv pv wr => ∃ (ps : List RT) (x : ByteArray) (ys : List ByteArray), (∀ z ∈ x :: ys, isNm z = true) ∧ Sl S wr 1 lv (txs (altT x ys)) ∧ Own wr (w.heap.size + 1) 72 4 pv (leafCs ps) ∧ ps ++ (x :: ys).map leafD = (x0 :: ys0).map leafD ∧ Blk wr w.heap.size #[.int .i64 0, .string ⟨#[]⟩, .string ⟨#[]⟩, .slice none 0 0] 72 ∧ Below w.heap.size w wr) (fun lv _ _ => slcLen lv)
  case atStart => exact ⟨[], x0, ys0, HX0.out, HSL.out.same ((Same.below HB0.out).mono HSW.out), Own.nil _ _ _ _, rfl, HR0.out, HB0.out⟩
  case round =>
    obtain ⟨ps, x, ys, hnm, hsl, hop, hall, hr0, hbel⟩ := hrel
    have HALL := Lib.hid hall
    have HNM := Lib.hid hnm
    obtain ⟨ao1, n1, c1, rfl, hn1, hnc1, hcm1⟩ := hsl.len
    rw [txs_length, Nat.mul_one] at hn1
    have HN1 := Lib.hid hn1
    have x12 : Ext wr (wr.alloc (.cells #[.int .i64 0, .string ⟨#[]⟩, .string ⟨#[]⟩, .slice none 0 0] 72)) := Ext.alloc _ _
    have HSWR := Lib.hid (show ∀ b, S b → b < wr.heap.size from fun b hb => Nat.lt_of_lt_of_le (HSW.out b hb) hbel.size)
    have HON := Lib.hid (several5_any (S := S) x (barT ys) _ (wr.alloc (.cells #[.int .i64 0, .string ⟨#[]⟩, .string ⟨#[]⟩, .slice none 0 0] 72)) (fun b hb => Nat.lt_of_lt_of_le (HSWR.out b hb) x12.size) (HNM.out x List.mem_cons_self) (fun hpos => by
      cases ys with
      | nil => exact absurd hpos (by simp [barT])
      | cons y ys => exact ⟨by unfold barT; rw [List.getElem_cons_zero]; decide, by unfold barT; rw [List.getElem_cons_zero]; decide⟩) (hsl.same ((Same.below x12).mono HSWR.out)))
    have HRB := Lib.hid (hr0.below x12)
    have HPB := Lib.hid (Blk.made wr #[.int .i64 0, .string ⟨#[]⟩, .string ⟨#[]⟩, .slice none 0 0] 72)
    have HOPP := Lib.hid (hop.below x12)
    have HLK := Lib.hid (leafD_k x)
    have HLT := Lib.hid (show (x :: ys).map leafD = leafD x :: ys.map leafD from rfl)
    have HPNE := Lib.hid (fun g hg => (hop.block g hg).2)
    have HBX := Lib.hid (hbel.trans (x12.mono hbel.size))
    have HBR := Lib.hid (show w.heap.size + 1 ≤ wr.heap.size from hr0.lt)
    have HPN := Lib.hid (show ps.length + 1 ≤ 100001 from by
      have := congrArg List.length HALL.out
      have := HL0.out
      simp at *; omega)
    clear hn1 hsl hop hall hr0 hbel hnm HB0 HR0 HSL x12
    unfold rV at HON
    generalize leafD x = r at *
    go_wp2_with fail
    refine HON.out.mono ?_
    rintro e w3 ⟨v3, rfl, hsl3, hb3⟩
    have HR3 := Lib.hid (HRB.out.below hb3)
    have HP3 := Lib.hid (HPB.out.below hb3)
    have HB3 := Lib.hid (HBX.out.trans (hb3.mono HBX.out.size))
    have HSL3 := Lib.hid hsl3
    have hop3 := HOPP.out.below hb3
    have HSZ := Lib.hid (show wr.heap.size < w3.heap.size from HP3.out.lt)
    obtain ⟨ao3, n3, c3, rfl, hn3, hnc3, hcm3⟩ := hsl3.len
    rw [txs_length, Nat.mul_one, barT_length] at hn3
    have HN3 := Lib.hid hn3
    obtain ⟨br, hbr⟩ : ∃ z, z = wr.heap.size := ⟨_, rfl⟩
    rw [← hbr] at HP3 HBR HPNE HSZ ⊢
    have p3 := HP3.out.cells
    have q3 := HP3.out.free
    have hbrw := HBR.out
    have hs1 := HP3.out.set_to 0 (.int .i64 r.k) rfl
    have hs2 := hs1.set_to 1 (.string r.a) rfl
    have hs3 := hs2.set_to 2 (.string r.b) rfl
    have hs4 := hs3.set_to 3 (.slice none 0 0) rfl
    have HP4 := Lib.hid hs4
    have hk4 : (r.k == 4) = false := by
      have := HLK.out.1
      rw [beq_eq_false_iff_ne]; omega
    have HKB := Lib.hid (show Kept (fun b => S b ∨ b = w.heap.size) w3 ((((w3.setCell ⟨br, 0, none⟩ (.int .i64 r.k)).setCell ⟨br, 1, none⟩ (.string r.a)).setCell ⟨br, 2, none⟩ (.string r.b)).setCell ⟨br, 3, none⟩ (.slice none 0 0)) from by
      have hno : ¬ (S br ∨ br = w.heap.size) := by
        rintro (h | h)
        · have := HSW.out _ h; omega
        · omega
      exact ((((Kept.refl _ _).set hno _).set hno _).set hno _).set hno _)
    have HBB := Lib.hid (show Below w.heap.size w ((((w3.setCell ⟨br, 0, none⟩ (.int .i64 r.k)).setCell ⟨br, 1, none⟩ (.string r.a)).setCell ⟨br, 2, none⟩ (.string r.b)).setCell ⟨br, 3, none⟩ (.slice none 0 0)) from (((HB3.out.setCell (show w.heap.size ≤ br by omega) _).setCell (show w.heap.size ≤ br by omega) _).setCell (show w.heap.size ≤ br by omega) _).setCell (show w.heap.size ≤ br by omega) _)
    have HSZ3 := Lib.hid (show w.heap.size + 1 ≤ (((((w3.setCell ⟨br, 0, none⟩ (.int .i64 r.k)).setCell ⟨br, 1, none⟩ (.string r.a)).setCell ⟨br, 2, none⟩ (.string r.b)).setCell ⟨br, 3, none⟩ (.slice none 0 0))).heap.size from by have := HSZ.out; simp; omega)
    have HOP3 := Lib.hid (show Own ((((w3.setCell ⟨br, 0, none⟩ (.int .i64 r.k)).setCell ⟨br, 1, none⟩ (.string r.a)).setCell ⟨br, 2, none⟩ (.string r.b)).setCell ⟨br, 3, none⟩ (.slice none 0 0)) (w.heap.size + 1) 72 4 u11 (leafCs ps) from by
      have hno : ∀ g, u11.ownBlock = some g → g ≠ br := fun g hg e => by have := HPNE.out g hg; omega
      exact hop3.keepOwn fun g hg => by
        have h := hno g hg
        rw [Below.heap_setCell _ _ _ _ h, Below.heap_setCell _ _ _ _ h, Below.heap_setCell _ _ _ _ h, Below.heap_setCell _ _ _ _ h])
    clear hs1 hs2 hs3 hs4 hbr hn3 hb3 hop3 HRB HPB HBX HON hsl3 hbrw HOPP
    cases ys with
    | nil =>
      obtain rfl : n3 = 0 := by have := HN3.out; simp at this; omega
      have hlen1 := HPN.out
      by_cases hp0 : ps = []
      · subst hp0
        go_wp2_with (at_builtin; go_must (refine wpList_own_lit ruleT rfl (.tmp 42) (.tmp 44) rfl rfl HOP3.out (by show Value.slice (some ⟨w3.heap.size, 0, none⟩) 1 1 = _; simp) rfl (by simp [Value.oneCell']) (by have := HPN.out; rw [leafCs_length]; (try simp); (try omega)) (by have := HPN.out; rw [leafCs_length]; (try simp); (try omega)) HSZ3.out ?_; intro v4 w4 hown4 hb4 hgr4; have HO4 := Lib.hid (show Own w4 (w.heap.size + 1) 72 4 v4 (leafCs ([r])) from by exact hown4); have HR4 := Lib.hid (show Blk w4 w.heap.size #[.int .i64 0, .string ⟨#[]⟩, .string ⟨#[]⟩, .slice none 0 0] 72 from (hb4.block _ (Nat.lt_succ_self _)).trans (HKB.out.blk HR3.out (.inr rfl))); have HB4 := Lib.hid (HBB.out.trans (hb4.mono (Nat.le_succ _))); have HSM4 := Lib.hid (show ∀ b, S b → w4.heap[b]? = w3.heap[b]? from fun b hb => (hb4.block b (Nat.lt_succ_of_lt (HSW.out b hb))).trans (HKB.out.block b (.inl hb))); have HS4 := Lib.hid (HSL3.out.same HSM4.out); have HSZ4 := Lib.hid (show w.heap.size + 1 ≤ w4.heap.size from by have h1 := hb4.size; have h2 := HSZ3.out; omega); obtain ⟨ao4, c4, rfl, hlc4, hcm4, hat4⟩ := leafs_at HO4.out.sl; obtain ⟨g4, off4, rfl, hg4, k0, k1, k2, k3⟩ := hat4 0 (by simp); simp only [Nat.zero_mul, Nat.add_zero, List.getElem_cons_zero, List.nil_append] at k0 k1 k2 k3; have r4 := HR4.out.cells; have f4 := HR4.out.free; clear hat4 hlc4; clear hown4 hb4 hgr4))
        have HAR := Lib.hid (show altR x0 ys0 = r from alt_one (by have := HALL.out; rw [HLT.out] at this; exact this))
        have HSE := Lib.hid (HS4.out)
        have hs1 := HR4.out.set_to 0 (.int .i64 r.k) rfl
        have hs2 := hs1.set_to 1 (.string r.a) rfl
        have hs3 := hs2.set_to 2 (.string r.b) rfl
        have hs4 := hs3.set_to 3 (.slice none 0 0) rfl
        have hbe := setAt (i := 3) (v := .slice none 0 0) (setAt (i := 2) (v := .string r.b) (setAt (i := 1) (v := .string r.a) (setAt (i := 0) (v := .int .i64 r.k) HB4.out)))
        have hno : ¬ S w.heap.size := fun h => by have := HSW.out _ h; omega
        have hkb := ((((Kept.refl S w4).set (a := ⟨w.heap.size, 0, none⟩) hno (.int .i64 r.k)).set (a := ⟨w.heap.size, 1, none⟩) hno (.string r.a)).set (a := ⟨w.heap.size, 2, none⟩) hno (.string r.b)).set (a := ⟨w.heap.size, 3, none⟩) hno (.slice none 0 0)
        have hkq := ((((Kept.refl (fun x => w.heap.size + 1 ≤ x) w4).set (a := ⟨w.heap.size, 0, none⟩) (Nat.not_succ_le_self _) (.int .i64 r.k)).set (a := ⟨w.heap.size, 1, none⟩) (Nat.not_succ_le_self _) (.string r.a)).set (a := ⟨w.heap.size, 2, none⟩) (Nat.not_succ_le_self _) (.string r.b)).set (a := ⟨w.heap.size, 3, none⟩) (Nat.not_succ_le_self _) (.slice none 0 0)
        refine bodyPost_ret (v := .tuple #[.agg #[.int .i64 r.k, .string r.a, .string r.b, .slice none 0 0], .slice ao3 0 c3, .bool true]) ?_ rfl ⟨_, .slice none 0 0, by rw [HAR.out]; rfl, ?_, ?_, hbe⟩
        · rw [results_cell_tmp2 rfl]
          have hl := run_loadVar_row (P := Try.prog) _ w.heap.size _ 72 _ _ _ hs4 Try.underlying72 rfl (by kernel_rfl)
          simp [asAddr, hl, Result.andThen]
        · exact HS4.out.same hkb.block
        · rw [HAR.out]; exact RTAt.leaf _ _ HLK.out.2
      · have hp1 : 1 ≤ ps.length := by cases ps with | nil => exact absurd rfl hp0 | cons _ _ => simp
        have HP1 := Lib.hid hp1
        clear hp0 hp1 hlen1
        go_wp2_with (at_builtin; go_must (refine wpList_own_lit ruleT rfl (.tmp 42) (.tmp 44) rfl rfl HOP3.out (by show Value.slice (some ⟨w3.heap.size, 0, none⟩) 1 1 = _; simp) rfl (by simp [Value.oneCell']) (by have := HPN.out; rw [leafCs_length]; (try simp); (try omega)) (by have := HPN.out; rw [leafCs_length]; (try simp); (try omega)) HSZ3.out ?_; intro v4 w4 hown4 hb4 hgr4; have HO4 := Lib.hid (show Own w4 (w.heap.size + 1) 72 4 v4 (leafCs (ps ++ [r])) from by rw [leafCs_append]; exact hown4); have HR4 := Lib.hid (show Blk w4 w.heap.size #[.int .i64 0, .string ⟨#[]⟩, .string ⟨#[]⟩, .slice none 0 0] 72 from (hb4.block _ (Nat.lt_succ_self _)).trans (HKB.out.blk HR3.out (.inr rfl))); have HB4 := Lib.hid (HBB.out.trans (hb4.mono (Nat.le_succ _))); have HSM4 := Lib.hid (show ∀ b, S b → w4.heap[b]? = w3.heap[b]? from fun b hb => (hb4.block b (Nat.lt_succ_of_lt (HSW.out b hb))).trans (HKB.out.block b (.inl hb))); have HS4 := Lib.hid (HSL3.out.same HSM4.out); have HSZ4 := Lib.hid (show w.heap.size + 1 ≤ w4.heap.size from by have h1 := hb4.size; have h2 := HSZ3.out; omega); obtain ⟨ao4, c4, rfl, hlc4, hcm4, -⟩ := leafs_at HO4.out.sl; have HM := Lib.hid (show 2 ≤ (ps ++ [r]).length from by have := HP1.out; simp; omega); have HPS := Lib.hid (show ps ++ [r] = (x0 :: ys0).map leafD from by have := HALL.out; rw [HLT.out] at this; exact this); generalize ps ++ [r] = pr at *; obtain ⟨m, hm⟩ : ∃ m, m = pr.length := ⟨_, rfl⟩; rw [← hm] at HO4 HM hlc4 ⊢; have HMM := Lib.hid hm; have hm1 : ((m : Int) == 1) = false := (by have := HM.out; rw [beq_eq_false_iff_ne]; omega); clear hm; have r4 := HR4.out.cells; have f4 := HR4.out.free; clear hown4 hb4 hgr4))
        have HAR := Lib.hid (show altR x0 ys0 = .mk 4 ⟨#[]⟩ ⟨#[]⟩ pr from alt_more HPS.out (by have := HM.out; have := HMM.out; omega))
        have hs1 := HR4.out.set_to 0 (.int .i64 4) rfl
        have hs2 := hs1.set_to 1 (.string ⟨#[]⟩) rfl
        have hs3 := hs2.set_to 2 (.string ⟨#[]⟩) rfl
        have hs4 := hs3.set_to 3 (.slice ao4 m c4) rfl
        have hbe := setAt (i := 3) (v := .slice ao4 m c4) (setAt (i := 2) (v := .string ⟨#[]⟩) (setAt (i := 1) (v := .string ⟨#[]⟩) (setAt (i := 0) (v := .int .i64 4) HB4.out)))
        have hno : ¬ S w.heap.size := fun h => by have := HSW.out _ h; omega
        have hkb := ((((Kept.refl S w4).set (a := ⟨w.heap.size, 0, none⟩) hno (.int .i64 4)).set (a := ⟨w.heap.size, 1, none⟩) hno (.string ⟨#[]⟩)).set (a := ⟨w.heap.size, 2, none⟩) hno (.string ⟨#[]⟩)).set (a := ⟨w.heap.size, 3, none⟩) hno (.slice ao4 m c4)
        have hkq := ((((Kept.refl (fun x => w.heap.size + 1 ≤ x) w4).set (a := ⟨w.heap.size, 0, none⟩) (Nat.not_succ_le_self _) (.int .i64 4)).set (a := ⟨w.heap.size, 1, none⟩) (Nat.not_succ_le_self _) (.string ⟨#[]⟩)).set (a := ⟨w.heap.size, 2, none⟩) (Nat.not_succ_le_self _) (.string ⟨#[]⟩)).set (a := ⟨w.heap.size, 3, none⟩) (Nat.not_succ_le_self _) (.slice ao4 m c4)
        refine bodyPost_ret (v := .tuple #[.agg #[.int .i64 4, .string ⟨#[]⟩, .string ⟨#[]⟩, .slice ao4 m c4], .slice ao3 0 c3, .bool true]) ?_ rfl ⟨_, .slice ao4 m c4, by rw [HAR.out]; rfl, ?_, ?_, hbe⟩
        · rw [results_cell_tmp2 rfl]
          have hl := run_loadVar_row (P := Try.prog) _ w.heap.size _ 72 _ _ _ hs4 Try.underlying72 rfl (by kernel_rfl)
          simp [asAddr, hl, Result.andThen]
        · exact HS4.out.same hkb.block
        · rw [HAR.out]
          refine RTAt.leafs (leafs_ps (qs := []) (by rw [List.append_nil]; exact HPS.out)) ?_ _ _ _
          exact (HO4.out.sl.same (fun b hb => hkq.block b hb.1)).mono fun b hb => ⟨Nat.le_of_succ_le hb.1, by simpa using hb.2⟩
    | cons y ys =>
      have hl3 : 2 ≤ n3 := by have := HN3.out; simp at this; omega
      obtain ⟨b5, off5, rfl, hb5, hd5⟩ := text_first HSL3.out (by unfold barT; simp)
      rw [show (barT (y :: ys))[0]'(by unfold barT; simp) = ⟨#[124]⟩ from by simp [barT]] at hd5
      have hn0 : ((n3 : Int) == 0) = false := by rw [beq_eq_false_iff_ne]; omega
      have hn1 : (0 : Int) < (n3 : Int) := by omega
      have hn2 : (1 : Int) ≤ (n3 : Int) := by omega
      have hn3c : (n3 : Int) ≤ (c3 : Int) := by omega
      have hn4 : (1 : Int) ≤ (c3 : Int) := by omega
      have hn5 : ¬ c3 = 1 := by omega
      have hn6 : ¬ (c3 : Int) = 1 := by omega
      have HLE := Lib.hid hl3
      have HC3 := Lib.hid hnc3
      clear hl3
      go_wp2_with (at_builtin; go_must (refine wpList_own_lit ruleT rfl (.tmp 42) (.tmp 44) rfl rfl HOP3.out (by show Value.slice (some ⟨w3.heap.size, 0, none⟩) 1 1 = _; simp) rfl (by simp [Value.oneCell']) (by have := HPN.out; rw [leafCs_length]; (try simp); (try omega)) (by have := HPN.out; rw [leafCs_length]; (try simp); (try omega)) HSZ3.out ?_; intro v4 w4 hown4 hb4 hgr4; have HO4 := Lib.hid (show Own w4 (w.heap.size + 1) 72 4 v4 (leafCs (ps ++ [r])) from by rw [leafCs_append]; exact hown4); have HR4 := Lib.hid (show Blk w4 w.heap.size #[.int .i64 0, .string ⟨#[]⟩, .string ⟨#[]⟩, .slice none 0 0] 72 from (hb4.block _ (Nat.lt_succ_self _)).trans (HKB.out.blk HR3.out (.inr rfl))); have HB4 := Lib.hid (HBB.out.trans (hb4.mono (Nat.le_succ _))); have HSM4 := Lib.hid (show ∀ b, S b → w4.heap[b]? = w3.heap[b]? from fun b hb => (hb4.block b (Nat.lt_succ_of_lt (HSW.out b hb))).trans (HKB.out.block b (.inl hb))); have HS4 := Lib.hid (HSL3.out.same HSM4.out); have HSZ4 := Lib.hid (show w.heap.size + 1 ≤ w4.heap.size from by have h1 := hb4.size; have h2 := HSZ3.out; omega); have d5 : w4.cell? ⟨b5, off5, none⟩ = some (.string ⟨#[124]⟩) := (World.cell?_of_block (a := ⟨b5, off5, none⟩) (HSM4.out b5 hb5)).trans hd5; clear hd5; clear hown4 hb4 hgr4))
      go_roundw
      case rel =>
        refine ⟨ps ++ [r], y, ys, fun z hz => HNM.out z (List.mem_cons_of_mem _ hz), ?_, HO4.out, ?_, HR4.out, HB4.out⟩
        · have := HS4.out.drop 1 (by have := HLE.out; omega)
          rwa [show (txs (barT (y :: ys))).drop 1 = txs (altT y ys) from rfl] at this
        · rw [← HALL.out, HLT.out]; simp
      case measure =>
        have h1 := HN1.out
        have h2 := HN3.out
        unfold altT at h1
        rw [List.length_cons, barT_length] at h1
        show n3 - 1 < n1
        omega

set_option maxRecDepth 100000 in
set_option maxHeartbeats 1000000 in
theorem rule_any {S : Nat → Prop} (x0 : ByteArray) (ys0 : List ByteArray) (v : Value) (w : World) (hSw : ∀ b, S b → b < w.heap.size) (hx0 : ∀ z ∈ x0 :: ys0, isNm z = true) (hl0 : ys0.length ≤ 100000) (h : Sl S w 1 v (txs (altT x0 ys0))) :
    Calls Try.prog 53 #[v, .int .i64 0] w fun e w' => ∃ v' pv, e = .returned (.tuple #[rV (altR x0 ys0) pv, v', .bool true]) ∧ Sl S w' 1 v' [] ∧ RTAt (fun b => w.heap.size ≤ b ∧ b < w'.heap.size) w' (altR x0 ys0) pv ∧ Below w.heap.size w w' := by
  have HSW := Lib.hid hSw
  have hb1 := Ext.alloc w (.cells #[.int .i64 0, .string ⟨#[]⟩, .string ⟨#[]⟩, .slice none 0 0] 72)
  have HR0 := Lib.hid (Blk.made w #[.int .i64 0, .string ⟨#[]⟩, .string ⟨#[]⟩, .slice none 0 0] 72)
  have HSV := Lib.hid (several4_any (S := S) x0 ys0 v (w.alloc (.cells #[.int .i64 0, .string ⟨#[]⟩, .string ⟨#[]⟩, .slice none 0 0] 72)) (fun b hb => Nat.lt_of_lt_of_le (HSW.out b hb) hb1.size) hx0 hl0 (h.same ((Same.below hb1).mono HSW.out)))
  have HB1 := Lib.hid hb1
  obtain ⟨ao, n, c, rfl, -, -, -⟩ := h.len
  clear hSw hx0 hl0 h hb1
  generalize altR x0 ys0 = r at *
  unfold rV at HSV ⊢
  go_enter Try.func53, Try.ntmps53
  go_wp2_with fail
  refine HSV.out.mono ?_
  rintro e w3 ⟨v3, pv, rfl, hsl3, hat3, hb3⟩
  have HR3 := Lib.hid (HR0.out.below hb3)
  have HB3 := Lib.hid (show Below w.heap.size w w3 from HB1.out.trans hb3)
  have HSL3 := Lib.hid hsl3
  have HAT3 := Lib.hid hat3
  have HSZ := Lib.hid HR0.out.lt
  obtain ⟨ao3, n3, c3, rfl, -, -, -⟩ := hsl3.len
  obtain ⟨ao5, c5, rfl, -, -, -⟩ := hat3.rows
  clear hb3 HR0 HB1 HSV hsl3 hat3
  have r3 := HR3.out.cells
  have f3 := HR3.out.free
  go_wp2_with fail
  have hs1 := HR3.out.set_to 0 (.int .i64 r.k) rfl
  have hs2 := hs1.set_to 1 (.string r.a) rfl
  have hs3 := hs2.set_to 2 (.string r.b) rfl
  have hs4 := hs3.set_to 3 (.slice ao5 r.ps.length c5) rfl
  have hbe := setAt (i := 3) (v := .slice ao5 r.ps.length c5) (setAt (i := 2) (v := .string r.b) (setAt (i := 1) (v := .string r.a) (setAt (i := 0) (v := .int .i64 r.k) HB3.out)))
  have hno : ¬ S w.heap.size := fun h => by have := HSW.out _ h; omega
  have hkb := ((((Kept.refl S w3).set (a := ⟨w.heap.size, 0, none⟩) hno (.int .i64 r.k)).set (a := ⟨w.heap.size, 1, none⟩) hno (.string r.a)).set (a := ⟨w.heap.size, 2, none⟩) hno (.string r.b)).set (a := ⟨w.heap.size, 3, none⟩) hno (.slice ao5 r.ps.length c5)
  have hkq := ((((Kept.refl (fun x => w.heap.size + 1 ≤ x) w3).set (a := ⟨w.heap.size, 0, none⟩) (Nat.not_succ_le_self _) (.int .i64 r.k)).set (a := ⟨w.heap.size, 1, none⟩) (Nat.not_succ_le_self _) (.string r.a)).set (a := ⟨w.heap.size, 2, none⟩) (Nat.not_succ_le_self _) (.string r.b)).set (a := ⟨w.heap.size, 3, none⟩) (Nat.not_succ_le_self _) (.slice ao5 r.ps.length c5)
  refine bodyPost_ret (v := .tuple #[.agg #[.int .i64 r.k, .string r.a, .string r.b, .slice ao5 r.ps.length c5], .slice ao3 n3 c3, .bool true]) ?_ rfl ⟨_, .slice ao5 r.ps.length c5, rfl, ?_, ?_, hbe⟩
  · rw [results_cell_tmp2 rfl]
    have hl := run_loadVar_row (P := Try.prog) _ w.heap.size _ 72 _ _ _ hs4 Try.underlying72 rfl (by kernel_rfl)
    simp [asAddr, hl, Result.andThen]
  · exact HSL3.out.same hkb.block
  · have h1 := HSZ.out
    exact (HAT3.out.same fun b hb => hkq.block b (by have := hb.1; simp at this; omega)).mono fun b hb => ⟨by have := hb.1; simp at this; omega, by simpa using hb.2⟩

end Go.Proofs.Ytipddhcfcehcaaa
