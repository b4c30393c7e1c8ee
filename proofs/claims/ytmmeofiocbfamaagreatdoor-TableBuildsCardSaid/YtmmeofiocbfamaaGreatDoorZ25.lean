/- slices.BinarySearch at texts; slices.BinarySearchFunc at places. A table as it lies; Blocks, Len, May, Block. table's Block. No condition: lemmas. -/
import Derived.Test.YtmmeofiocbfamaaGreatDoorZ23
namespace Go.Proofs.YtmmeofiocbfamaaGreatDoor
open Go Go.RowKit

theorem UpK.up {l : List ByteArray} (h : UpK l) : Up l := by
  unfold Up
  induction l with
  | nil => exact List.Pairwise.nil
  | cons a l ih =>
    have ht : UpK l := fun j hj => h (j + 1) (by simpa using hj)
    have ih := ih ht
    refine List.Pairwise.cons (fun x hx => ?_) ih
    cases l with
    | nil => cases hx
    | cons b l =>
      have hab : ltS a b = true := h 0 (by simp)
      rcases List.mem_cons.1 hx with rfl | hx
      · exact hab
      · exact ltS_trans hab ((List.pairwise_cons.1 ih).1 x hx)
theorem Up.upK {l : List ByteArray} (h : Up l) : UpK l := fun j hj => List.pairwise_iff_getElem.1 h j (j + 1) (by omega) hj (by omega)

def Found (l : List ByteArray) (k : ByteArray) (w : World) (e : Ending) (w' : World) : Prop := ∃ (i : Nat) (b : Bool), e = .returned (.tuple #[.int .i64 i, .bool b]) ∧ Splits l k i ∧ w = w'

set_option maxRecDepth 100000 in
set_option maxHeartbeats 1600000 in
theorem bsearchS_any (x : Value) (l : List ByteArray) (k : ByteArray) (w : World) (S : Nat → Prop) (hx : Sl S w 1 x (sc l)) (hl : l.length ≤ 1000000) (hU : Up l) :
    Calls Tryz.prog 50 #[x, .string k] w (Found l k w) := by
  obtain ⟨ao, c, rfl, hac, hcm, hacell⟩ := hx.strs
  have HAC := Lib.hid hacell
  have HU := Lib.hid hU
  clear hacell hx hU
  go_enter Tryz.func50, Tryz.ntmps50
  go_wp2
  go_loop [7, 8] (fun ii jj => ∃ i j : Nat, i ≤ j ∧ j ≤ l.length ∧ ii = .int .i64 i ∧ jj = .int .i64 j ∧ (∀ m (hm : m < l.length), m < i → ltS l[m] k = true) ∧ (∀ m (hm : m < l.length), j ≤ m → ltS l[m] k = false)) (fun ii jj => (intOf jj).toNat - (intOf ii).toNat)
  case atStart => exact ⟨0, l.length, by omega, by omega, rfl, rfl, fun _ _ h => absurd h (by omega), fun _ _ h => absurd h (by omega)⟩
  case round =>
    obtain ⟨i, j, hij, hj, rfl, rfl, hlo, hhi⟩ := hrel
    have HLO := Lib.hid hlo
    have HHI := Lib.hid hhi
    clear hlo hhi
    by_cases hlt : i < j
    · obtain ⟨b, off, rfl, -, hc⟩ := HAC.out (by omega)
      have hci := hc ((i + j) / 2) (by omega)
      have hm : (i + j) / 2 < l.length := by omega
      clear hc
      cases hb : ltS l[(i + j) / 2] k with
      | true =>
        have HB := Lib.hid hb
        have HC := Lib.hid (lessStr_any l[(i + j) / 2] k w)
        clear hb
        go_wp2_with fail
        refine HC.out.mono ?_
        rintro e w1 ⟨rfl, rfl⟩
        rw [HB.out]
        go_wp2_with fail
        go_round
        case rel => exact ⟨(i + j) / 2 + 1, j, by omega, by omega, by rw [show ((i : Int) + (j : Int)) / 2 + 1 = (((i + j) / 2 + 1 : Nat) : Int) by omega], rfl, fun m hm' h => up_below HU.out hm hm' (by omega) HB.out, HHI.out⟩
        case measure => simp [intOf]; omega
      | false =>
        have HB := Lib.hid hb
        have HC := Lib.hid (lessStr_any l[(i + j) / 2] k w)
        clear hb
        go_wp2_with fail
        refine HC.out.mono ?_
        rintro e w1 ⟨rfl, rfl⟩
        rw [HB.out]
        go_wp2_with fail
        go_round
        case rel => exact ⟨i, (i + j) / 2, by omega, by omega, rfl, by rw [show ((i : Int) + (j : Int)) / 2 = (((i + j) / 2 : Nat) : Int) by omega], HLO.out, fun m hm' h => up_above HU.out hm hm' h HB.out⟩
        case measure => simp [intOf]; omega
    · obtain rfl : i = j := by omega
      have HSP := Lib.hid (show Splits l k i from ⟨hj, HLO.out, HHI.out⟩)
      by_cases hin : i < l.length
      · obtain ⟨b, off, rfl, -, hc⟩ := HAC.out (by omega)
        have hci := hc i hin
        have e1 := ByteArray.toList_eq l[i]
        have e2 := ByteArray.toList_eq k
        clear hc
        by_cases he : l[i] = k
        · have hbq : (l[i].data.toList == k.data.toList) = true := by rw [he]; simp
          clear he
          go_wp2
          go_ret2
          exact ⟨_, _, rfl, HSP.out, rfl⟩
        · have hbq := ba_beq he
          clear he
          go_wp2
          go_ret2
          exact ⟨_, _, rfl, HSP.out, rfl⟩
      · obtain rfl : i = l.length := by omega
        go_wp2
        go_ret2
        exact ⟨_, _, rfl, HSP.out, rfl⟩


theorem cmpL_neg : ∀ a b : List UInt8, Lib.compareBytes a b < 0 ↔ a < b
  | [], [] => by simp [Lib.compareBytes]
  | [], _ :: _ => by simp [Lib.compareBytes]
  | _ :: _, [] => by simp [Lib.compareBytes]
  | a :: l, b :: m => by
    rw [Lib.compareBytes, List.cons_lt_cons_iff]
    by_cases h : a < b
    · simp [h]
    · rw [if_neg h]
      by_cases h2 : b < a
      · rw [if_pos h2]
        have : ¬ a = b := fun e => by rw [e] at h2; exact UInt8.lt_irrefl _ h2
        simp [h, this]
      · rw [if_neg h2, cmpL_neg l m]
        have e : a = b := UInt8.le_antisymm (UInt8.not_lt.1 h2) (UInt8.not_lt.1 h)
        simp [h, e]
theorem cmpB_neg (a b : ByteArray) : Lib.compareBytes a.data.toList b.data.toList < 0 ↔ ltS a b = true := by
  rw [cmpL_neg, ltS_iff, decide_eq_true_eq]

set_option maxRecDepth 100000 in
set_option maxHeartbeats 600000 in
theorem cmpP_any (p : Plc) (k : ByteArray) (w : World) :
    Calls Tryz.prog 48 #[.agg #[.string p.first, .int .i64 p.at_, .int .i64 p.size], .string k] w fun e w' => e = .returned (.int .i64 (Lib.compareBytes p.first.data.toList k.data.toList)) ∧ Ext w w' := by
  obtain ⟨pf, pa, ps⟩ := p
  dsimp only
  have HC := Lib.hid (Tryz.strings_Compare pf k)
  have HX := Lib.hid (Ext.alloc w (.cells #[.string pf, .int .i64 pa, .int .i64 ps] 82))
  have hcp := (Blk.made w #[.string pf, .int .i64 pa, .int .i64 ps] 82).cells
  go_enter Tryz.func48, Tryz.ntmps48
  go_wp2_with fail
  refine (HC.out _).mono ?_
  rintro e w1 ⟨rfl, rfl⟩
  go_wp2_with fail
  go_ret
  exact ⟨rfl, HX.out⟩

set_option maxRecDepth 100000 in
set_option maxHeartbeats 1600000 in
theorem bsearchP_any (x : Value) (l : List Plc) (k : ByteArray) (w : World) (hx : Sl (· < w.heap.size) w 3 x (plcs l)) (hl : l.length ≤ 1000000) (hU : Up (l.map (·.first))) :
    Calls Tryz.prog 47 #[x, .string k, .func (.func 48) #[] #[]] w fun e w' => ∃ (i : Nat) (bv : Value), e = .returned (.tuple #[.int .i64 i, bv]) ∧ Splits (l.map (·.first)) k i ∧ Ext w w' := by
  obtain ⟨ao, c, rfl, hac, hcm, hacell⟩ := hx.plcs
  have HAC := Lib.hid hacell
  have HU := Lib.hid hU
  have HML := Lib.hid (show (l.map (·.first)).length = l.length from List.length_map _)
  clear hacell hx hU
  go_enter Tryz.func47, Tryz.ntmps47
  go_wp2_with fail
  go_loopw [9, 10] (fun ii jj wr => ∃ i j : Nat, i ≤ j ∧ j ≤ l.length ∧ ii = .int .i64 i ∧ jj = .int .i64 j ∧ (∀ m (hm : m < (l.map (·.first)).length), m < i → ltS (l.map (·.first))[m] k = true) ∧ (∀ m (hm : m < (l.map (·.first)).length), j ≤ m → ltS (l.map (·.first))[m] k = false) ∧ Ext w wr) (fun ii jj _ => (intOf jj).toNat - (intOf ii).toNat)
  case atStart => exact ⟨0, l.length, by omega, by omega, rfl, rfl, fun _ _ h => absurd h (by omega), fun _ hm h => absurd h (by have := HML.out; omega), Ext.refl _⟩
  case round =>
    obtain ⟨i, j, hij, hj, rfl, rfl, hlo, hhi, hx⟩ := hrel
    have HLO := Lib.hid hlo
    have HHI := Lib.hid hhi
    have HX := Lib.hid hx
    clear hlo hhi hx
    by_cases hlt : i < j
    · obtain ⟨h, hh⟩ : ∃ h, h = (i + j) / 2 := ⟨_, rfl⟩
      have hhl : h < l.length := by omega
      obtain ⟨b, off, rfl, hb, c0, c1, c2⟩ := HAC.out h hhl
      have d0 := HX.out.cell (a := ⟨b, off + h * 3, none⟩) c0
      have d1 := HX.out.cell (a := ⟨b, off + h * 3 + 1, none⟩) c1
      have d2 := HX.out.cell (a := ⟨b, off + h * 3 + 2, none⟩) c2
      have HGE := Lib.hid (show (l.map (·.first))[h]'(by rw [HML.out]; exact hhl) = l[h].first from List.getElem_map ..)
      have HC := Lib.hid (cmpP_any l[h] k wr)
      have HN := Lib.hid (cmpB_neg l[h].first k)
      have hhi2 : ((i : Int) + (j : Int)) / 2 = (h : Int) := by omega
      have HHH := Lib.hid hh
      clear c0 c1 c2 hb hh
      generalize l[h] = p at *
      obtain ⟨pf, pa, pz⟩ := p
      dsimp only at d0 d1 d2 HGE HC HN
      generalize Lib.compareBytes pf.data.toList k.data.toList = cv at *
      go_wp2_with fail
      refine HC.out.mono ?_
      rintro e w5 ⟨rfl, hx5⟩
      have HX5 := Lib.hid (HX.out.trans hx5)
      clear hx5 d0 d1 d2 HC HX
      by_cases hc : cv < 0
      · have HB := Lib.hid (HN.out.1 hc)
        have hh1 : wrap64 ((h : Int) + 1) = (h : Int) + 1 := by unfold wrap64; omega
        go_wp2_with fail
        go_roundw
        case rel => exact ⟨h + 1, j, by have := HHH.out; omega, by omega, by go_num, rfl, fun m hm h' => up_below HU.out (i := h) (by rw [HML.out]; exact hhl) hm (by omega) (by rw [HGE.out]; exact HB.out), HHI.out, HX5.out⟩
        case measure => have := HHH.out; simp [intOf]; omega
      · have HB := Lib.hid (show ltS pf k = false from by cases e : ltS pf k with | false => rfl | true => exact absurd (HN.out.2 e) hc)
        go_wp2_with fail
        go_roundw
        case rel => exact ⟨i, h, by have := HHH.out; omega, by omega, rfl, rfl, HLO.out, fun m hm h' => up_above HU.out (i := h) (by rw [HML.out]; exact hhl) hm h' (by rw [HGE.out]; exact HB.out), HX5.out⟩
        case measure => have := HHH.out; simp [intOf]; omega
    · obtain rfl : i = j := by omega
      have HSP := Lib.hid (show Splits (l.map (·.first)) k i from ⟨by rw [HML.out]; exact hj, HLO.out, HHI.out⟩)
      by_cases hin : i < l.length
      · obtain ⟨b, off, rfl, hb, c0, c1, c2⟩ := HAC.out i hin
        have d0 := HX.out.cell (a := ⟨b, off + i * 3, none⟩) c0
        have d1 := HX.out.cell (a := ⟨b, off + i * 3 + 1, none⟩) c1
        have d2 := HX.out.cell (a := ⟨b, off + i * 3 + 2, none⟩) c2
        have HC := Lib.hid (cmpP_any l[i] k wr)
        clear c0 c1 c2 hb
        generalize l[i] = p at *
        obtain ⟨pf, pa, pz⟩ := p
        dsimp only at d0 d1 d2 HC
        go_wp2_with fail
        refine HC.out.mono ?_
        rintro e w5 ⟨rfl, hx5⟩
        have HX5 := Lib.hid (HX.out.trans hx5)
        clear hx5 d0 d1 d2 HC HX
        generalize (Lib.compareBytes pf.data.toList k.data.toList) = cv
        go_wp2_with fail
        go_ret2
        exact ⟨i, _, rfl, HSP.out, HX5.out⟩
      · have hni : ¬ ((i : Int) < (l.length : Int)) := by omega
        go_wp2_with fail
        go_ret2
        exact ⟨i, ⟨_, rfl⟩, HSP.out, HX.out⟩

end Go.Proofs.YtmmeofiocbfamaaGreatDoor
namespace Go.Proofs.YtmmeofiocbfamaaGreatDoor
open Go Go.RowKit

/-- A table that is open. -/
structure Tb where
  idx : List Plc
  b : List UInt8
  filter : List UInt8
  count : Nat
/-- What holds of each table that is open. -/
structure TbOk (t : Tb) : Prop where
  up : Up (t.idx.map (·.first))
  len : t.b.length ≤ 60000
  flen : t.filter.length ≤ 60000
  ilen : t.idx.length ≤ 60000
  places : ∀ p ∈ t.idx, p.at_ + p.size ≤ 60000
/-- The table lies at tb. -/
def TbAt (w : World) (tb : Nat) (t : Tb) : Prop := ∃ xv bv fv, Blk w tb #[xv, bv, fv, .int .i64 t.count] 80 ∧ Sl (· < w.heap.size) w 3 xv (plcs t.idx) ∧ Sl (· < w.heap.size) w 1 bv (bc t.b) ∧ Sl (· < w.heap.size) w 1 fv (bc t.filter)
theorem TbAt.up {w w' : World} {tb : Nat} {t : Tb} (h : TbAt w tb t) (hx : Ext w w') : TbAt w' tb t := by
  obtain ⟨xv, bv, fv, h1, h2, h3, h4⟩ := h
  exact ⟨xv, bv, fv, h1.below hx, Sl.up h2 hx, Sl.up h3 hx, Sl.up h4 hx⟩
def BlkOf (t : Tb) (i : Int) (ks : List ByteArray) : Prop := ∃ (j : Nat) (hj : j < t.idx.length), i = j ∧ ∃ p, partB t.b (t.idx[j].at_ : Int) ((t.idx[j].at_ + t.idx[j].size : Nat) : Int) = (p, 0) ∧ KeysOf p ks ∧ ks.head? = some t.idx[j].first
theorem BlkOf.uniq {t : Tb} {i : Int} {ks ls : List ByteArray} (h : BlkOf t i ks) (k : BlkOf t i ls) : ks = ls := by
  obtain ⟨j, hj, rfl, p, h1, h2, -⟩ := h
  obtain ⟨j', hj', e, q, k1, k2, -⟩ := k
  obtain rfl : j = j' := by omega
  rw [h1] at k1
  simp only [Prod.mk.injEq, and_true] at k1
  subst k1
  exact h2.uniq k2
def RetBlock (t : Tb) (i : Int) (w : World) (e : Ending) (w' : World) : Prop := Ext w w' ∧
  ((∃ ks v, BlkOf t i ks ∧ e = .returned (.tuple #[v, .int .i64 0]) ∧ Sl (fun b => w.heap.size ≤ b ∧ b < w'.heap.size) w' 1 v (sc ks)) ∨
   ((∀ ks, ¬ BlkOf t i ks) ∧ ∃ er : Nat, er ≠ 0 ∧ (i < 0 ∨ (t.idx.length : Int) ≤ i → er = 1) ∧ e = .returned (.tuple #[.slice none 0 0, .int .i64 er])))

set_option maxRecDepth 100000 in
theorem blocks_any (tb : Nat) (t : Tb) (w : World) (h : TbAt w tb t) : Calls Tryz.prog 12 #[.pointer (some ⟨tb, 0, none⟩)] w fun e w' => e = .returned (.int .i64 t.idx.length) ∧ w' = w := by
  obtain ⟨xv, bv, fv, hb, hx, -, -⟩ := h
  obtain ⟨xo, xc, rfl, -, -, -⟩ := hx.plcs
  have hcells := hb.cells
  go_enter Tryz.func12, Tryz.ntmps12
  go_wp2_with fail
  go_ret
  exact ⟨rfl, rfl⟩
set_option maxRecDepth 100000 in
theorem blocks_nil (w : World) : Calls Tryz.prog 12 #[.pointer none] w fun e w' => e = .returned (.int .i64 0) ∧ w' = w := by
  go_enter Tryz.func12, Tryz.ntmps12
  go_wp2_with fail
  go_ret
  exact ⟨rfl, rfl⟩
set_option maxRecDepth 100000 in
theorem len_any (tb : Nat) (t : Tb) (w : World) (h : TbAt w tb t) : Calls Tryz.prog 10 #[.pointer (some ⟨tb, 0, none⟩)] w fun e w' => e = .returned (.int .i64 t.count) ∧ w' = w := by
  obtain ⟨xv, bv, fv, hb, -, -, -⟩ := h
  have hcells := hb.cells
  go_enter Tryz.func10, Tryz.ntmps10
  go_wp2_with fail
  go_ret
  exact ⟨rfl, rfl⟩
set_option maxRecDepth 100000 in
theorem len_nil (w : World) : Calls Tryz.prog 10 #[.pointer none] w fun e w' => e = .returned (.int .i64 0) ∧ w' = w := by
  go_enter Tryz.func10, Tryz.ntmps10
  go_wp2_with fail
  go_ret
  exact ⟨rfl, rfl⟩
set_option maxRecDepth 100000 in
theorem tmay_any (tb : Nat) (t : Tb) (w : World) (k : ByteArray) (h : TbAt w tb t) (ok : TbOk t) (hk : k.size ≤ 1000000000) : Calls Tryz.prog 17 #[.pointer (some ⟨tb, 0, none⟩), .string k] w fun e w' => e = .returned (.bool (mayB t.filter k.data.toList)) ∧ Ext w w' := by
  obtain ⟨xv, bv, fv, hb, -, -, hf⟩ := h
  have HM := Lib.hid (may_any fv t.filter k w (fun b hb => hb) hf (by have := ok.flen; omega) hk)
  obtain ⟨fo, fc, rfl, -, -, -, -⟩ := Sl.bytes hf
  have hcells := hb.cells
  generalize mayB t.filter k.data.toList = q at *
  go_enter Tryz.func17, Tryz.ntmps17
  go_wp2_with fail
  refine HM.out.mono ?_
  rintro e w1 ⟨rfl, hx⟩
  have HX := Lib.hid hx
  clear hx hf hb
  go_wp2_with fail
  go_ret
  exact ⟨rfl, HX.out⟩
set_option maxRecDepth 100000 in
theorem tmay_nil (w : World) (k : ByteArray) : Calls Tryz.prog 17 #[.pointer none, .string k] w fun e w' => e = .returned (.bool false) ∧ w' = w := by
  go_enter Tryz.func17, Tryz.ntmps17
  go_wp2_with fail
  go_ret
  exact ⟨rfl, rfl⟩
set_option maxRecDepth 100000 in
theorem block_nil (w : World) (i : Int) : Calls Tryz.prog 13 #[.pointer none, .int .i64 i] w fun e w' => e = .returned (.tuple #[.slice none 0 0, .int .i64 1]) ∧ w' = w := by
  have HB := Lib.hid (blocks_nil w)
  go_enter Tryz.func13, Tryz.ntmps13
  by_cases h : i < 0
  · go_wp2_with fail
    go_ret2
    exact ⟨rfl, rfl⟩
  · have h2 : (0 : Int) ≤ i := by omega
    go_wp2_with fail
    refine HB.out.mono ?_
    rintro e w1 ⟨rfl, rfl⟩
    go_wp2_with fail
    go_ret2
    exact ⟨rfl, rfl⟩

end Go.Proofs.YtmmeofiocbfamaaGreatDoor
namespace Go.Proofs.YtmmeofiocbfamaaGreatDoor
open Go Go.RowKit

theorem nextB_len (b : List UInt8) : (nextB b).1.length ≤ b.length := by
  unfold nextB
  split
  · exact Nat.zero_le _
  · split
    · exact Nat.zero_le _
    · show (List.take _ (List.drop _ b)).length ≤ _
      rw [List.length_take, List.length_drop]; omega
theorem partB_len (b : List UInt8) (lo hi : Int) : (partB b lo hi).1.length ≤ b.length := by
  unfold partB
  split
  · exact Nat.zero_le _
  · split
    · exact Nat.zero_le _
    · split
      · exact Nat.zero_le _
      · refine Nat.le_trans (nextB_len _) ?_
        rw [List.length_take, List.length_drop]; omega

set_option maxRecDepth 100000 in
set_option maxHeartbeats 1600000 in
theorem block_any (tb : Nat) (t : Tb) (i : Int) (w : World) (h : TbAt w tb t) (ok : TbOk t) :
    Calls Tryz.prog 13 #[.pointer (some ⟨tb, 0, none⟩), .int .i64 i] w (RetBlock t i w) := by
  have HT := Lib.hid h
  have HOK := Lib.hid ok
  have HB := Lib.hid (blocks_any tb t w h)
  clear h ok
  by_cases hbad : i < 0 ∨ (t.idx.length : Int) ≤ i
  · have HN := Lib.hid (show ∀ ks, ¬ BlkOf t i ks from fun ks k => by obtain ⟨j, hj, rfl, -⟩ := k; omega)
    go_enter Tryz.func13, Tryz.ntmps13
    by_cases h0 : i < 0
    · clear hbad
      go_wp2_with fail
      go_ret2
      exact ⟨Ext.refl _, .inr ⟨HN.out, 1, by decide, fun _ => rfl, rfl⟩⟩
    · have h2 : (0 : Int) ≤ i := by omega
      have h3 : (t.idx.length : Int) ≤ i := by omega
      clear hbad
      go_wp2_with fail
      refine HB.out.mono ?_
      rintro e w1 ⟨rfl, rfl⟩
      go_wp2_with fail
      go_ret2
      exact ⟨Ext.refl _, .inr ⟨HN.out, 1, by decide, fun _ => rfl, rfl⟩⟩
  obtain ⟨j, rfl⟩ : ∃ j : Nat, i = j := ⟨i.toNat, by omega⟩
  have hj : j < t.idx.length := by omega
  have HNB := Lib.hid hbad
  clear hbad
  obtain ⟨xv, bv, fv, hb, hx, hbb, -⟩ := HT.out
  have HBB := Lib.hid hbb
  have HBK := Lib.hid hb
  obtain ⟨xo, xc, rfl, -, -, hrow⟩ := hx.plcs
  obtain ⟨b, off, rfl, hbl, c0, c1, c2⟩ := hrow j hj
  obtain ⟨bo, bcap, rfl, -, -, -, -⟩ := Sl.bytes hbb
  have HPL := Lib.hid (HOK.out.places _ (List.getElem_mem hj))
  have HBO := Lib.hid (fun ks (p : List UInt8) (h1 : partB t.b (t.idx[j].at_ : Int) ((t.idx[j].at_ + t.idx[j].size : Nat) : Int) = (p, 0)) => show BlkOf t j ks ↔ (KeysOf p ks ∧ ks.head? = some t.idx[j].first) from ⟨fun ⟨j', hj', e, q, k1, k2, k3⟩ => by
    obtain rfl : j = j' := by omega
    rw [h1] at k1
    simp only [Prod.mk.injEq, and_true] at k1
    subst k1
    exact ⟨k2, k3⟩, fun ⟨k2, k3⟩ => ⟨j, hj, rfl, p, h1, k2, k3⟩⟩)
  have HBN := Lib.hid (fun ks (h1 : (partB t.b (t.idx[j].at_ : Int) ((t.idx[j].at_ + t.idx[j].size : Nat) : Int)).2 ≠ 0) (k : BlkOf t j ks) => show False from by
    obtain ⟨j', hj', e, q, k1, -⟩ := k
    obtain rfl : j = j' := by omega
    rw [k1] at h1
    exact h1 rfl)
  generalize t.idx[j] = p at *
  obtain ⟨pf, pa, pz⟩ := p
  dsimp only at c0 c1 c2 HPL HBO HBN
  have hcells := hb.cells
  have hji : (j : Int) < (t.idx.length : Int) := by omega
  have hj0 : ¬ ((j : Int) < 0) := by omega
  have HPP := Lib.hid (fun W (hW : Ext w W) => part_any (.slice bo t.b.length bcap) t.b pa ((pa + pz : Nat) : Int) W (Sl.up hbb hW) (by have := HOK.out.len; omega) (by have := HPL.out; omega) (by have := HPL.out; omega))
  have HPE := Lib.hid (show (partB t.b pa ((pa + pz : Nat) : Int)).2 = 0 ∨ (partB t.b pa ((pa + pz : Nat) : Int)).2 ≠ 0 from by omega)
  clear hrow hbl hx hbb hb
  go_enter Tryz.func13, Tryz.ntmps13
  go_wp2_with fail
  refine HB.out.mono ?_
  rintro e w1 ⟨rfl, rfl⟩
  go_wp2_with fail
  obtain ⟨wp, hwp⟩ : ∃ wp, wp = w1.alloc (.cells #[.string pf, .int .i64 pa, .int .i64 pz] 82) := ⟨_, rfl⟩
  obtain ⟨pb, hpb⟩ : ∃ pb, pb = w1.heap.size := ⟨_, rfl⟩
  rw [← hwp, ← hpb]
  obtain ⟨wd, hwd⟩ : ∃ wd, wd = wp.drew := ⟨_, rfl⟩
  have HX := Lib.hid (show Ext w1 wd from by rw [hwd, hwp]; exact (Ext.alloc w1 _).trans (Ext.drew _))
  have HPB := Lib.hid (show Blk wd pb #[.string pf, .int .i64 pa, .int .i64 pz] 82 from by rw [hwd, hwp, hpb]; exact (Blk.made w1 _ _).drew)
  refine region_walkN (Ext wd) (by rw [← hwd]; exact Ext.refl _) (by kernel_rfl) (by kernel_rfl) (fun _ _ d _ _ h => by cases d <;> exact h) ?_
  rw [← hwd]
  clear hwd hwp hpb hcells c0 c1 c2
  have hA := fun W (h : Ext wd W) => (HBK.out.below (HX.out.trans h)).cells
  have hB := fun W (h : Ext wd W) => (HPB.out.below h).cells
  have hws : IntKind.i64.wrap ((pa : Int) + (pz : Int)) = ((pa : Int) + (pz : Int)) := IntWalk.i64_in _ (by have := HPL.out; omega)
  ((refine WalkN.take 0 _ ?_ (by simp only [List.getElem?_toArray, List.getElem?_cons_zero]; rfl) (by kernel_rfl) (by kernel_rfl) (by rfl) (fun W hW => ?_) ?_; rotate_left; · (go_simp; try with_reducible rfl)); simp only [Act.put, List.setIfInBounds_toArray, List.set_cons_zero, List.set_cons_succ]); ((refine WalkN.take 1 _ ?_ (by simp only [List.getElem?_toArray, List.getElem?_cons_succ, List.getElem?_cons_zero]; rfl) (by kernel_rfl) (by kernel_rfl) (by rfl) (fun W hW => ?_) ?_; rotate_left; · (go_simp; try with_reducible rfl)); simp only [Act.put, List.setIfInBounds_toArray, List.set_cons_zero, List.set_cons_succ]); ((refine WalkN.take 2 _ ?_ (by simp only [List.getElem?_toArray, List.getElem?_cons_succ, List.getElem?_cons_zero]; rfl) (by kernel_rfl) (by kernel_rfl) (by rfl) (fun W hW => ?_) ?_; rotate_left; · (go_simp; try with_reducible rfl)); simp only [Act.put, List.setIfInBounds_toArray, List.set_cons_zero, List.set_cons_succ]); ((refine WalkN.take 3 _ ?_ (by simp only [List.getElem?_toArray, List.getElem?_cons_succ, List.getElem?_cons_zero]; rfl) (by kernel_rfl) (by kernel_rfl) (by rfl) (fun W hW => ?_) ?_; rotate_left; · (go_simp; try with_reducible rfl)); simp only [Act.put, List.setIfInBounds_toArray, List.set_cons_zero, List.set_cons_succ]); ((refine WalkN.take 4 _ ?_ (by simp only [List.getElem?_toArray, List.getElem?_cons_succ, List.getElem?_cons_zero]; rfl) (by kernel_rfl) (by kernel_rfl) (by rfl) (fun W hW => ?_) ?_; rotate_left; · (go_simp; try with_reducible rfl)); simp only [Act.put, List.setIfInBounds_toArray, List.set_cons_zero, List.set_cons_succ]); ((refine WalkN.take 5 _ ?_ (by simp only [List.getElem?_toArray, List.getElem?_cons_succ, List.getElem?_cons_zero]; rfl) (by kernel_rfl) (by kernel_rfl) (by rfl) (fun W hW => ?_) ?_; rotate_left; · (go_simp; try with_reducible rfl)); simp only [Act.put, List.setIfInBounds_toArray, List.set_cons_zero, List.set_cons_succ]); ((refine WalkN.take 6 _ ?_ (by simp only [List.getElem?_toArray, List.getElem?_cons_succ, List.getElem?_cons_zero]; rfl) (by kernel_rfl) (by kernel_rfl) (by rfl) (fun W hW => ?_) ?_; rotate_left; · (go_simp; try with_reducible rfl)); simp only [Act.put, List.setIfInBounds_toArray, List.set_cons_zero, List.set_cons_succ]); ((refine WalkN.take 7 _ ?_ (by simp only [List.getElem?_toArray, List.getElem?_cons_succ, List.getElem?_cons_zero]; rfl) (by kernel_rfl) (by kernel_rfl) (by rfl) (fun W hW => ?_) ?_; rotate_left; · (go_simp; try with_reducible rfl)); simp only [Act.put, List.setIfInBounds_toArray, List.set_cons_zero, List.set_cons_succ]); ((refine WalkN.take 8 _ ?_ (by simp only [List.getElem?_toArray, List.getElem?_cons_succ, List.getElem?_cons_zero]; rfl) (by kernel_rfl) (by kernel_rfl) (by rfl) (fun W hW => ?_) ?_; rotate_left; · (go_simp; try with_reducible rfl)); simp only [Act.put, List.setIfInBounds_toArray, List.set_cons_zero, List.set_cons_succ]); ((refine WalkN.take 9 _ ?_ (by simp only [List.getElem?_toArray, List.getElem?_cons_succ, List.getElem?_cons_zero]; rfl) (by kernel_rfl) (by kernel_rfl) (by rfl) (fun W hW => ?_) ?_; rotate_left; · (go_simp; try with_reducible rfl)); simp only [Act.put, List.setIfInBounds_toArray, List.set_cons_zero, List.set_cons_succ]); ((refine WalkN.take 10 _ ?_ (by simp only [List.getElem?_toArray, List.getElem?_cons_succ, List.getElem?_cons_zero]; rfl) (by kernel_rfl) (by kernel_rfl) (by rfl) (fun W hW => ?_) ?_; rotate_left; · (go_simp; try with_reducible rfl)); simp only [Act.put, List.setIfInBounds_toArray, List.set_cons_zero, List.set_cons_succ])
  clear hA hB hws
  have HPQ := Lib.hid (HPP.out wd HX.out)
  clear HPP
  rw [Int.natCast_add] at HPQ
  have HLN := Lib.hid (partB_len t.b pa ((pa + pz : Nat) : Int))
  rw [Int.natCast_add] at HLN HPE HBO HBN
  generalize partB t.b (pa : Int) ((pa : Int) + (pz : Int)) = r at *
  obtain ⟨pl, er⟩ := r
  dsimp only at HPE HBN HLN
  refine WalkN.one 11 (by kernel_rfl) ?_
  refine ⟨_, (by simp only [List.getElem?_toArray, List.getElem?_cons_succ, List.getElem?_cons_zero]; rfl), by rfl, fun K hK => ?_⟩
  go_simp
  refine HPQ.out.mono ?_
  rintro e w3 ⟨v3, rfl, hs3, hx3⟩
  dsimp only at hs3 ⊢
  refine hK.out _ _ hx3 ?_
  clear hK
  have HS3 := Lib.hid hs3
  have HX3 := Lib.hid (HX.out.trans hx3)
  have HPB3 := Lib.hid (HPB.out.below hx3)
  have HZ3 := Lib.hid (show w1.heap.size ≤ wd.heap.size from HX.out.size)
  obtain ⟨fo, fc, rfl, -, -, -, -⟩ := Sl.bytes hs3
  clear hs3 hx3 HPQ HX HPB
  ((refine WalkN.take 12 _ ?_ (by simp only [List.getElem?_toArray, List.getElem?_cons_succ, List.getElem?_cons_zero]; rfl) (by kernel_rfl) (by kernel_rfl) (by rfl) (fun W hW => ?_) ?_; rotate_left; · (go_simp; try with_reducible rfl)); simp only [Act.put, List.setIfInBounds_toArray, List.set_cons_zero, List.set_cons_succ]); ((refine WalkN.take 13 _ ?_ (by simp only [List.getElem?_toArray, List.getElem?_cons_succ, List.getElem?_cons_zero]; rfl) (by kernel_rfl) (by kernel_rfl) (by rfl) (fun W hW => ?_) ?_; rotate_left; · (go_simp; try with_reducible rfl)); simp only [Act.put, List.setIfInBounds_toArray, List.set_cons_zero, List.set_cons_succ]); ((refine WalkN.take 14 _ ?_ (by simp only [List.getElem?_toArray, List.getElem?_cons_succ, List.getElem?_cons_zero]; rfl) (by kernel_rfl) (by kernel_rfl) (by rfl) (fun W hW => ?_) ?_; rotate_left; · (go_simp; try with_reducible rfl)); simp only [Act.put, List.setIfInBounds_toArray, List.set_cons_zero, List.set_cons_succ]); ((refine WalkN.take 15 _ ?_ (by simp only [List.getElem?_toArray, List.getElem?_cons_succ, List.getElem?_cons_zero]; rfl) (by kernel_rfl) (by kernel_rfl) (by rfl) (fun W hW => ?_) ?_; rotate_left; · (go_simp; try with_reducible rfl)); simp only [Act.put, List.setIfInBounds_toArray, List.set_cons_zero, List.set_cons_succ]); ((refine WalkN.take 16 _ ?_ (by simp only [List.getElem?_toArray, List.getElem?_cons_succ, List.getElem?_cons_zero]; rfl) (by kernel_rfl) (by kernel_rfl) (by rfl) (fun W hW => ?_) ?_; rotate_left; · (go_simp; try with_reducible rfl)); simp only [Act.put, List.setIfInBounds_toArray, List.set_cons_zero, List.set_cons_succ])
  refine WalkN.done (by kernel_rfl) ?_
  by_cases her : er = 0
  rotate_left
  · have hei : ¬ ((er : Int) = 0) := by omega
    go_wp2_with fail
    go_ret2
    exact ⟨HX3.out, .inr ⟨fun ks k => HBN.out ks her k, er, her, fun h => absurd h HNB.out, rfl⟩⟩
  obtain rfl := her
  have HKY := Lib.hid (keys_any (.slice fo pl.length fc) pl w3 (HS3.out.mono fun b hb => hb.2) (by have := HLN.out; have := HOK.out.len; omega))
  have HBP := Lib.hid (fun ks => HBO.out ks pl rfl)
  clear HBO HBN HPE
  go_wp2_with fail
  refine HKY.out.mono ?_
  clear HKY
  rintro e w4 (⟨ks, v4, hk4, rfl, hs4, hx4⟩ | ⟨hk4, rfl, hx4⟩)
  rotate_left
  · have HX4 := Lib.hid (HX3.out.trans hx4)
    have HN4 := Lib.hid hk4
    clear hx4 hk4
    go_wp2_with fail
    go_ret2
    exact ⟨HX4.out, .inr ⟨fun ks k => HN4.out ks ((HBP.out ks).1 k).1, 9, by decide, fun h => absurd h HNB.out, rfl⟩⟩
  have HX4 := Lib.hid (HX3.out.trans hx4)
  have HK4 := Lib.hid hk4
  have HS4 := Lib.hid hs4
  have HPB4 := Lib.hid (HPB3.out.below hx4)
  have HZ4 := Lib.hid (show w1.heap.size ≤ w3.heap.size from HX3.out.size)
  obtain ⟨ko, kc, rfl, -, -, -, hkc⟩ := Sl.strs0 hs4
  clear hx4 hk4 hs4 HX3
  go_wp2_with fail
  obtain ⟨we, hwe⟩ : ∃ we, we = w4.drew := ⟨_, rfl⟩
  have HXe := Lib.hid (show Ext w1 we from by rw [hwe]; exact HX4.out.trans (Ext.drew w4))
  have HPBe := Lib.hid (show Blk we pb #[.string pf, .int .i64 pa, .int .i64 pz] 82 from by rw [hwe]; exact HPB4.out.drew)
  have HSe := Lib.hid (show Sl (fun b => w1.heap.size ≤ b ∧ b < we.heap.size) we 1 (.slice ko ks.length kc) (sc ks) from by rw [hwe]; exact HS4.out.mono fun b hb => ⟨Nat.le_trans HZ4.out hb.1, hb.2⟩)
  refine region_walkN (Ext we) (by rw [← hwe]; exact Ext.refl _) (by kernel_rfl) (by kernel_rfl) (fun _ _ d _ _ h => by cases d <;> exact h) ?_
  rw [← hwe]
  have hkc2 : 0 < ks.length → ∃ b off, ko = some ⟨b, off, none⟩ ∧ ∀ j (hj : j < ks.length), we.cell? ⟨b, off + j, none⟩ = some (.string ks[j]) := fun h => by
    obtain ⟨b, off, h1, -, h2⟩ := hkc h
    exact ⟨b, off, h1, fun j hj => by rw [hwe]; exact h2 j hj⟩
  clear hwe hkc HS4 HX4 HPB4 HPB3
  have hB := fun W (h : Ext we W) => (HPBe.out.below h).cells
  cases ks with
  | nil =>
    have HN := Lib.hid (show ∀ ks, ¬ BlkOf t j ks from fun ks k => by
      have h1 := (HBP.out ks).1 k
      rw [h1.1.uniq HK4.out] at h1
      simp at h1)
    clear hkc2
    simp only [List.length_nil] at *
    ((refine WalkN.take 0 _ ?_ (by simp only [List.getElem?_toArray, List.getElem?_cons_zero]; rfl) (by kernel_rfl) (by kernel_rfl) (by rfl) (fun W hW => ?_) ?_; rotate_left; · (go_simp; try with_reducible rfl)); simp only [Act.put, List.setIfInBounds_toArray, List.set_cons_zero, List.set_cons_succ]); ((refine WalkN.take 1 _ ?_ (by simp only [List.getElem?_toArray, List.getElem?_cons_succ, List.getElem?_cons_zero]; rfl) (by kernel_rfl) (by kernel_rfl) (by rfl) (fun W hW => ?_) ?_; rotate_left; · (go_simp; try with_reducible rfl)); simp only [Act.put, List.setIfInBounds_toArray, List.set_cons_zero, List.set_cons_succ]); ((refine WalkN.take 2 _ ?_ (by simp only [List.getElem?_toArray, List.getElem?_cons_succ, List.getElem?_cons_zero]; rfl) (by kernel_rfl) (by kernel_rfl) (by rfl) (fun W hW => ?_) ?_; rotate_left; · (go_simp; try with_reducible rfl)); simp only [Act.put, List.setIfInBounds_toArray, List.set_cons_zero, List.set_cons_succ]); ((refine WalkN.take 3 _ ?_ (by simp only [List.getElem?_toArray, List.getElem?_cons_succ, List.getElem?_cons_zero]; rfl) (by kernel_rfl) (by kernel_rfl) (by rfl) (fun W hW => ?_) ?_; rotate_left; · (go_simp; try with_reducible rfl)); simp only [Act.put, List.setIfInBounds_toArray, List.set_cons_zero, List.set_cons_succ])
    (refine WalkN.skip 4 _ (by simp only [List.getElem?_toArray, List.getElem?_cons_succ, List.getElem?_cons_zero]; rfl) (by kernel_rfl) (by kernel_rfl) (by rfl) ?_; simp only [Act.put, List.setIfInBounds_toArray, List.set_cons_zero, List.set_cons_succ]); (refine WalkN.skip 5 _ (by simp only [List.getElem?_toArray, List.getElem?_cons_succ, List.getElem?_cons_zero]; rfl) (by kernel_rfl) (by kernel_rfl) (by rfl) ?_; simp only [Act.put, List.setIfInBounds_toArray, List.set_cons_zero, List.set_cons_succ]); (refine WalkN.skip 6 _ (by simp only [List.getElem?_toArray, List.getElem?_cons_succ, List.getElem?_cons_zero]; rfl) (by kernel_rfl) (by kernel_rfl) (by rfl) ?_; simp only [Act.put, List.setIfInBounds_toArray, List.set_cons_zero, List.set_cons_succ]); (refine WalkN.skip 7 _ (by simp only [List.getElem?_toArray, List.getElem?_cons_succ, List.getElem?_cons_zero]; rfl) (by kernel_rfl) (by kernel_rfl) (by rfl) ?_; simp only [Act.put, List.setIfInBounds_toArray, List.set_cons_zero, List.set_cons_succ]); (refine WalkN.skip 8 _ (by simp only [List.getElem?_toArray, List.getElem?_cons_succ, List.getElem?_cons_zero]; rfl) (by kernel_rfl) (by kernel_rfl) (by rfl) ?_; simp only [Act.put, List.setIfInBounds_toArray, List.set_cons_zero, List.set_cons_succ]); (refine WalkN.skip 9 _ (by simp only [List.getElem?_toArray, List.getElem?_cons_succ, List.getElem?_cons_zero]; rfl) (by kernel_rfl) (by kernel_rfl) (by rfl) ?_; simp only [Act.put, List.setIfInBounds_toArray, List.set_cons_zero, List.set_cons_succ])
    ((refine WalkN.take 10 _ ?_ (by simp only [List.getElem?_toArray, List.getElem?_cons_succ, List.getElem?_cons_zero]; rfl) (by kernel_rfl) (by kernel_rfl) (by rfl) (fun W hW => ?_) ?_; rotate_left; · (go_simp; try with_reducible rfl)); simp only [Act.put, List.setIfInBounds_toArray, List.set_cons_zero, List.set_cons_succ]); ((refine WalkN.take 11 _ ?_ (by simp only [List.getElem?_toArray, List.getElem?_cons_succ, List.getElem?_cons_zero]; rfl) (by kernel_rfl) (by kernel_rfl) (by rfl) (fun W hW => ?_) ?_; rotate_left; · (go_simp; try with_reducible rfl)); simp only [Act.put, List.setIfInBounds_toArray, List.set_cons_zero, List.set_cons_succ])
    refine WalkN.done (by kernel_rfl) ?_
    clear hB
    go_wp2_with fail
    go_ret2
    exact ⟨HXe.out, .inr ⟨HN.out, 9, by decide, fun h => absurd h HNB.out, rfl⟩⟩
  | cons k0 ks =>
    obtain ⟨kb, koff, rfl, hk0⟩ := hkc2 (by simp)
    have hc0 := hk0 0 (by simp)
    rw [List.getElem_cons_zero, Nat.add_zero] at hc0
    have hC : ∀ W, Ext we W → W.cell? ⟨kb, koff, none⟩ = some (.string k0) := fun W h => h.cell (a := ⟨kb, koff, none⟩) hc0
    obtain ⟨nn, hnn⟩ : ∃ nn, nn = (k0 :: ks).length := ⟨_, rfl⟩
    have hnp2 : 0 < nn := by rw [hnn]; simp
    have hnz : ((nn : Int) == 0) = false := by simp; omega
    have hnp : (0 : Int) < (nn : Int) := by omega
    have HNN := Lib.hid hnn
    rw [← hnn]
    clear hk0 hc0 hkc2 hnn
    by_cases hpe : k0 = pf
    · have HY := Lib.hid (show BlkOf t j (k0 :: ks) from (HBP.out _).2 ⟨HK4.out, by rw [hpe]; rfl⟩)
      have hne : (k0.toList == pf.toList) = true := by rw [hpe]; simp
      clear hpe
      ((refine WalkN.take 0 _ ?_ (by simp only [List.getElem?_toArray, List.getElem?_cons_zero]; rfl) (by kernel_rfl) (by kernel_rfl) (by rfl) (fun W hW => ?_) ?_; rotate_left; · (go_simp; try with_reducible rfl)); simp only [Act.put, List.setIfInBounds_toArray, List.set_cons_zero, List.set_cons_succ]); ((refine WalkN.take 1 _ ?_ (by simp only [List.getElem?_toArray, List.getElem?_cons_succ, List.getElem?_cons_zero]; rfl) (by kernel_rfl) (by kernel_rfl) (by rfl) (fun W hW => ?_) ?_; rotate_left; · (go_simp; try with_reducible rfl)); simp only [Act.put, List.setIfInBounds_toArray, List.set_cons_zero, List.set_cons_succ]); ((refine WalkN.take 2 _ ?_ (by simp only [List.getElem?_toArray, List.getElem?_cons_succ, List.getElem?_cons_zero]; rfl) (by kernel_rfl) (by kernel_rfl) (by rfl) (fun W hW => ?_) ?_; rotate_left; · (go_simp; try with_reducible rfl)); simp only [Act.put, List.setIfInBounds_toArray, List.set_cons_zero, List.set_cons_succ]); ((refine WalkN.take 3 _ ?_ (by simp only [List.getElem?_toArray, List.getElem?_cons_succ, List.getElem?_cons_zero]; rfl) (by kernel_rfl) (by kernel_rfl) (by rfl) (fun W hW => ?_) ?_; rotate_left; · (go_simp; try with_reducible rfl)); simp only [Act.put, List.setIfInBounds_toArray, List.set_cons_zero, List.set_cons_succ]); ((refine WalkN.take 4 _ ?_ (by simp only [List.getElem?_toArray, List.getElem?_cons_succ, List.getElem?_cons_zero]; rfl) (by kernel_rfl) (by kernel_rfl) (by rfl) (fun W hW => ?_) ?_; rotate_left; · (go_simp; try with_reducible rfl)); simp only [Act.put, List.setIfInBounds_toArray, List.set_cons_zero, List.set_cons_succ]); ((refine WalkN.take 5 _ ?_ (by simp only [List.getElem?_toArray, List.getElem?_cons_succ, List.getElem?_cons_zero]; rfl) (by kernel_rfl) (by kernel_rfl) (by rfl) (fun W hW => ?_) ?_; rotate_left; · (go_simp; try with_reducible rfl)); simp only [Act.put, List.setIfInBounds_toArray, List.set_cons_zero, List.set_cons_succ]); ((refine WalkN.take 6 _ ?_ (by simp only [List.getElem?_toArray, List.getElem?_cons_succ, List.getElem?_cons_zero]; rfl) (by kernel_rfl) (by kernel_rfl) (by rfl) (fun W hW => ?_) ?_; rotate_left; · (go_simp; try with_reducible rfl)); simp only [Act.put, List.setIfInBounds_toArray, List.set_cons_zero, List.set_cons_succ]); ((refine WalkN.take 7 _ ?_ (by simp only [List.getElem?_toArray, List.getElem?_cons_succ, List.getElem?_cons_zero]; rfl) (by kernel_rfl) (by kernel_rfl) (by rfl) (fun W hW => ?_) ?_; rotate_left; · (go_simp; try with_reducible rfl)); simp only [Act.put, List.setIfInBounds_toArray, List.set_cons_zero, List.set_cons_succ]); ((refine WalkN.take 8 _ ?_ (by simp only [List.getElem?_toArray, List.getElem?_cons_succ, List.getElem?_cons_zero]; rfl) (by kernel_rfl) (by kernel_rfl) (by rfl) (fun W hW => ?_) ?_; rotate_left; · (go_simp; try with_reducible rfl)); simp only [Act.put, List.setIfInBounds_toArray, List.set_cons_zero, List.set_cons_succ]); ((refine WalkN.take 9 _ ?_ (by simp only [List.getElem?_toArray, List.getElem?_cons_succ, List.getElem?_cons_zero]; rfl) (by kernel_rfl) (by kernel_rfl) (by rfl) (fun W hW => ?_) ?_; rotate_left; · (go_simp; try with_reducible rfl)); simp only [Act.put, List.setIfInBounds_toArray, List.set_cons_zero, List.set_cons_succ]); ((refine WalkN.take 10 _ ?_ (by simp only [List.getElem?_toArray, List.getElem?_cons_succ, List.getElem?_cons_zero]; rfl) (by kernel_rfl) (by kernel_rfl) (by rfl) (fun W hW => ?_) ?_; rotate_left; · (go_simp; try with_reducible rfl)); simp only [Act.put, List.setIfInBounds_toArray, List.set_cons_zero, List.set_cons_succ]); ((refine WalkN.take 11 _ ?_ (by simp only [List.getElem?_toArray, List.getElem?_cons_succ, List.getElem?_cons_zero]; rfl) (by kernel_rfl) (by kernel_rfl) (by rfl) (fun W hW => ?_) ?_; rotate_left; · (go_simp; try with_reducible rfl)); simp only [Act.put, List.setIfInBounds_toArray, List.set_cons_zero, List.set_cons_succ])
      refine WalkN.done (by kernel_rfl) ?_
      clear hB hC
      go_wp2_with fail
      go_ret2
      exact ⟨HXe.out, .inl ⟨_, _, HY.out, rfl, by rw [HNN.out]; exact HSe.out⟩⟩
    · have HN := Lib.hid (show ∀ ks, ¬ BlkOf t j ks from fun ls k => by
        have h1 := (HBP.out ls).1 k
        rw [h1.1.uniq HK4.out] at h1
        exact hpe (by simpa using h1.2))
      have hne : (k0.toList == pf.toList) = false := by rw [ByteArray.toList_eq, ByteArray.toList_eq]; exact ba_beq' hpe
      clear hpe
      ((refine WalkN.take 0 _ ?_ (by simp only [List.getElem?_toArray, List.getElem?_cons_zero]; rfl) (by kernel_rfl) (by kernel_rfl) (by rfl) (fun W hW => ?_) ?_; rotate_left; · (go_simp; try with_reducible rfl)); simp only [Act.put, List.setIfInBounds_toArray, List.set_cons_zero, List.set_cons_succ]); ((refine WalkN.take 1 _ ?_ (by simp only [List.getElem?_toArray, List.getElem?_cons_succ, List.getElem?_cons_zero]; rfl) (by kernel_rfl) (by kernel_rfl) (by rfl) (fun W hW => ?_) ?_; rotate_left; · (go_simp; try with_reducible rfl)); simp only [Act.put, List.setIfInBounds_toArray, List.set_cons_zero, List.set_cons_succ]); ((refine WalkN.take 2 _ ?_ (by simp only [List.getElem?_toArray, List.getElem?_cons_succ, List.getElem?_cons_zero]; rfl) (by kernel_rfl) (by kernel_rfl) (by rfl) (fun W hW => ?_) ?_; rotate_left; · (go_simp; try with_reducible rfl)); simp only [Act.put, List.setIfInBounds_toArray, List.set_cons_zero, List.set_cons_succ]); ((refine WalkN.take 3 _ ?_ (by simp only [List.getElem?_toArray, List.getElem?_cons_succ, List.getElem?_cons_zero]; rfl) (by kernel_rfl) (by kernel_rfl) (by rfl) (fun W hW => ?_) ?_; rotate_left; · (go_simp; try with_reducible rfl)); simp only [Act.put, List.setIfInBounds_toArray, List.set_cons_zero, List.set_cons_succ]); ((refine WalkN.take 4 _ ?_ (by simp only [List.getElem?_toArray, List.getElem?_cons_succ, List.getElem?_cons_zero]; rfl) (by kernel_rfl) (by kernel_rfl) (by rfl) (fun W hW => ?_) ?_; rotate_left; · (go_simp; try with_reducible rfl)); simp only [Act.put, List.setIfInBounds_toArray, List.set_cons_zero, List.set_cons_succ]); ((refine WalkN.take 5 _ ?_ (by simp only [List.getElem?_toArray, List.getElem?_cons_succ, List.getElem?_cons_zero]; rfl) (by kernel_rfl) (by kernel_rfl) (by rfl) (fun W hW => ?_) ?_; rotate_left; · (go_simp; try with_reducible rfl)); simp only [Act.put, List.setIfInBounds_toArray, List.set_cons_zero, List.set_cons_succ]); ((refine WalkN.take 6 _ ?_ (by simp only [List.getElem?_toArray, List.getElem?_cons_succ, List.getElem?_cons_zero]; rfl) (by kernel_rfl) (by kernel_rfl) (by rfl) (fun W hW => ?_) ?_; rotate_left; · (go_simp; try with_reducible rfl)); simp only [Act.put, List.setIfInBounds_toArray, List.set_cons_zero, List.set_cons_succ]); ((refine WalkN.take 7 _ ?_ (by simp only [List.getElem?_toArray, List.getElem?_cons_succ, List.getElem?_cons_zero]; rfl) (by kernel_rfl) (by kernel_rfl) (by rfl) (fun W hW => ?_) ?_; rotate_left; · (go_simp; try with_reducible rfl)); simp only [Act.put, List.setIfInBounds_toArray, List.set_cons_zero, List.set_cons_succ]); ((refine WalkN.take 8 _ ?_ (by simp only [List.getElem?_toArray, List.getElem?_cons_succ, List.getElem?_cons_zero]; rfl) (by kernel_rfl) (by kernel_rfl) (by rfl) (fun W hW => ?_) ?_; rotate_left; · (go_simp; try with_reducible rfl)); simp only [Act.put, List.setIfInBounds_toArray, List.set_cons_zero, List.set_cons_succ]); ((refine WalkN.take 9 _ ?_ (by simp only [List.getElem?_toArray, List.getElem?_cons_succ, List.getElem?_cons_zero]; rfl) (by kernel_rfl) (by kernel_rfl) (by rfl) (fun W hW => ?_) ?_; rotate_left; · (go_simp; try with_reducible rfl)); simp only [Act.put, List.setIfInBounds_toArray, List.set_cons_zero, List.set_cons_succ]); ((refine WalkN.take 10 _ ?_ (by simp only [List.getElem?_toArray, List.getElem?_cons_succ, List.getElem?_cons_zero]; rfl) (by kernel_rfl) (by kernel_rfl) (by rfl) (fun W hW => ?_) ?_; rotate_left; · (go_simp; try with_reducible rfl)); simp only [Act.put, List.setIfInBounds_toArray, List.set_cons_zero, List.set_cons_succ]); ((refine WalkN.take 11 _ ?_ (by simp only [List.getElem?_toArray, List.getElem?_cons_succ, List.getElem?_cons_zero]; rfl) (by kernel_rfl) (by kernel_rfl) (by rfl) (fun W hW => ?_) ?_; rotate_left; · (go_simp; try with_reducible rfl)); simp only [Act.put, List.setIfInBounds_toArray, List.set_cons_zero, List.set_cons_succ])
      refine WalkN.done (by kernel_rfl) ?_
      clear hB hC
      go_wp2_with fail
      go_ret2
      exact ⟨HXe.out, .inr ⟨HN.out, 9, by decide, fun h => absurd h HNB.out, rfl⟩⟩

end Go.Proofs.YtmmeofiocbfamaaGreatDoor
