/- block's Keys. table's index: its bytes. No condition: lemmas. -/
import Derived.Test.YtmmeofiocbfamaaGreatDoorZ14
namespace Go.Proofs.YtmmeofiocbfamaaGreatDoor
open Go Go.RowKit

def RetKeys (bs : List UInt8) (w : World) (e : Ending) (w' : World) : Prop :=
  (∃ ks v, KeysOf bs ks ∧ e = .returned (.tuple #[v, .int .i64 0]) ∧ Sl (fun b => w.heap.size ≤ b ∧ b < w'.heap.size) w' 1 v (sc ks) ∧ Ext w w') ∨
  ((∀ ks, ¬ KeysOf bs ks) ∧ e = .returned (.tuple #[.slice none 0 0, .int .i64 9]) ∧ Ext w w')
theorem keysOf_none {bs : List UInt8} (h : openB bs = none) : ∀ ks, ¬ KeysOf bs ks := fun ks k => by
  obtain ⟨a, b, k1, -⟩ := k
  rw [h] at k1
  cases k1
theorem keysOf_bad {bs kb pb : List UInt8} (h : openB bs = some (kb, pb)) (hn : keysF kb.length kb [] = none) : ∀ ks, ¬ KeysOf bs ks := fun ks k => by
  obtain ⟨a, b, k1, k2, -⟩ := k
  rw [h] at k1
  simp only [Option.some.injEq, Prod.mk.injEq] at k1
  obtain ⟨rfl, rfl⟩ := k1
  rw [hn] at k2
  cases k2
theorem keysOf_else {bs kb pb : List UInt8} {ls : List ByteArray} (h : openB bs = some (kb, pb)) (hn : keysF kb.length kb [] = some (dl ls)) (hu : ¬ (UpK ls ∧ blkF (dl ls) = bs)) : ∀ ks, ¬ KeysOf bs ks := fun ks k => by
  obtain ⟨a, b, k1, k2, k3, k4⟩ := k
  rw [h] at k1
  simp only [Option.some.injEq, Prod.mk.injEq] at k1
  obtain ⟨rfl, rfl⟩ := k1
  rw [hn] at k2
  obtain rfl := dl_inj (Option.some.inj k2)
  exact hu ⟨k3, k4⟩
theorem openB_len {bs kb pb : List UInt8} (h : openB bs = some (kb, pb)) : kb.length ≤ bs.length := by
  unfold openB at h
  split at h
  · cases h
  · split at h
    · cases h
    · simp only [Option.some.injEq, Prod.mk.injEq] at h
      rw [← h.1, List.length_take]; omega

def atOf (w : World) (b : Nat) : Nat := match w.cell? ⟨b, 1, none⟩ with
  | some v => (intOf v).toNat
  | none => 0
theorem atOf_cur {w : World} {cb : Nat} {v : Value} {at_ : Nat} {key : ByteArray} (h : Cur w cb v at_ key) : atOf w cb = at_ := by
  unfold atOf
  rw [h.cells 1]
  simp [intOf]

set_option maxRecDepth 100000 in
set_option maxHeartbeats 600000 in
theorem keys_any (v : Value) (bs : List UInt8) (w : World) (h : Sl (· < w.heap.size) w 1 v (bc bs)) (hl : bs.length ≤ 60000) :
    Calls Tryz.prog 46 #[v] w (RetKeys bs w) := by
  have HS := Lib.hid h
  have HO := Lib.hid (open_any v bs w (fun _ hb => hb) h (by omega))
  obtain ⟨ao, c, rfl, hlc, hcm, -, -⟩ := Sl.bytes h
  clear h
  go_enter Tryz.func46, Tryz.ntmps46
  go_wp2_with fail
  refine HO.out.mono ?_
  clear HO
  cases ho : openB bs with
  | none =>
    have HN := Lib.hid (keysOf_none ho)
    clear ho
    rintro e w1 ⟨rfl, hx1⟩
    have HX1 := Lib.hid hx1
    clear hx1
    go_wp2_with fail
    go_ret2
    exact .inr ⟨HN.out, rfl, HX1.out.trans (Ext.alloc _ _)⟩
  | some r =>
    obtain ⟨kb, pb⟩ := r
    have HOB := Lib.hid ho
    have HKB := Lib.hid (openB_len ho)
    clear ho
    rintro e w1 ⟨vk, vp, rfl, hk, hp, hx1⟩
    have HK := Lib.hid hk
    have HX1 := Lib.hid hx1
    obtain ⟨ko, kc, rfl, hkc, hkcm, -, -⟩ := Sl.bytes hk
    clear hk hp hx1
    have HKI0 := Lib.hid (KInv.start kb)
    obtain ⟨cb, hcb⟩ : ∃ cb, cb = w1.heap.size := ⟨_, rfl⟩
    have HB1 := Lib.hid (show Blk (w1.alloc (.cells #[.slice ko kb.length kc, .int .i64 0, .string ⟨#[]⟩] 115)) cb #[.slice ko kb.length kc, .int .i64 0, .string ⟨#[]⟩] 115 from by rw [hcb]; exact Blk.made w1 _ _)
    have HX2 := Lib.hid (HX1.out.trans (Ext.alloc w1 (.cells #[.slice ko kb.length kc, .int .i64 0, .string ⟨#[]⟩] 115)))
    have HCB := Lib.hid (show w.heap.size ≤ cb from by rw [hcb]; exact HX1.out.size)
    have HSZ := Lib.hid (show cb + 1 ≤ (w1.alloc (.cells #[.slice ko kb.length kc, .int .i64 0, .string ⟨#[]⟩] 115)).heap.size from by rw [hcb]; simp)
    have HK2 := Lib.hid (HK.out.same (Same.below (Ext.alloc w1 (.cells #[.slice ko kb.length kc, .int .i64 0, .string ⟨#[]⟩] 115)) |>.mono fun b hb => Nat.lt_of_lt_of_le hb HX1.out.size))
    go_wp2_with fail
    rw [← hcb]
    generalize w1.alloc (.cells #[.slice ko kb.length kc, .int .i64 0, .string ⟨#[]⟩] 115) = w2 at *
    have HK3 := Lib.hid (show Sl (· < w.heap.size) w 1 (.slice ko kb.length kc) (bc kb) from HK2.out.same fun b hb => (HX2.out.block b hb).symm)
    clear hcb HK HX1
    go_loopw [7] (fun ov wr => ∃ (done : List ByteArray) (at_ : Nat) (key : ByteArray), KInv kb done at_ key ∧ Cur wr cb (.slice ko kb.length kc) at_ key ∧ Own wr (cb + 1) 9 1 ov (sc done) ∧ Ext w wr ∧ cb + 1 ≤ wr.heap.size) (fun _ wr => kb.length - atOf wr cb)
    case atStart => exact ⟨[], 0, ⟨#[]⟩, HKI0.out, HB1.out, Own.nil _ _ _ _, HX2.out, HSZ.out⟩
    case round =>
      clear HKI0 HB1 HX2 HSZ HK2
      obtain ⟨done, at_, key, hki, hcu, how, hx, hsz⟩ := hrel
      have HKI := Lib.hid hki
      have HCU := Lib.hid hcu
      have HOW := Lib.hid how
      have HX := Lib.hid hx
      have HSZ := Lib.hid hsz
      have hcells := hcu.cells
      have hki1 := hki.1
      obtain ⟨oo, on, oc, rfl, -, -, -⟩ := how.sl.len
      clear hki hcu how hx hsz
      by_cases hlt : at_ < kb.length
      · have HNX := Lib.hid (next_any (S := (· < w.heap.size)) cb (.slice ko kb.length kc) kb at_ key wr HCU.out (by have := HCB.out; show ¬ cb < w.heap.size; omega) (fun b hb => by have := HSZ.out; have := HCB.out; have hb' : b < w.heap.size := hb; omega) (HK3.out.same (Same.below HX.out)) (by have := HKB.out; omega) hlt (by have := HKI.out.2.2.1; have := HKB.out; omega))
        go_wp2_with fail
        refine HNX.out.mono ?_
        clear HNX
        cases hn : nextD (kb.drop at_) key.data.toList with
        | none =>
          have HN := Lib.hid (keysOf_bad HOB.out (HKI.out.none hlt hn))
          clear hn
          rintro e w3 ⟨rfl, hk3⟩
          have HX3 := Lib.hid (Below.trans HX.out (hk3.below (B := w.heap.size) fun b hb => by have := HCB.out; omega))
          clear hk3
          go_wp2_with fail
          go_ret2
          exact .inr ⟨HN.out, rfl, HX3.out⟩
        | some r =>
          obtain ⟨k, m⟩ := r
          obtain ⟨hst, hm0, hmk⟩ := HKI.out.step hlt hn
          have HKI2 := Lib.hid hst
          have HM := Lib.hid (And.intro hm0 hmk)
          clear hn hst hm0 hmk
          rintro e w3 ⟨rfl, hcu3, hk3⟩
          have HCU3 := Lib.hid hcu3
          have HX3 := Lib.hid (Below.trans HX.out (hk3.below (B := w.heap.size) fun b hb => by have := HCB.out; omega))
          have HOW3 := Lib.hid (HOW.out.keepOwn fun g hg => hk3.block g (by have := (HOW.out.block g hg).1; omega))
          have HSZ3 := Lib.hid (Nat.le_trans HSZ.out hk3.size)
          have hcells := hcu3.cells
          clear hk3 hcu3 hcells
          have hcells := HCU3.out.cells
          have HDL := Lib.hid (show done.length ≤ 60000 from by have := HKI.out.2.1; have := HKB.out; omega)
          go_wp2_with (at_builtin; go_must (refine wpList_own_lit strsT rfl (.tmp 26) (.tmp 29) rfl rfl HOW3.out rfl rfl (by simp [Value.oneCell']) (by have := HDL.out; rw [sc_len2]; simp; omega) (by have := HDL.out; rw [sc_len2]; simp; omega) HSZ3.out ?_; intro v5 w5 hown5 hb5 hgr5))
          have HOW5 := Lib.hid (show Own w5 (cb + 1) 9 1 v5 (sc (done ++ [⟨k.toArray⟩])) from by unfold sc; rw [List.map_append]; exact hown5)
          have HX5 := Lib.hid (Below.trans HX3.out (show Below w.heap.size w3 w5 from hb5.mono (by have := HCB.out; omega)))
          have HSZ5 := Lib.hid (Nat.le_trans HSZ3.out hb5.size)
          have HCU5 := Lib.hid (show Cur w5 cb (.slice ko kb.length kc) (at_ + m) ⟨k.toArray⟩ from (hb5.block cb (by omega)).trans HCU3.out)
          have HA := Lib.hid (atOf_cur HCU.out)
          have HA5 := Lib.hid (atOf_cur HCU5.out)
          obtain ⟨ao5, n5, c5, rfl, -, -, -⟩ := hown5.sl.len
          clear hown5 hb5 hgr5 hcells
          go_wp2_with fail
          exact ⟨⟨done ++ [⟨k.toArray⟩], at_ + m, ⟨k.toArray⟩, HKI2.out, HCU5.out, HOW5.out, HX5.out, HSZ5.out⟩, by rw [HA.out, HA5.out]; have := HM.out; omega⟩
      · obtain rfl : at_ = kb.length := by omega
        have HKF := Lib.hid HKI.out.last
        have HDL := Lib.hid (show done.length ≤ 60000 from by have := HKI.out.2.1; have := HKB.out; omega)
        have HBL := Lib.hid (show (blkL 0 [] (dl done)).length ≤ 4000000000 from by
          have h1 := blkL_bound 60000 (by decide) 0 [] (dl done) (Nat.zero_le _) (fun x hx => by
            obtain ⟨y, hy, rfl⟩ := List.mem_map.1 hx
            rw [show y.data.toList.length = y.size from Array.length_toList]
            have := HKI.out.2.2.2.1 y hy
            have := HKB.out
            omega)
          have h2 : (dl done).length = done.length := List.length_map _
          have h3 := HDL.out
          have h4 : (dl done).length * (60000 + 20) ≤ 60000 * 60020 := Nat.mul_le_mul (by omega) (Nat.le_refl _)
          omega)
        have HBU := Lib.hid (build_any (S := fun b => cb + 1 ≤ b ∧ b < wr.heap.size) (.slice oo on oc) done wr (fun b hb => hb.2) HOW.out.sl (by have := HDL.out; omega) (fun k hk => by have := HKI.out.2.2.2.1 k hk; have := HKB.out; omega) HBL.out)
        have HSO := Lib.hid HOW.out.sl
        go_wp2_with fail
        refine HBU.out.mono ?_
        clear HBU HBL hcells
        rintro e w3 (⟨hup, v3, rfl, ho3, hx3⟩ | ⟨hup, rfl, hx3⟩)
        · have HUP := Lib.hid hup
          have HO3 := Lib.hid ho3
          have HX3 := Lib.hid (Below.trans HX.out (hx3.mono (by have := HSZ.out; have := HCB.out; omega)))
          have HS3 := Lib.hid (show Sl (fun b => w.heap.size ≤ b ∧ b < w3.heap.size) w3 1 (.slice oo on oc) (sc done) from (HSO.out.same ((Same.below hx3).mono fun b hb => hb.2)).mono fun b hb => ⟨by have := HCB.out; have := hb.1; omega, Nat.lt_of_lt_of_le hb.2 hx3.size⟩)
          have HQ := Lib.hid (equal8_any v3 (.slice ao bs.length c) _ _ w3 ho3.sl (HS.out.same (Same.below HX3.out)))
          obtain ⟨bo3, bn3, bc3, rfl, -, -, -⟩ := ho3.sl.len
          clear hup ho3 hx3
          go_wp2_with fail
          refine HQ.out.mono ?_
          rintro e w4 ⟨rfl, rfl⟩
          by_cases he : blkF (dl done) = bs
          · have HK := Lib.hid (show KeysOf bs done from ⟨_, _, HOB.out, HKF.out, HUP.out, he⟩)
            have hd : decide (blkF (List.map (fun k => k.data.toList) done) = bs) = true := decide_eq_true he
            go_wp2_with fail
            go_ret2
            exact .inl ⟨done, _, HK.out, rfl, HS3.out, HX3.out⟩
          · have HK := Lib.hid (keysOf_else HOB.out HKF.out (fun h => he h.2))
            have hd : decide (blkF (List.map (fun k => k.data.toList) done) = bs) = false := decide_eq_false he
            go_wp2_with fail
            go_ret2
            exact .inr ⟨HK.out, rfl, HX3.out⟩
        · have HK := Lib.hid (keysOf_else HOB.out HKF.out (fun h => hup h.1))
          have HX3 := Lib.hid (Below.trans HX.out (hx3.mono (by have := HSZ.out; have := HCB.out; omega)))
          clear hup hx3
          go_wp2_with fail
          go_ret2
          exact .inr ⟨HK.out, rfl, HX3.out⟩

end Go.Proofs.YtmmeofiocbfamaaGreatDoor
namespace Go.Proofs.YtmmeofiocbfamaaGreatDoor
open Go Go.RowKit

/-- Where a block stands. -/
structure Plc where
  first : ByteArray
  at_ : Nat
  size : Nat
def plC (p : Plc) : List Value := [.string p.first, .int .i64 p.at_, .int .i64 p.size]
theorem plC_length (p : Plc) : (plC p).length = 3 := rfl
def plcs (l : List Plc) : List Value := l.flatMap plC
theorem Sl.plcs {S : Nat → Prop} {w : World} {v : Value} {l : List Plc} (h : Sl S w 3 v (plcs l)) :
    ∃ ao c, v = .slice ao l.length c ∧ l.length ≤ c ∧ c ≤ 9223372036854775807 ∧ ∀ i (hi : i < l.length), ∃ b off, ao = some ⟨b, off, none⟩ ∧ S b ∧
      w.cell? ⟨b, off + i * 3, none⟩ = some (.string l[i].first) ∧ w.cell? ⟨b, off + i * 3 + 1, none⟩ = some (.int .i64 l[i].at_) ∧ w.cell? ⟨b, off + i * 3 + 2, none⟩ = some (.int .i64 l[i].size) := by
  obtain ⟨ao, c, rfl, h1, h2, hc⟩ := Sl.rows plC_length (by decide) (show Sl S w 3 v (l.flatMap plC) from h)
  refine ⟨ao, c, rfl, h1, h2, fun i hi => ?_⟩
  obtain ⟨b, off, rfl, hb, hc⟩ := hc (by omega)
  exact ⟨b, off, rfl, hb, hc i hi 0 _ rfl, hc i hi 1 _ rfl, hc i hi 2 _ rfl⟩
def plcB (p : Plc) : List UInt8 := putT p.first.data.toList ++ putB p.at_ ++ putB p.size
def idxB (l : List Plc) : List UInt8 := putB l.length ++ l.flatMap plcB
theorem idxB_len (M : Nat) (hM : M < 4294967296) (l : List Plc) (h : ∀ p ∈ l, p.first.size ≤ M ∧ p.at_ < 4294967296 ∧ p.size < 4294967296) : (l.flatMap plcB).length ≤ l.length * (M + 30) := by
  induction l with
  | nil => exact Nat.zero_le _
  | cons p l ih =>
    have ih := ih fun x hx => h x (List.mem_cons_of_mem _ hx)
    obtain ⟨h1, h2, h3⟩ := h p List.mem_cons_self
    have q1 : (putB p.first.size).length ≤ 10 := U64.len (by unfold U64; omega)
    have q2 : (putB p.at_).length ≤ 10 := U64.len (by unfold U64; omega)
    have q3 : (putB p.size).length ≤ 10 := U64.len (by unfold U64; omega)
    have e : p.first.data.toList.length = p.first.size := Array.length_toList
    rw [List.flatMap_cons, List.length_append, List.length_cons, Nat.add_mul]
    have : (plcB p).length ≤ M + 30 := by unfold plcB putT; simp only [List.length_append, e]; omega
    omega
theorem idx_pre (l : List Plc) (i : Nat) : ((l.take i).flatMap plcB).length ≤ (l.flatMap plcB).length := by
  conv => rhs; rw [← List.take_append_drop i l, List.flatMap_append, List.length_append]
  omega

set_option maxRecDepth 100000 in
set_option maxHeartbeats 600000 in
theorem index_bytes {S : Nat → Prop} (v : Value) (l : List Plc) (w : World) (hS : ∀ b, S b → b < w.heap.size) (h : Sl S w 3 v (plcs l)) (hl : l.length ≤ 100000) (hp : ∀ p ∈ l, p.first.size ≤ 10000 ∧ p.at_ < 4294967296 ∧ p.size < 4294967296) :
    Calls Tryz.prog 31 #[v] w fun e w' => ∃ v', e = .returned v' ∧ Own w' w.heap.size 5 1 v' (bc (idxB l)) ∧ Ext w w' := by
  have HP := Lib.hid hp
  have HLL := Lib.hid (show (l.flatMap plcB).length ≤ 2000000000 from by
    have := idxB_len 10000 (by decide) l hp
    have h2 : l.length * (10000 + 30) ≤ 100000 * 10030 := Nat.mul_le_mul hl (Nat.le_refl _)
    omega)
  have HPRE := Lib.hid (idx_pre l)
  obtain ⟨ao, c, rfl, hlc, hcm, hcell⟩ := h.plcs
  have HC := Lib.hid (show ∀ i (hi : i < l.length), ∃ b off, ao = some ⟨b, off, none⟩ ∧ b < w.heap.size ∧
      w.cell? ⟨b, off + i * 3, none⟩ = some (.string l[i].first) ∧ w.cell? ⟨b, off + i * 3 + 1, none⟩ = some (.int .i64 l[i].at_) ∧ w.cell? ⟨b, off + i * 3 + 2, none⟩ = some (.int .i64 l[i].size) from fun i hi => by
    obtain ⟨b, off, h1, h2, h3⟩ := hcell i hi
    exact ⟨b, off, h1, hS b h2, h3⟩)
  have HPUT := Lib.hid (putO_any (.slice none 0 0) [] l.length w (Sl.nil _ _ _) (by simp) (by unfold U64; omega))
  have hwl : IntKind.u64.wrap (l.length : Int) = (l.length : Int) := by rw [IntKind.wrap_u64]; omega
  clear hcell h hp hS
  go_enter Tryz.func31, Tryz.ntmps31
  go_wp2_with fail
  refine HPUT.out.mono ?_
  rintro e w1 ⟨v1, rfl, ho1, hb1⟩
  have HO1 := Lib.hid ho1
  have HB1 := Lib.hid hb1
  obtain ⟨oo, on, oc, rfl, -, -, -⟩ := ho1.sl.len
  clear ho1 hb1 HPUT
  go_wp2_with fail
  go_loopw [3, 12] (fun ov iv wr => ∃ i : Nat, i ≤ l.length ∧ iv = .int .i64 i ∧ Own wr w.heap.size 5 1 ov (bc (putB l.length ++ (l.take i).flatMap plcB)) ∧ Ext w wr) (fun _ iv _ => l.length - (intOf iv).toNat)
  case atStart => exact ⟨0, by omega, rfl, by rw [List.take_zero, List.flatMap_nil, List.append_nil]; exact HO1.out, HB1.out⟩
  case round =>
    clear HO1 HB1
    obtain ⟨i, hi, rfl, ho, hx⟩ := hrel
    have HO := Lib.hid ho
    have HX := Lib.hid hx
    obtain ⟨oo, on, oc, rfl, -, -, -⟩ := ho.sl.len
    clear ho hx
    by_cases hlt : i < l.length
    · obtain ⟨b, off, rfl, hb, c0, c1, c2⟩ := HC.out i hlt
      have d0 := (HX.out.cell (a := ⟨b, off + i * 3, none⟩) c0)
      have d1 := (HX.out.cell (a := ⟨b, off + i * 3 + 1, none⟩) c1)
      have d2 := (HX.out.cell (a := ⟨b, off + i * 3 + 2, none⟩) c2)
      have HPP := Lib.hid (HP.out _ (List.getElem_mem hlt))
      have HPR := Lib.hid (HPRE.out (i + 1))
      have HT := Lib.hid (show (l.take (i + 1)).flatMap plcB = (l.take i).flatMap plcB ++ plcB l[i] from by rw [List.take_succ_eq_append_getElem hlt, List.flatMap_append, List.flatMap_cons, List.flatMap_nil, List.append_nil])
      have HLP := Lib.hid (show (putB l.length).length ≤ 10 from U64.len (by unfold U64; omega))
      clear c0 c1 c2 hb
      generalize l[i] = p at *
      obtain ⟨first, pa, ps⟩ := p
      dsimp only at d0 d1 d2 HPP
      obtain ⟨xs, hxs⟩ : ∃ xs, xs = putB l.length ++ (l.take i).flatMap plcB := ⟨_, rfl⟩
      have HT2 := Lib.hid (show putB l.length ++ (l.take (i + 1)).flatMap plcB = xs ++ putT first.data.toList ++ putB pa ++ putB ps from by rw [HT.out, hxs]; unfold plcB; simp only [List.append_assoc])
      have HXL := Lib.hid (show (xs ++ putT first.data.toList ++ putB pa ++ putB ps).length ≤ 3000000000 from by rw [← HT2.out, List.length_append]; have := HPR.out; have := HLL.out; have := HLP.out; omega)
      rw [← hxs] at HO
      clear hxs HT HPR
      obtain ⟨wp, hwp⟩ : ∃ wp, wp = wr.alloc (.cells #[.string first, .int .i64 pa, .int .i64 ps] 82) := ⟨_, rfl⟩
      obtain ⟨pb, hpb⟩ : ∃ pb, pb = wr.heap.size := ⟨_, rfl⟩
      have HBp := Lib.hid (show Blk wp pb #[.string first, .int .i64 pa, .int .i64 ps] 82 from by rw [hwp, hpb]; exact Blk.made wr _ _)
      have HXp := Lib.hid (show Ext wr wp from by rw [hwp]; exact Ext.alloc _ _)
      have HOp := Lib.hid (HO.out.below HXp.out)
      have hcells := HBp.out.cells
      have HPT := Lib.hid (putTextO_any (.slice oo on oc) xs first wp HOp.out.app.sl (by have := HXL.out; simp only [List.length_append] at this; omega) (by have := HPP.out; omega))
      go_wp2_with fail
      rw [← hwp, ← hpb]
      clear hwp hpb d0 d1 d2
      go_wp2_with fail
      refine HPT.out.mono ?_
      rintro e w3 ⟨v3, rfl, ho3, hb3⟩
      have HB3 := Lib.hid (HBp.out.below hb3)
      have HX3 := Lib.hid (HX.out.trans (HXp.out.trans hb3))
      have HO3 := Lib.hid (show Own w3 w.heap.size 5 1 v3 (bc (xs ++ putT first.data.toList)) from ho3.mono (by have := HX.out.size; have := HXp.out.size; omega))
      obtain ⟨ao3, n3, c3, rfl, -, -, -⟩ := ho3.sl.len
      clear hb3 ho3 hcells HPT
      have hcells := HB3.out.cells
      go_wp2_with fail
      obtain ⟨wd, hwd⟩ : ∃ wd, wd = w3.drew := ⟨_, rfl⟩
      have HXd := Lib.hid (show Ext w wd from by rw [hwd]; exact HX3.out.trans (Ext.drew w3))
      have HBd := Lib.hid (show Blk wd pb #[.string first, .int .i64 pa, .int .i64 ps] 82 from by rw [hwd]; exact HB3.out.drew)
      have HOd := Lib.hid (show Own wd w.heap.size 5 1 (.slice ao3 n3 c3) (bc (xs ++ putT first.data.toList)) from by rw [hwd]; exact HO3.out)
      clear HX3 HB3 HO3 hcells
      refine region_walkN (Ext wd) (by rw [← hwd]; exact Ext.refl _) (by kernel_rfl) (by kernel_rfl) (fun _ _ d _ _ h => by cases d <;> exact h) ?_
      rw [← hwd]
      clear hwd
      have g : ∀ W, Ext wd W → ∀ i, W.cell? ⟨pb, i, none⟩ = (#[.string first, .int .i64 pa, .int .i64 ps] : Array Value)[i]? := fun W h => (HBd.out.below h).cells
      have hwa : IntKind.u64.wrap (pa : Int) = (pa : Int) := by rw [IntKind.wrap_u64]; have := HPP.out; omega
      have hws : IntKind.u64.wrap (ps : Int) = (ps : Int) := by rw [IntKind.wrap_u64]; have := HPP.out; omega
      ((refine WalkN.take 0 _ ?_ (by simp only [List.getElem?_toArray, List.getElem?_cons_zero]; rfl) (by kernel_rfl) (by kernel_rfl) (by rfl) (fun W hW => ?_) ?_; rotate_left; · (go_simp; try with_reducible rfl)); simp only [Act.put, List.setIfInBounds_toArray, List.set_cons_zero, List.set_cons_succ]); ((refine WalkN.take 1 _ ?_ (by simp only [List.getElem?_toArray, List.getElem?_cons_succ, List.getElem?_cons_zero]; rfl) (by kernel_rfl) (by kernel_rfl) (by rfl) (fun W hW => ?_) ?_; rotate_left; · (go_simp; try with_reducible rfl)); simp only [Act.put, List.setIfInBounds_toArray, List.set_cons_zero, List.set_cons_succ]); ((refine WalkN.take 2 _ ?_ (by simp only [List.getElem?_toArray, List.getElem?_cons_succ, List.getElem?_cons_zero]; rfl) (by kernel_rfl) (by kernel_rfl) (by rfl) (fun W hW => ?_) ?_; rotate_left; · (go_simp; try with_reducible rfl)); simp only [Act.put, List.setIfInBounds_toArray, List.set_cons_zero, List.set_cons_succ]); ((refine WalkN.take 3 _ ?_ (by simp only [List.getElem?_toArray, List.getElem?_cons_succ, List.getElem?_cons_zero]; rfl) (by kernel_rfl) (by kernel_rfl) (by rfl) (fun W hW => ?_) ?_; rotate_left; · (go_simp; try with_reducible rfl)); simp only [Act.put, List.setIfInBounds_toArray, List.set_cons_zero, List.set_cons_succ]); ((refine WalkN.take 5 _ ?_ (by simp only [List.getElem?_toArray, List.getElem?_cons_succ, List.getElem?_cons_zero]; rfl) (by kernel_rfl) (by kernel_rfl) (by rfl) (fun W hW => ?_) ?_; rotate_left; · (go_simp; try with_reducible rfl)); simp only [Act.put, List.setIfInBounds_toArray, List.set_cons_zero, List.set_cons_succ]); ((refine WalkN.take 6 _ ?_ (by simp only [List.getElem?_toArray, List.getElem?_cons_succ, List.getElem?_cons_zero]; rfl) (by kernel_rfl) (by kernel_rfl) (by rfl) (fun W hW => ?_) ?_; rotate_left; · (go_simp; try with_reducible rfl)); simp only [Act.put, List.setIfInBounds_toArray, List.set_cons_zero, List.set_cons_succ]); ((refine WalkN.take 7 _ ?_ (by simp only [List.getElem?_toArray, List.getElem?_cons_succ, List.getElem?_cons_zero]; rfl) (by kernel_rfl) (by kernel_rfl) (by rfl) (fun W hW => ?_) ?_; rotate_left; · (go_simp; try with_reducible rfl)); simp only [Act.put, List.setIfInBounds_toArray, List.set_cons_zero, List.set_cons_succ])
      have HP4 := Lib.hid (putO_any (.slice ao3 n3 c3) (xs ++ putT first.data.toList) pa wd (Own.app HOd.out).sl (by have := HXL.out; simp only [List.length_append] at this ⊢; omega) (by unfold U64; have := HPP.out; omega))
      refine WalkN.one 4 (by kernel_rfl) ?_
      refine ⟨_, (by simp only [List.getElem?_toArray, List.getElem?_cons_succ, List.getElem?_cons_zero]; rfl), by rfl, fun K hK => ?_⟩
      go_simp
      refine HP4.out.mono ?_
      rintro e w6 ⟨v6, rfl, ho6, hb6⟩
      have hE6 : Ext wd w6 := hb6
      refine hK.out _ _ hE6 ?_
      clear hK
      have HP5 := Lib.hid (putO_any v6 _ ps w6 (Own.app ho6).sl (by have := HXL.out; simp only [List.length_append] at this ⊢; omega) (by unfold U64; have := HPP.out; omega))
      refine WalkN.one 8 (by kernel_rfl) ?_
      refine ⟨_, (by simp only [List.getElem?_toArray, List.getElem?_cons_succ, List.getElem?_cons_zero]; rfl), by rfl, fun K hK => ?_⟩
      go_simp
      refine HP5.out.mono ?_
      rintro e w7 ⟨v7, rfl, ho7, hb7⟩
      have hE7 : Ext wd w7 := hE6.trans hb7
      refine hK.out _ _ hE7 ?_
      clear hK
      ((refine WalkN.take 9 _ ?_ (by simp only [List.getElem?_toArray, List.getElem?_cons_succ, List.getElem?_cons_zero]; rfl) (by kernel_rfl) (by kernel_rfl) (by rfl) (fun W hW => ?_) ?_; rotate_left; · (go_simp; try with_reducible rfl)); simp only [Act.put, List.setIfInBounds_toArray, List.set_cons_zero, List.set_cons_succ])
      refine WalkN.done (by kernel_rfl) ?_
      have HO7 := Lib.hid (show Own w7 w.heap.size 5 1 v7 (bc (putB l.length ++ (l.take (i + 1)).flatMap plcB)) from by
        rw [HT2.out]
        exact ho7.mono (by have := HXd.out.size; have := hE6.size; omega))
      have HX7 := Lib.hid (HXd.out.trans hE7)
      obtain ⟨ao7, n7, c7, rfl, -, -, -⟩ := ho7.sl.len
      clear g ho6 hb6 hE6 ho7 hb7 hE7 HP4 HP5 hwa hws
      go_wp2_with fail
      go_roundw
      case rel => exact ⟨i + 1, by omega, by go_num, HO7.out, HX7.out⟩
      case measure => simp [intOf]; omega
    · obtain rfl : i = l.length := by omega
      rw [List.take_of_length_le (Nat.le_refl _)] at HO
      go_wp2_with fail
      go_ret
      exact ⟨_, rfl, HO.out, HX.out⟩

end Go.Proofs.YtmmeofiocbfamaaGreatDoor
