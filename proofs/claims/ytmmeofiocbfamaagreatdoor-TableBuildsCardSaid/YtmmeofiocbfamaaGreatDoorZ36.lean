/- sentrylaw14's TableBuilds. sentryref11's Seek. sentrylaw14's TableTells. No condition: lemmas. -/
import Derived.Test.YtmmeofiocbfamaaGreatDoorZ35
import Derived.Test.YtmmeofiocbfamaaGreatDoorZ21
namespace Go.Proofs.YtmmeofiocbfamaaGreatDoor
open Go Go.RowKit

theorem build_both {ks : List ByteArray} {split bits : Int} {w1 w1' w2 w2' : World} {e f : Ending} (h : RetBuild ks split bits w1 e w1') (k : RetBuild ks split bits w2 f w2') :
    Ext w1 w1' ∧ Ext w2 w2' ∧ ∃ (code : Int) (v1 v2 : Value) (l : List UInt8), e = .returned (.tuple #[v1, .int .i64 code]) ∧ f = .returned (.tuple #[v2, .int .i64 code]) ∧ Sl (fun b => b < w1'.heap.size) w1' 1 v1 (bc l) ∧ Sl (fun b => b < w2'.heap.size) w2' 1 v2 (bc l) := by
  obtain ⟨x1, h⟩ := h
  obtain ⟨x2, k⟩ := k
  refine ⟨x1, x2, ?_⟩
  rcases h with ⟨h1, rfl⟩ | ⟨h1, h2, rfl⟩ | ⟨h1, h2, h3, rfl⟩ | ⟨h1, h2, h3, v1, rfl, h4⟩ <;> rcases k with ⟨k1, rfl⟩ | ⟨k1, k2, rfl⟩ | ⟨k1, k2, k3, rfl⟩ | ⟨k1, k2, k3, v2, rfl, k4⟩
  · exact ⟨_, _, _, [], rfl, rfl, Sl.nil _ _ _, Sl.nil _ _ _⟩
  · exact absurd h1 k1
  · exact absurd h1 k1
  · exact absurd h1 k1
  · exact absurd k1 h1
  · exact ⟨_, _, _, [], rfl, rfl, Sl.nil _ _ _, Sl.nil _ _ _⟩
  · rw [h2] at k2; cases k2
  · rw [h2] at k2; cases k2
  · exact absurd k1 h1
  · rw [h2] at k2; cases k2
  · exact ⟨_, _, _, [], rfl, rfl, Sl.nil _ _ _, Sl.nil _ _ _⟩
  · exact absurd k3 h3
  · exact absurd k1 h1
  · rw [h2] at k2; cases k2
  · exact absurd h3 k3
  · exact ⟨_, _, _, _, rfl, rfl, h4.sl.mono fun b hb => hb.2, k4.sl.mono fun b hb => hb.2⟩

set_option maxRecDepth 100000 in
set_option maxHeartbeats 1600000 in
theorem tableBuilds_law (hop : OpenLaw) (v : Value) (ks : List ByteArray) (split bits : Int) (w : World) (henv : Env w) (h : Sl (· < w.heap.size) w 1 v (sc ks)) :
    Calls Tryz.prog 3 #[v, .int .i64 split, .int .i64 bits] w (RetV (.bool true) w) := by
  have HF := Lib.hid (fixed14_any hop w henv)
  have HS := Lib.hid h
  obtain ⟨ao, c, rfl, hlc, hcm, -, hcell⟩ := Sl.strs0 h
  have HC := Lib.hid hcell
  clear h hcell
  go_enter Tryz.func3, Tryz.ntmps3
  go_wp2_with fail
  refine HF.out.mono ?_
  clear HF
  rintro e w1 ⟨rfl, hx1⟩
  have HX1 := Lib.hid hx1
  clear hx1
  by_cases h80 : 80 < ks.length
  · have h80i : (80 : Int) < (ks.length : Int) := by omega
    clear h80
    go_wp2_with fail
    go_ret
    exact ⟨rfl, HX1.out⟩
  · have h80i : ¬ ((80 : Int) < (ks.length : Int)) := by omega
    go_wp2_with fail
    clear h80i
    have H80 := Lib.hid h80
    clear h80
    go_loopw [20] (fun iv wr => ∃ i : Nat, i ≤ ks.length ∧ iv = .int .i64 i ∧ (∀ j (hj : j < ks.length), j < i → ks[j].size ≤ 200) ∧ wr = w1) (fun iv _ => ks.length - (intOf iv).toNat)
    case atStart => exact ⟨0, Nat.zero_le _, rfl, (fun _ _ h => absurd h (Nat.not_lt_zero _)), rfl⟩
    case round =>
      obtain ⟨i, hi, rfl, hall, rfl⟩ := hrel
      have HALL := Lib.hid hall
      clear hall
      by_cases hlt : i < ks.length
      · obtain ⟨b, off, rfl, hb, hc⟩ := HC.out (by omega)
        have hcl := HX1.out.cell (hc i hlt)
        have HIL := Lib.hid hlt
        clear hc hb
        generalize hkey : ks[i] = key at *
        have HKEY := Lib.hid hkey
        clear hkey
        by_cases h200 : 200 < key.size
        · have h2i : (200 : Int) < (key.size : Int) := by omega
          clear h200
          go_wp2_with fail
          go_ret
          exact ⟨rfl, HX1.out⟩
        · have h2i : ¬ ((200 : Int) < (key.size : Int)) := by omega
          have HN := Lib.hid (show ∀ j (hj : j < ks.length), j < i + 1 → ks[j].size ≤ 200 from fun j hj h => (Nat.lt_succ_iff_lt_or_eq.1 h).elim (fun e => HALL.out j hj e) (fun e => by subst e; have he : ks[j]'hj = key := HKEY.out; rw [he]; omega))
          clear h200
          go_wp2_with fail
          go_roundw
          case rel => exact ⟨i + 1, HIL.out, by go_num, HN.out, trivial⟩
          case measure => have := HIL.out; simp [intOf]; omega
      · obtain rfl : i = ks.length := by omega
        have HK := Lib.hid (show ∀ k ∈ ks, k.size ≤ 1000 from fun k hk => by
          obtain ⟨j, hj, rfl⟩ := List.getElem_of_mem hk
          have := HALL.out j hj hj
          omega)
        have HB1 := Lib.hid (table_build (.slice ao ks.length c) ks split bits wr (henv.below HX1.out) (Sl.up HS.out HX1.out) (by have := H80.out; omega) HK.out)
        clear hlt hi
        go_wp2_with fail
        refine HB1.out.mono ?_
        clear HB1
        intro e w2 hr1
        have HR1 := Lib.hid hr1
        have HX2 := Lib.hid (HX1.out.trans hr1.1)
        have HB2 := Lib.hid (build14_any (.slice ao ks.length c) ks split bits w2 (Sl.up HS.out HX2.out) (by have := H80.out; omega) HK.out)
        have HE := Lib.hid (show ∃ (code : Int) (v1 : Value), e = .returned (.tuple #[v1, .int .i64 code]) from by
          obtain ⟨_, _, code, v1, _, _, h1, _⟩ := build_both hr1 hr1
          exact ⟨code, v1, h1⟩)
        clear hr1
        obtain ⟨code, v1, rfl⟩ := HE.out
        go_wp2_with fail
        refine HB2.out.mono ?_
        clear HB2
        intro e w3 hr2
        obtain ⟨hxa, hxb, code2, u1, u2, l, h1, rfl, h3, h4⟩ := build_both HR1.out hr2
        simp only [Ending.returned.injEq, Value.tuple.injEq, Array.mk.injEq, List.cons.injEq, Value.int.injEq, true_and, and_true] at h1
        obtain ⟨rfl, rfl⟩ := h1
        have HX3 := Lib.hid (HX2.out.trans hxb)
        have hc1 := str_sl (Sl.up h3 hxb)
        have hc2 := str_sl h4
        clear HE HR1 hr2 hxa hxb h3 h4
        go_wp2_with fail
        go_ret
        exact ⟨rfl, HX3.out⟩

end Go.Proofs.YtmmeofiocbfamaaGreatDoor
namespace Go.Proofs.YtmmeofiocbfamaaGreatDoor
open Go Go.RowKit

def Stays (v : Value) (w : World) (e : Ending) (w' : World) : Prop := e = .returned v ∧ w = w'

set_option maxRecDepth 100000 in
set_option maxHeartbeats 800000 in
theorem seek11_any (x : Value) (l : List ByteArray) (k : ByteArray) (w : World) (S : Nat → Prop) (hx : Sl S w 1 x (sc l)) :
    Calls Tryz.prog 16 #[x, .string k, .bool false] w (Stays (.tuple #[.string ((seekL l k).getD ByteArray.empty), .bool (seekL l k).isSome]) w) := by
  obtain ⟨ao, c, rfl, hac, hcm, hacell⟩ := hx.strs
  have HAC := Lib.hid hacell
  clear hacell hx
  go_enter Tryz.func16, Tryz.ntmps16
  go_wp2
  go_loop [12] (fun ii => ∃ i : Nat, i ≤ l.length ∧ ii = .int .i64 i ∧ seekL l k = seekL (l.drop i) k) (fun ii => l.length - (intOf ii).toNat)
  case atStart => exact ⟨0, by omega, rfl, rfl⟩
  case round =>
    obtain ⟨i, hi, rfl, hs⟩ := hrel
    by_cases hlt : i < l.length
    · obtain ⟨b, off, rfl, -, hc⟩ := HAC.out (by omega)
      have hci := hc i hlt
      have e1 := ByteArray.toList_eq l[i]
      have e2 := ByteArray.toList_eq k
      have hd : l.drop i = l[i] :: l.drop (i + 1) := List.drop_eq_getElem_cons hlt
      rw [hd] at hs
      clear hc hd
      cases hb : ltS l[i] k with
      | true =>
        have HS := Lib.hid (show seekL l k = seekL (l.drop (i + 1)) k from by rw [hs]; unfold seekL; rw [List.find?_cons, hb]; rfl)
        have hg1 : ltS k l[i] = false := by
          cases h : ltS k l[i] with
          | false => rfl
          | true => have := ltS_trans h hb; rw [ltS_irr] at this; cases this
        have hne : l[i] ≠ k := fun e => by rw [e, ltS_irr] at hb; cases hb
        have hbq := ba_beq hne
        unfold ltS at hg1 hb
        rw [e1, e2] at hg1 hb
        clear hs hne
        go_wp2
        go_round
        case rel => exact ⟨i + 1, by omega, by go_num, HS.out⟩
        case measure => simp [intOf]; omega
      | false =>
        have HS := Lib.hid (show seekL l k = some l[i] from by rw [hs]; unfold seekL; rw [List.find?_cons, hb]; rfl)
        by_cases he : l[i] = k
        · have hbq : (l[i].data.toList == k.data.toList) = true := by rw [he]; simp
          have hg1 : ltS k l[i] = false := by rw [he, ltS_irr]
          unfold ltS at hg1 hb
          rw [e1, e2] at hg1 hb
          clear he hs
          go_wp2
          go_ret2
          exact ⟨by rw [HS.out]; rfl, rfl⟩
        · have hg1 := ltS_total hb he
          have hbq := ba_beq he
          unfold ltS at hg1 hb
          rw [e1, e2] at hg1 hb
          clear he hs
          go_wp2
          go_ret2
          exact ⟨by rw [HS.out]; rfl, rfl⟩
    · obtain rfl : i = l.length := by omega
      have HS := Lib.hid (show seekL l k = none from by rw [hs, List.drop_length]; rfl)
      clear hs
      go_wp2
      go_ret2
      exact ⟨by rw [HS.out]; rfl, rfl⟩

end Go.Proofs.YtmmeofiocbfamaaGreatDoor
namespace Go.Proofs.YtmmeofiocbfamaaGreatDoor
open Go Go.RowKit

theorem meas_upB {n L : Nat} (h : n < L) : L - (intOf (.int .i64 ((n : Int) + 1))).toNat < L - (intOf (.int .i64 (n : Int))).toNat := by
  simp [intOf]; omega
/-- A table of a row, opened: its blocks are the row, cut. -/
theorem open_rowC {ks : List ByteArray} (h : KeyRow ks) (hne : ks ≠ []) (split bits : Int) : ∃ t, openT (tableB ks split bits) = (some t, 0) ∧ TbOk t ∧ t.count = ks.length ∧ t.filter = bloomB (dl (buildW ks split).stems) bits ∧
    t.idx.length = (cutL split ks).length ∧ (∀ j (hj : j < (cutL split ks).length), BlkOf t (j : Int) ((cutL split ks)[j]'hj)) ∧
    (∀ key w e w', RetSeek t key w e w' → Ext w w' ∧ e = seekR (seekL ks key)) ∧
    (∀ w e w', RetAll t w e w' → Ext w w' ∧ ∃ v, e = .returned (.tuple #[v, .int .i64 0]) ∧ Own w' w.heap.size 9 1 v (sc ks)) := by
  have hk1 : ∀ k ∈ ks, k.size ≤ 1000 := fun k hk => by have := h.short k hk; omega
  have h3 := open_cut ks split bits hne h.up hk1 (by have := h.few; omega)
  obtain ⟨-, -, h1, h2⟩ := blocks_cut ks split
  generalize cutL split ks = bl at *
  have hu : Up bl.flatten := h1 ▸ h.up.up
  have hs : ∀ k ∈ bl.flatten, k.size ≤ 400 := h1 ▸ fun k hk => by have := h.short k hk; omega
  have hl : bl.flatten.length ≤ 100 := h1 ▸ h.few
  have hs2 : ∀ k ∈ bl.flatten, k.size ≤ 1000 := h1 ▸ hk1
  have hst : (buildW ks split).stems.length ≤ 100 := by have := (WInv.build hk1 split).stems; have := h.few; omega
  refine ⟨_, h3, tbOk_put hu h2 hs hl (by have := bloom_len _ bits hst; omega), rfl, rfl, plcsOf_len 0 bl, fun j hj => blk_put hu h2 hs2 (by omega) j hj, fun key w e w' hr => ?_, fun w e w' hr => ?_⟩
  · have := seek_put hu h2 hs2 (by omega) hr
    rwa [← h1] at this
  · have := all_put hu h2 hs2 (by omega) hr
    rwa [← h1] at this

set_option maxRecDepth 100000 in
set_option maxHeartbeats 6000000 in
theorem tableTells_law (hop : OpenLaw) (v : Value) (es : List Ent) (split bits : Nat) (av : Value) (asks : List ByteArray) (w : World) (henv : Env w) (hx : Sl (· < w.heap.size) w 3 v (ec es)) (hl : es.length ≤ 4398046511104) (hu : ∀ e ∈ es, U64 e.2.1) (h1 : split < 65536) (h2 : bits < 256) (ha : Sl (· < w.heap.size) w 1 av (sc asks)) :
    Calls Tryz.prog 4 #[v, .int .u16 split, .int .u8 bits, av] w (RetV (.bool true) w) := by
  have HF := Lib.hid (fixed14_any hop w henv)
  have HX := Lib.hid hx
  have HU := Lib.hid hu
  have HL := Lib.hid hl
  have HA := Lib.hid ha
  obtain ⟨vo, vc, rfl, -, -, -⟩ := hx.ents
  obtain ⟨ao, ac, rfl, -, -, -, -⟩ := Sl.strs0 ha
  clear hx hu hl ha
  go_enter Tryz.func4, Tryz.ntmps4
  go_wp2_with fail
  refine HF.out.mono ?_
  clear HF
  rintro e w1 ⟨rfl, hx1⟩
  have HX1 := Lib.hid hx1
  have HK := Lib.hid (keys14_any _ es w1 (Sl.up HX.out hx1) HL.out HU.out)
  clear hx1
  go_wp2_with fail
  refine HK.out.mono ?_
  clear HK
  rintro e w2 ⟨kv, rfl, hkv, hx2⟩
  have HX2 := Lib.hid (show Ext w w2 from HX1.out.trans hx2)
  clear hx2 HX1
  cases hfew : fewB es with
  | false =>
    clear hkv
    go_wp2_with fail
    go_ret
    exact ⟨rfl, HX2.out⟩
  | true =>
    have HROW := Lib.hid (keyRow_of hfew HU.out)
    have HKV := Lib.hid (hkv hfew)
    generalize rowsL es = ks at *
    obtain ⟨ko, kc, rfl, -, -, -, hkcell⟩ := Sl.strs0 HKV.out
    have HKC := Lib.hid hkcell
    clear hkv hfew hkcell
    by_cases hk0 : ks.length = 0
    · have hkb : ((ks.length : Int) == 0) = true := by rw [hk0]; rfl
      clear hk0
      go_wp2_with fail
      go_ret
      exact ⟨rfl, HX2.out⟩
    have hkb : ((ks.length : Int) == 0) = false := by simp; intro e; exact hk0 (by rw [e]; rfl)
    have HNE := Lib.hid (show ks ≠ [] from fun e => hk0 (by rw [e]; rfl))
    clear hk0
    by_cases h40 : 40 < asks.length
    · have h4i : (40 : Int) < (asks.length : Int) := by omega
      clear h40
      go_wp2_with fail
      go_ret
      exact ⟨rfl, HX2.out⟩
    have h4i : ¬ ((40 : Int) < (asks.length : Int)) := by omega
    have H40 := Lib.hid h40
    clear h40
    have HK1 := Lib.hid (show ∀ k ∈ ks, k.size ≤ 1000 from fun k hk => by have := HROW.out.short k hk; omega)
    have HB1 := Lib.hid (table_build (.slice ko ks.length kc) ks (1 + (split : Int)) (bits : Int) w2 (henv.below HX2.out) HKV.out (by have := HROW.out.few; omega) HK1.out)
    have hw1 : IntKind.i64.wrap (split : Int) = (split : Int) := IntWalk.i64_in _ (by omega)
    have hw2 : IntKind.i64.wrap (bits : Int) = (bits : Int) := IntWalk.i64_in _ (by omega)
    have hw3 : wrap64 (1 + (split : Int)) = 1 + (split : Int) := by unfold wrap64; omega
    go_wp2_with fail
    refine HB1.out.mono ?_
    clear HB1 hkb h4i
    intro e w3 hr3
    obtain ⟨hx3, v3, rfl, ho3⟩ := build_row HROW.out HNE.out (by omega) hr3
    have HX3 := Lib.hid (HX2.out.trans hx3)
    have HKV3 := Lib.hid (Sl.up HKV.out hx3)
    have HO3 := Lib.hid ho3
    have HB2 := Lib.hid (build14_any (.slice ko ks.length kc) ks (1 + (split : Int)) (bits : Int) w3 HKV3.out (by have := HROW.out.few; omega) HK1.out)
    obtain ⟨bo3, bn3, bc3, rfl, -, -, -⟩ := ho3.sl.len
    clear hr3 hx3 ho3
    go_wp2_with fail
    refine HB2.out.mono ?_
    clear HB2
    intro e w4 hr4
    obtain ⟨hx4, v4, rfl, ho4⟩ := build_row HROW.out HNE.out (by omega) hr4
    have HX4 := Lib.hid (HX3.out.trans hx4)
    have HKV4 := Lib.hid (Sl.up HKV3.out hx4)
    have HO34 := Lib.hid (HO3.out.below hx4)
    have HO4 := Lib.hid ho4
    obtain ⟨bo4, bn4, bc4, rfl, -, -, -⟩ := ho4.sl.len
    obtain ⟨t, ht, htok, htc, htf, hti, hblk, hseek, hall⟩ := open_rowC HROW.out HNE.out (1 + (split : Int)) (bits : Int)
    have HTL := Lib.hid (show (tableB ks (1 + (split : Int)) (bits : Int)).length ≤ 10000000 from by have := tableB_len HROW.out (1 + (split : Int)) (bits : Int); omega)
    have HOP := Lib.hid (hop (.slice bo3 bn3 bc3) (tableB ks (1 + (split : Int)) (bits : Int)) w4 (HO34.out.sl.mono fun b hb => hb.2) HTL.out)
    rw [ht] at HOP
    have HTO := Lib.hid htok
    have HTC := Lib.hid htc
    have HTI := Lib.hid hti
    have HBK := Lib.hid hblk
    have HSK := Lib.hid hseek
    have HAL := Lib.hid hall
    have HMY := Lib.hid (show ∀ k ∈ ks, mayB t.filter (stemB k).data.toList = true from fun k hk => by rw [htf]; exact may_row ks _ _ k hk)
    have HCU := Lib.hid (fun (w' : World) (hx' : Ext w4 w') => cut14_any (.slice ko ks.length kc) ks (1 + (split : Int)) w' (Sl.up HKV4.out hx') HNE.out (by have := HROW.out.few; omega) HK1.out)
    have HBF := Lib.hid (show (cutL (1 + (split : Int)) ks).length ≤ 100 from by
      obtain ⟨-, -, e1, e2⟩ := blocks_cut ks (1 + (split : Int))
      have h5 := blocks_few _ e2
      rw [← e1] at h5
      have := HROW.out.few
      omega)
    generalize cutL (1 + (split : Int)) ks = bl at *
    generalize tableB ks (1 + (split : Int)) (bits : Int) = tby at *
    clear hr4 hx4 ho4 ht htok htc htf hti hblk hseek hall hw1 hw2 hw3 HX2 HX3 HKV HKV3 HO3
    go_wp2_with fail
    refine HOP.out.mono ?_
    clear HOP
    rintro e w5 ⟨hx5, tb, rfl, hat, -⟩
    have HX5 := Lib.hid (HX4.out.trans hx5)
    have HAT := Lib.hid hat
    have HX45 := Lib.hid (show Ext w4 w5 from hx5)
    have hc1 := str_sl (HO34.out.below hx5).sl
    have hc2 := str_sl (HO4.out.below hx5).sl
    have HLN := Lib.hid (len_any tb t w5 hat)
    rw [HTC.out] at HLN
    clear hx5 hat HX4 HO34 HO4
    go_wp2_with fail
    refine HLN.out.mono ?_
    clear HLN hc1 hc2
    rintro e w6 ⟨rfl, rfl⟩
    have HCU6 := Lib.hid (HCU.out w6 HX45.out)
    go_wp2_with fail
    refine HCU6.out.mono ?_
    clear HCU6 HCU
    rintro e w7 ⟨v7, rfl, hr7, hx7⟩
    have HX7 := Lib.hid (HX5.out.trans hx7)
    have HAT7 := Lib.hid (HAT.out.up hx7)
    have HKV7 := Lib.hid (Sl.up HKV4.out (HX45.out.trans hx7))
    obtain ⟨do7, dc7, rfl, -, -, hdcell⟩ := hr7.rws.get
    have HDC := Lib.hid hdcell
    have HBL := Lib.hid (blocks_any tb t w7 HAT7.out)
    rw [HTI.out] at HBL
    clear hr7 hx7 hdcell HAT HX5 HX45 HKV4
    go_wp2_with fail
    refine HBL.out.mono ?_
    clear HBL
    rintro e w8 ⟨rfl, rfl⟩
    go_wp2_with fail
    go_loopw [113] (fun jv wr => ∃ j : Nat, j ≤ bl.length ∧ jv = .int .i64 j ∧ Ext w8 wr) (fun jv _ => bl.length - (intOf jv).toNat)
    case atStart => exact ⟨0, Nat.zero_le _, rfl, Ext.refl _⟩
    case round =>
      obtain ⟨j, hj, rfl, hx⟩ := hrel
      have HX := Lib.hid hx
      clear hx
      by_cases hlt : j < bl.length
      · obtain ⟨db, doff, rfl, hdb, hdc⟩ := HDC.out (by omega)
        obtain ⟨u, hcu, hru⟩ := hdc j hlt
        have hcl := HX.out.cell hcu
        have HRU := Lib.hid (RowT.up hru HX.out)
        have HBJ := Lib.hid (HBK.out j hlt)
        have HBA := Lib.hid (block_any tb t j wr (HAT7.out.up HX.out) HTO.out)
        have HJL := Lib.hid hlt
        have hjw : wrap64 ((j : Int) + 1) = (j : Int) + 1 := by have := HBF.out; unfold wrap64; omega
        obtain ⟨uo, uc, rfl, -, -, -, -⟩ := Sl.strs0 hru
        clear hdc hcu hdb hru
        generalize bl[j]'hlt = row at *
        go_wp2_with fail
        refine HBA.out.mono ?_
        clear HBA
        intro e wa hr
        obtain ⟨hxa, hr⟩ := hr
        have HXA := Lib.hid (HX.out.trans hxa)
        have HRA := Lib.hid (RowT.up HRU.out hxa)
        rcases hr with ⟨rs, va, hbo, rfl, hsa⟩ | ⟨hno, -⟩
        · obtain rfl : rs = row := hbo.uniq HBJ.out
          have HSM := Lib.hid (same11_any va (.slice uo rs.length uc) rs rs wa hsa HRA.out)
          obtain ⟨ao2, an2, ac2, rfl, -, -, -⟩ := hsa.len
          rw [decide_eq_true rfl] at HSM
          clear hxa hbo hsa hcl HX HRU
          go_wp2_with fail
          refine HSM.out.mono ?_
          rintro e wc ⟨rfl, hxc⟩
          have HXC := Lib.hid (HXA.out.trans hxc)
          clear hxc HSM
          go_wp2_with fail
          go_roundw
          case rel => exact ⟨j + 1, HJL.out, by go_num, HXC.out⟩
          case measure => first | exact meas_upB HJL.out | (rw [hjw]; exact meas_upB HJL.out)
        · exact absurd HBJ.out (hno _)
      · obtain rfl : j = bl.length := by omega
        obtain ⟨wo, hwo⟩ : ∃ wo : World, wo = wr := ⟨_, rfl⟩
        subst hwo
        have HXo := Lib.hid (HX7.out.trans HX.out)
        have HATo := Lib.hid (HAT7.out.up HX.out)
        have HKVo := Lib.hid (Sl.up HKV7.out HX.out)
        have HAo := Lib.hid (Sl.up HA.out HXo.out)
        clear HDC HX HX7 HAT7 HKV7 HA hlt
        obtain ⟨L, hL⟩ : ∃ L, L = asks ++ ks := ⟨_, rfl⟩
        have HLE := Lib.hid (show sc L = sc asks ++ sc ks from by rw [hL, sc_append])
        have HLL := Lib.hid (show (sc asks).length ≤ 40 ∧ (sc ks).length ≤ 100 ∧ L.length ≤ 140 from by rw [hL, sc_length, sc_length, List.length_append]; have := H40.out; have := HROW.out.few; omega)
        clear hL
        have HO0 := Lib.hid (Own.made wo (Nat.le_refl _) 9 1)
        have HX0 := Lib.hid (Ext.alloc wo (.cells #[] 9))
        go_wp2_with (at_builtin; first | (refine wpList_own strsT rfl (.tmp 133) (.tmp 134) rfl rfl HO0.out rfl (Sl.up HAo.out HX0.out) (sc_one2 _) (by have := HLL.out; simp only [List.length_nil]; omega) (by have := HLL.out; simp only [List.length_nil]; omega) HX0.out.size ?_; intro va wa howna hba hgra; have HOa := Lib.hid (show Own wa wo.heap.size 9 1 va (sc asks) from howna); have HXa := Lib.hid (show Ext wo wa from Below.trans HX0.out hba); obtain ⟨aoa, na, ca, rfl, -, -, -⟩ := howna.sl.len; clear howna hba hgra) | go_must (refine wpList_own strsT rfl (.tmp 135) (.tmp 136) rfl rfl HOa.out rfl (Sl.up HKVo.out HXa.out) (sc_one2 _) (by have := HLL.out; omega) (by have := HLL.out; omega) HXa.out.size ?_; intro vb wb hownb hbb hgrb; have HOb := Lib.hid (show Own wb wo.heap.size 9 1 vb (sc L) from by rw [HLE.out]; exact hownb); have HXb := Lib.hid (show Ext wo wb from Below.trans HXa.out hbb); obtain ⟨bo, bc', rfl, hbn, hbm, -, hbcell⟩ := Sl.strs0 HOb.out.sl; have HBC := Lib.hid hbcell; clear hownb hbb hgrb hbcell))
        go_loopw [139] (fun iv wr => ∃ i : Nat, i ≤ L.length ∧ iv = .int .i64 i ∧ Ext wb wr) (fun iv _ => L.length - (intOf iv).toNat)
        case atStart => exact ⟨0, Nat.zero_le _, rfl, Ext.refl _⟩
        case round =>
          obtain ⟨i, hi, rfl, hx⟩ := hrel
          have HX := Lib.hid hx
          clear hx
          have hiw : wrap64 ((i : Int) + 1) = (i : Int) + 1 := by have := HLL.out; unfold wrap64; omega
          by_cases hlt : i < L.length
          · obtain ⟨lb, loff, rfl, -, hlc⟩ := HBC.out (by omega)
            have hcl := HX.out.cell (hlc i hlt)
            have HIL := Lib.hid hlt
            have HATw := Lib.hid ((HATo.out.up HXb.out).up HX.out)
            have HKVw := Lib.hid (Sl.up (Sl.up HKVo.out HXb.out) HX.out)
            clear hlc
            generalize L[i]'hlt = key at *
            by_cases h300 : 300 < key.size
            · have h3i : (300 : Int) < (key.size : Int) := by omega
              clear h300
              go_wp2_with fail
              go_ret
              exact ⟨rfl, HXo.out.trans (HXb.out.trans HX.out)⟩
            · have h3i : ¬ ((300 : Int) < (key.size : Int)) := by omega
              clear h300
              have HST := Lib.hid (seekT_any tb t key wr HATw.out HTO.out)
              go_wp2_with fail
              refine HST.out.mono ?_
              clear HST
              intro e wc hr
              obtain ⟨hxc, rfl⟩ := HSK.out _ _ _ _ hr
              have HXC := Lib.hid (HX.out.trans hxc)
              have HS11 := Lib.hid (seek11_any (.slice ko ks.length kc) ks key wc _ (Sl.up HKVw.out hxc))
              have hee : ∀ x : ByteArray, (x.toList == x.toList) = true := fun x => by simp
              clear hr hxc hcl h3i HATw HKVw HX
              unfold seekR
              have HQ := Lib.hid (show (ByteArray.empty) = (⟨#[]⟩ : ByteArray) from rfl)
              rw [HQ.out] at HS11
              generalize (seekL ks key).getD ⟨#[]⟩ = sk at *
              generalize (seekL ks key).isSome = sb at *
              have hss := hee sk
              clear hee
              go_wp2_with fail
              refine HS11.out.mono ?_
              clear HS11
              rintro e wd ⟨rfl, rfl⟩
              go_wp2_with fail
              go_roundw
              case rel => exact ⟨i + 1, HIL.out, by go_num, HXC.out⟩
              case measure => first | exact meas_upB HIL.out | (rw [hiw]; exact meas_upB HIL.out)
          · clear hiw
            obtain rfl : i = L.length := by omega
            obtain ⟨wp, hwp⟩ : ∃ wp : World, wp = wr := ⟨_, rfl⟩
            subst hwp
            have HXp := Lib.hid (HXo.out.trans (HXb.out.trans HX.out))
            have HATp := Lib.hid ((HATo.out.up HXb.out).up HX.out)
            have HKVp := Lib.hid (Sl.up (Sl.up HKVo.out HXb.out) HX.out)
            obtain ⟨_, _, hv5, -, -, -, hkcell⟩ := Sl.strs0 HKVp.out
            cases hv5
            have HKP := Lib.hid hkcell
            clear hkcell HBC HX HXb HXo HATo HKVo HAo HKC hlt
            go_wp2_with fail
            go_loopw [174] (fun iv wr => ∃ i : Nat, i ≤ ks.length ∧ iv = .int .i64 i ∧ Ext wp wr) (fun iv _ => ks.length - (intOf iv).toNat)
            case atStart => exact ⟨0, Nat.zero_le _, rfl, Ext.refl _⟩
            case round =>
              obtain ⟨i, hi, rfl, hx⟩ := hrel
              have HX := Lib.hid hx
              clear hx
              have hiw : wrap64 ((i : Int) + 1) = (i : Int) + 1 := by have := HROW.out.few; unfold wrap64; omega
              by_cases hlt : i < ks.length
              · obtain ⟨lb, loff, rfl, -, hlc⟩ := HKP.out (by omega)
                have hcl := HX.out.cell (hlc i hlt)
                have HIL := Lib.hid hlt
                have HKZ := Lib.hid (HROW.out.short _ (List.getElem_mem hlt))
                have HMK := Lib.hid (HMY.out _ (List.getElem_mem hlt))
                have HATw := Lib.hid (HATp.out.up HX.out)
                clear hlc
                generalize ks[i]'hlt = key at *
                have HS14 := Lib.hid (fun W => stem14_any key W (by have := HKZ.out; omega))
                have HSM := Lib.hid (fun W => stem_any key W (by have := HKZ.out; omega))
                rw [show key.extract 0 (key.size - 9) = stemB key from rfl] at HSM
                have HMA := Lib.hid (tmay_any tb t wr (stemB key) HATw.out HTO.out (by have := stemB_size key; have := HKZ.out; omega))
                rw [HMK.out] at HMA
                generalize stemB key = st at *
                have hss : (st.toList == st.toList) = true := by simp
                go_wp2_with fail
                refine (HS14.out wr).mono ?_
                rintro e wc ⟨rfl, rfl⟩
                go_wp2_with fail
                refine HMA.out.mono ?_
                clear HMA
                rintro e wd ⟨rfl, hxd⟩
                have HXd := Lib.hid (HX.out.trans hxd)
                clear hxd HX
                go_wp2_with fail
                refine (HSM.out wd).mono ?_
                rintro e we ⟨rfl, rfl⟩
                go_wp2_with fail
                refine (HS14.out we).mono ?_
                rintro e wf ⟨rfl, rfl⟩
                go_wp2_with fail
                go_roundw
                case rel => exact ⟨i + 1, HIL.out, by go_num, HXd.out⟩
                case measure => first | exact meas_upB HIL.out | (rw [hiw]; exact meas_upB HIL.out)
              · clear hiw
                obtain rfl : i = ks.length := by omega
                have HXq := Lib.hid (HXp.out.trans HX.out)
                have HATq := Lib.hid (HATp.out.up HX.out)
                have HKVq := Lib.hid (Sl.up HKVp.out HX.out)
                have HALL := Lib.hid (all_any tb t wr HATq.out HTO.out)
                clear HX HXp HATp HKVp HKP hlt
                go_wp2_with fail
                refine HALL.out.mono ?_
                clear HALL
                intro e wc hr
                obtain ⟨hxc, va, rfl, hoa⟩ := HAL.out _ _ _ hr
                have HXc := Lib.hid (HXq.out.trans hxc)
                have HATc := Lib.hid (HATq.out.up hxc)
                have HKVc := Lib.hid (Sl.up HKVq.out hxc)
                have HOA := Lib.hid (hoa.sl.mono (T := (· < wc.heap.size)) fun b hb => hb.2)
                have HBE := Lib.hid (block_any tb t bl.length wc HATc.out HTO.out)
                obtain ⟨ao2, an2, ac2, rfl, -, -, -⟩ := hoa.sl.len
                clear hr hxc hoa HXq HATq HKVq
                go_wp2_with fail
                refine HBE.out.mono ?_
                clear HBE
                intro e wd hr
                obtain ⟨hxd, hr⟩ := hr
                have HXd := Lib.hid (HXc.out.trans hxd)
                have HSM := Lib.hid (same11_any (.slice ao2 an2 ac2) (.slice ko ks.length kc) ks ks wd (Sl.up HOA.out hxd) (Sl.up HKVc.out hxd))
                rw [decide_eq_true rfl] at HSM
                rcases hr with ⟨rs, vd, hbo, rfl, hsd⟩ | ⟨-, er, -, her, rfl⟩
                · obtain ⟨j', hj', e', -⟩ := hbo
                  have := HTI.out
                  omega
                · obtain rfl : er = 1 := her (.inr (by have := HTI.out; omega))
                  clear her hxd
                  go_wp2_with fail
                  refine HSM.out.mono ?_
                  clear HSM
                  rintro e we ⟨rfl, hxe⟩
                  have HXe := Lib.hid (HXd.out.trans hxe)
                  clear hxe
                  go_wp2_with fail
                  go_ret
                  exact ⟨rfl, HXe.out⟩

end Go.Proofs.YtmmeofiocbfamaaGreatDoor
