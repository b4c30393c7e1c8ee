/- bloom's Make. bloom's May. No condition: lemmas. -/
import Derived.Test.YtmmeofiocbfamaaDoorZ8
import Derived.Test.YtmmeofiocbfamaaDoorZ1
namespace Go.Proofs.YtmmeofiocbfamaaDoor
open Go Go.RowKit

theorem bloom_info : (Tryd.prog.info? 5).map (fun i => (i.zero, i.size, i.bytes)) = some (some (.int .u8 0), 1, 1) := by kernel_rfl
theorem make8 (n : Nat) (h : n ≤ 100000000) (z : Int) (hz : z = (n : Int)) : ∀ W, (Instr.makeSlice 24 (.int .i64 z) (.int .i64 (z + 1))).run Tryd.prog W = .ok (.slice (some ⟨W.heap.size, 0, none⟩) n (n + 1)) (W.alloc (.cells (madeCells #[.int .u8 0] (n + 1)) 5)) := by
  subst hz
  intro W
  obtain ⟨i, hi, hzz⟩ := Option.map_eq_some_iff.1 bloom_info
  simp only [Prod.mk.injEq] at hzz
  obtain ⟨hz, hs, hb⟩ := hzz
  have := run_make (P := Tryd.prog) W 24 5 i (.int .u8 0) Tryd.underlying24 hi hz .i64 .i64 n (n + 1) (by omega) (by omega) (by rw [hb]; omega) (by omega)
  rw [this, hs, Nat.mul_one]
  rfl
/-- The filter under work: n bytes with room for one more. -/
def FilG (w : World) (g n : Nat) (l : List UInt8) : Prop := l.length = n ∧ w.ownsRow g 5 1 (.slice (some ⟨g, 0, none⟩) n (n + 1)) n (bc l)
theorem FilG.made (w : World) (n : Nat) (h : n ≤ 100000000) : FilG (w.alloc (.cells (madeCells #[.int .u8 0] (n + 1)) 5)) w.heap.size n (List.replicate n 0) := by
  refine ⟨List.length_replicate, by rw [bc_length, List.length_replicate]; omega, .inr ⟨w.heap.size, n + 1, _, rfl, Nat.le_refl _, heap_alloc_new w _, by omega, by unfold maxLen; omega, by rw [size_madeCells]; omega, ?_⟩⟩
  apply List.ext_getElem?
  intro j
  rw [List.getElem?_take]
  by_cases hj : j < n
  · rw [if_pos (by omega)]
    simp [madeCells, bc, show j < n + 1 by omega, hj, Nat.mod_one]
  · rw [if_neg (by omega)]
    simp [bc, show n ≤ j by omega]
theorem FilG.keep {w w' : World} {g n : Nat} {l : List UInt8} (h : FilG w g n l) (e : w'.heap[g]? = w.heap[g]?) : FilG w' g n l := by
  refine ⟨h.1, h.2.1, ?_⟩
  rcases h.2.2 with ⟨h', _⟩ | ⟨g', cap', cur, h', hb, hg, r⟩
  · simp at h'
  · have h2 := h'
    simp only [Value.slice.injEq, Option.some.injEq, Addr.mk.injEq, and_true, true_and] at h2
    obtain ⟨rfl, rfl⟩ := h2
    exact .inr ⟨g, n + 1, cur, rfl, hb, e.trans hg, r⟩
theorem FilG.cell {w : World} {g n : Nat} {l : List UInt8} (h : FilG w g n l) {k : Nat} (hk : k < n) : w.cell? ⟨g, k, none⟩ = some (.int .u8 ((l.getD k 0).toNat : Nat)) := by
  rw [h.2.cellAt k (by omega)]
  have := h.1
  simp [bc, List.getD_eq_getElem?_getD, List.getElem?_eq_getElem (show k < l.length by omega)]
theorem FilG.lt {w : World} {g n : Nat} {l : List UInt8} (h : FilG w g n l) : g < w.heap.size := (h.2.lt g rfl).2
theorem FilG.set {w : World} {g n : Nat} {l : List UInt8} (h : FilG w g n l) (k : Nat) (m : Nat) (hm : m < 256) : FilG (w.setCell ⟨g, k, none⟩ (.int .u8 m)) g n (l.set k (UInt8.ofNat m)) := by
  refine ⟨by rw [List.length_set]; exact h.1, ?_⟩
  have := (h.2.stored k (.int .u8 m)).1
  have e : bc (l.set k (UInt8.ofNat m)) = (bc l).set k (.int .u8 m) := by
    unfold bc
    rw [List.map_set]
    congr 2
    simp only [UInt8.toNat_ofNat']
    omega
  rw [e]; exact this
theorem fillK_snoc (n i : Nat) (l key : List UInt8) : fillK n (i + 1) l key = setB (fillK n i l key) (plcN key (8 * n) i) := by
  unfold fillK
  rw [List.range_succ, List.foldl_append, List.foldl_cons, List.foldl_nil]
theorem foldk_snoc (n m : Nat) (z : List UInt8) (ks : List (List UInt8)) (i : Nat) (hi : i < ks.length) : (ks.take (i + 1)).foldl (fillK n m) z = fillK n m ((ks.take i).foldl (fillK n m) z) ks[i] := by
  rw [List.take_succ_eq_append_getElem hi, List.foldl_append, List.foldl_cons, List.foldl_nil]
theorem bitsN_bound (b : Int) : 1 ≤ bitsN b ∧ bitsN b ≤ 40 := by unfold bitsN; omega
theorem bitsN_eq (b : Int) : min (max b 1) 40 = ((bitsN b : Nat) : Int) := by unfold bitsN; omega

set_option maxRecDepth 100000 in
set_option maxHeartbeats 1000000 in
theorem make_any {S : Nat → Prop} (v : Value) (ks : List ByteArray) (b : Int) (w : World) (hSw : ∀ b, S b → b < w.heap.size) (h : Sl S w 1 v (sc ks)) (hl : ks.length ≤ 1000000) (hk : ∀ k ∈ ks, k.size ≤ 1000000000) :
    Calls Tryd.prog 30 #[v, .int .i64 b] w fun e w' => ∃ v', e = .returned v' ∧ Own w' w.heap.size 5 1 v' (bc (bloomB (ks.map fun k => k.data.toList) b)) ∧ Ext w w' := by
  have HS := Lib.hid h
  obtain ⟨ao, c, rfl, hlc, hcm, -, hcell⟩ := Sl.strs0 h
  have HC := Lib.hid hcell
  have HK := Lib.hid hk
  have HSW := Lib.hid hSw
  have HBE := Lib.hid (bitsN_eq b)
  have HBB := Lib.hid (bitsN_bound b)
  have HBL := Lib.hid (show bloomB (ks.map fun k => k.data.toList) b = (ks.map fun k => k.data.toList).foldl (fillK (bloomN ks.length (bitsN b)) (manyN (bitsN b))) (List.replicate (bloomN ks.length (bitsN b)) 0) ++ [UInt8.ofNat (manyN (bitsN b))] from by unfold bloomB; rw [List.length_map])
  generalize bitsN b = bn at *
  have hm : (ks.length : Int) * (bn : Int) = ((ks.length * bn : Nat) : Int) := by simp
  have hmb : ks.length * bn ≤ 40000000 := by have := Nat.mul_le_mul hl HBB.out.2; omega
  have HN := Lib.hid (show bloomN ks.length bn = (max (ks.length * bn) 64 + 7) / 8 from rfl)
  clear hcell h hk hSw
  go_enter Tryd.func30, Tryd.ntmps30
  have hbe := HBE.out
  generalize ks.length * bn = lb at *
  have hmk := make8 ((max lb 64 + 7) / 8) (by omega) ((max (lb : Int) 64 + 7) / 8) (by omega)
  have HN8 := Lib.hid (show (max (lb : Int) 64 + 7) / 8 = (((max lb 64 + 7) / 8 : Nat) : Int) from by omega)
  have HNB := Lib.hid (show 8 ≤ (max lb 64 + 7) / 8 ∧ (max lb 64 + 7) / 8 ≤ 10000000 from by omega)
  rw [HN.out] at HBL
  rw [HN8.out] at hmk
  clear HN
  generalize hn : (max lb 64 + 7) / 8 = n at *
  clear hn
  have hnb := HNB.out
  have hn8 := HN8.out
  go_wp2_with fail
  have HF0 := Lib.hid (FilG.made w n (by omega))
  have HX0 := Lib.hid (Ext.alloc w (.cells (madeCells #[.int .u8 0] (n + 1)) 5))
  generalize w.alloc (.cells (madeCells #[.int .u8 0] (n + 1)) 5) = wm at *
  clear hmk hn8 hm hbe
  have HMN := Lib.hid (manyN_bound bn)
  generalize hmn : manyN bn = m at *
  have HMM := Lib.hid hmn
  clear hmn
  generalize hks : ks.map (fun k => k.data.toList) = kl at *
  have HKL := Lib.hid (show kl.length = ks.length ∧ ∀ i (h : i < ks.length) (h' : i < kl.length), kl[i] = ks[i].data.toList from by subst hks; exact ⟨by rw [List.length_map], fun i h h' => by rw [List.getElem_map]⟩)
  have HKE := Lib.hid hks
  clear hks
  go_loopw [28] (fun iv wr => ∃ i : Nat, i ≤ ks.length ∧ iv = .int .i64 i ∧ FilG wr w.heap.size n ((kl.take i).foldl (fillK n m) (List.replicate n 0)) ∧ Ext w wr) (fun iv _ => ks.length - (intOf iv).toNat)
  case atStart => exact ⟨0, by omega, rfl, HF0.out, HX0.out⟩
  case round =>
    obtain ⟨i, hi, rfl, hf, hx⟩ := hrel
    have HF := Lib.hid hf
    have HX := Lib.hid hx
    clear hf hx
    by_cases hlt : i < ks.length
    · obtain ⟨bk, off, rfl, hbk, hcc⟩ := HC.out (by omega)
      have hcell := HX.out.cell (hcc i hlt)
      have HKS := Lib.hid (show (ks[i]).size ≤ 1000000000 from HK.out _ (List.getElem_mem hlt))
      have HI := Lib.hid (foldk_snoc n m (List.replicate n 0) kl i (by rw [HKL.out.1]; exact hlt))
      rw [HKL.out.2 i hlt (by rw [HKL.out.1]; exact hlt)] at HI
      generalize (kl.take i).foldl (fillK n m) (List.replicate n 0) = l0 at *
      generalize ks[i] = key at *
      clear hcc
      have HST := Lib.hid (show ∀ W, Calls Tryd.prog 51 #[.string key, .int .i64 (8 * (n : Int))] W fun e w' => e = .returned (.agg #[.int .u64 (hashB key.data.toList % 4294967296 : Nat), .int .u64 (stepD key.data.toList), .int .u64 (8 * n : Nat)]) ∧ Ext W w' from fun W => start_any key (8 * n) W HKS.out (by omega))
      have HH := Lib.hid (show hashB key.data.toList < 18446744073709551616 from hashF_lt (by decide) _)
      have HSD := Lib.hid (show stepD key.data.toList ≤ 4294967296 from by unfold stepD; have := HH.out; split <;> omega)
      have HPL := Lib.hid (show ∀ j, plcN key.data.toList (8 * n) j = (hashB key.data.toList % 4294967296 + j * stepD key.data.toList) % (8 * n) from fun _ => rfl)
      have HH2 := Lib.hid (show hashB key.data.toList % 4294967296 < 4294967296 from Nat.mod_lt _ (by decide))
      clear HH
      generalize hashB key.data.toList % 4294967296 = h0 at *
      generalize stepD key.data.toList = sd at *
      have hm8 : (n : Int) * 8 = ((8 * n : Nat) : Int) := by omega
      go_wp2_with fail
      refine (HST.out wr).mono ?_
      rintro e w1 ⟨rfl, hx1⟩
      have HX1 := Lib.hid (HX.out.trans hx1)
      have HF1 := Lib.hid (HF.out.keep (hx1.block _ HF.out.lt))
      clear HST hx1 hcell HF HX hm8
      go_wp2_with fail
      have HP2 := Lib.hid (show Prb (w1.alloc (.cells #[.int .u64 (h0 : Int), .int .u64 (sd : Int), .int .u64 (8 * (n : Int))] 96)) w1.heap.size h0 sd (8 * n) from Blk.made w1 _ _)
      have HX2 := Lib.hid (HX1.out.trans (Ext.alloc w1 (.cells #[.int .u64 (h0 : Int), .int .u64 (sd : Int), .int .u64 (8 * (n : Int))] 96)))
      have HF2 := Lib.hid (HF1.out.keep ((Ext.alloc w1 (.cells #[.int .u64 (h0 : Int), .int .u64 (sd : Int), .int .u64 (8 * (n : Int))] 96)).block _ HF1.out.lt))
      have HPB := Lib.hid (show w.heap.size < w1.heap.size from HF1.out.lt)
      generalize w1.alloc (.cells #[.int .u64 (h0 : Int), .int .u64 (sd : Int), .int .u64 (8 * (n : Int))] 96) = w2 at *
      have HMC := Lib.hid (show Calls Tryd.prog 52 #[.int .i64 bn] w2 fun e w' => e = .returned (.int .i64 m) ∧ w' = w2 from by have := many_any bn w2 HBB.out.2; rw [HMM.out] at this; exact this)
      generalize w1.heap.size = pb at *
      clear HX1 HF1
      refine HMC.out.mono ?_
      rintro e w3 ⟨rfl, rfl⟩
      clear HMC
      go_wp2_with fail
      go_loopw [38] (fun jv wr => ∃ j : Nat, j ≤ m ∧ jv = .int .i64 j ∧ FilG wr w.heap.size n (fillK n j l0 key.data.toList) ∧ Prb wr pb (h0 + j * sd) sd (8 * n) ∧ Ext w wr) (fun jv _ => m - (intOf jv).toNat)
      case atStart => exact ⟨0, by omega, rfl, HF2.out, by rw [Nat.zero_mul]; exact HP2.out, HX2.out⟩
      case round =>
        clear HF2 HP2 HX2
        obtain ⟨j, hj, rfl, hf, hp, hx⟩ := hrel
        have HF := Lib.hid hf
        have HP := Lib.hid hp
        have HX := Lib.hid hx
        clear hf hp hx
        by_cases hlj : j < m
        · have HM := Lib.hid hlj
          have hjs : j * sd ≤ 30 * 4294967296 := Nat.mul_le_mul (by have := HMN.out; omega) HSD.out
          have HN := Lib.hid (probe_next pb (h0 + j * sd) sd (8 * n) _ HP.out (by have := HH2.out; omega) (by have := HSD.out; omega) (by omega) (by omega))
          rw [← HPL.out j] at HN
          have HK8 := Lib.hid (fillK_snoc n j l0 key.data.toList)
          have HPLT := Lib.hid (plcN_lt key.data.toList n j (by omega))
          generalize fillK n j l0 key.data.toList = lj at *
          generalize plcN key.data.toList (8 * n) j = pl at *
          clear hjs
          have hmb := HMN.out
          have ej : wrap64 ((j : Int) + 1) = ((j + 1 : Nat) : Int) := by unfold wrap64; omega
          have em : m - (intOf (Value.int .i64 ((j + 1 : Nat) : Int))).toNat < m - (intOf (Value.int .i64 (j : Int))).toNat := by simp [intOf]; omega
          have EJ := Lib.hid ej
          clear ej hmb
          go_wp2_with fail
          refine HN.out.mono ?_
          rintro e w4 ⟨rfl, hp4, hk4⟩
          have HP4 := Lib.hid hp4
          have HX4 := Lib.hid (show Ext w w4 from Below.trans HX.out (hk4.below fun b hb => by have := HPB.out; omega))
          have HF4 := Lib.hid (HF.out.keep (hk4.block _ (by have := HPB.out; omega)))
          clear hp4 hk4 HP HX HF HN
          have hc4 := HF4.out.cell HPLT.out
          have hf4 := HF4.out.2.frozenAt (pl / 8)
          have hpl := HPLT.out
          go_wp2_with fail
          clear hpl hc4 hf4
          have hpw : (2 : Nat) ^ (pl % 8) < 256 := by
            have : (2 : Nat) ^ (pl % 8) < 2 ^ 8 := Nat.pow_lt_pow_right (by omega) (by omega)
            exact this
          have e1 : bits .or .u8 (((lj[pl / 8]?.getD 0).toNat : Nat) : Int) (2 ^ (pl % 8)) = (((lj[pl / 8]?.getD 0).toNat ||| 2 ^ (pl % 8) : Nat) : Int) := by
            have := u8_or_nat (lj[pl / 8]?.getD 0).toNat (2 ^ (pl % 8)) (UInt8.toNat_lt _) hpw
            rw [← this]; rfl
          rw [e1]
          rw [EJ.out]
          have hset := HF4.out.set (pl / 8) ((lj[pl / 8]?.getD 0).toNat ||| 2 ^ (pl % 8)) (or_lt8 _ _ (UInt8.toNat_lt _))
          refine ⟨⟨j + 1, HM.out, rfl, ?_, ?_, ?_⟩, em⟩
          · rw [HK8.out]; unfold setB; rw [List.getD_eq_getElem?_getD]; exact hset
          · have := HP4.out.other (a := ⟨w.heap.size, pl / 8, none⟩) (by show pb ≠ w.heap.size; have := HPB.out; omega) (.int .u8 (((lj[pl / 8]?.getD 0).toNat ||| 2 ^ (pl % 8) : Nat) : Int))
            rw [show h0 + j * sd + sd = h0 + (j + 1) * sd from by rw [Nat.succ_mul]; omega] at this
            exact this
          · exact Below.setCell HX4.out (Nat.le_refl _) _
        · obtain rfl : j = m := by omega
          go_wp2_with fail
          go_roundw
          case rel =>
            refine ⟨i + 1, by omega, by go_num, ?_, HX.out⟩
            rw [HI.out]; exact HF.out
          case measure => simp [intOf]; omega
    · obtain rfl : i = ks.length := by omega
      have e := HKL.out.1
      rw [List.take_of_length_le (by omega)] at HF
      have HMC := Lib.hid (show Calls Tryd.prog 52 #[.int .i64 bn] wr fun e w' => e = .returned (.int .i64 m) ∧ w' = wr from by have := many_any bn wr HBB.out.2; rw [HMM.out] at this; exact this)
      generalize kl.foldl (fillK n m) (List.replicate n 0) = lf at *
      have HCO := Lib.hid (show bc lf ++ [Value.int .u8 (m : Int)] = bc (lf ++ [UInt8.ofNat m]) from by
        have := HMN.out
        unfold bc
        rw [List.map_append]
        congr 1
        show [Value.int .u8 (m : Int)] = [Value.int .u8 ((UInt8.ofNat m).toNat : Int)]
        rw [show (UInt8.ofNat m).toNat = m from by simp only [UInt8.toNat_ofNat']; omega])
      have HLF := Lib.hid HF.out.1
      have HOW := Lib.hid (show Own wr w.heap.size 5 1 (.slice (some ⟨w.heap.size, 0, none⟩) n (n + 1)) (bc lf) from ⟨n, HF.out.2⟩)
      have hm256 : (m : Int) % 256 = (m : Int) := by have := HMN.out; omega
      clear HC HK HSW HKL
      go_wp2_with fail
      refine HMC.out.mono ?_
      rintro e w3 ⟨rfl, rfl⟩
      clear HMC
      go_wp2_with (at_builtin; go_must (refine wpList_own_lit bytesT rfl (.tmp 53) (.tmp 57) rfl rfl HOW.out rfl rfl (by simp [Value.oneCell']) (by rw [bc_length, HLF.out]; simp; omega) (by rw [bc_length, HLF.out]; simp; omega) HX.out.size ?_; intro v5 w5 hown5 hb5 hgr5; have HO5 := Lib.hid (show Own w5 w.heap.size 5 1 v5 (bc (lf ++ [UInt8.ofNat m])) from by rw [← HCO.out]; exact hown5); have HX5 := Lib.hid (show Ext w w5 from Below.trans HX.out hb5); obtain ⟨ao5, n5, c5, rfl, -, -, -⟩ := hown5.sl.len; clear hown5 hb5 hgr5))
      go_ret
      exact ⟨_, rfl, by rw [HKE.out, HBL.out]; exact HO5.out, HX5.out⟩

end Go.Proofs.YtmmeofiocbfamaaDoor
namespace Go.Proofs.YtmmeofiocbfamaaDoor
open Go Go.RowKit

theorem and_bit (y k : Nat) (hy : y < 256) (hk : k < 8) : bits .and .u8 (y : Int) ((2 ^ k : Nat) : Int) = if y.testBit k then ((2 ^ k : Nat) : Int) else 0 := by
  have hp : (2 : Nat) ^ k < 256 := by
    have : (2 : Nat) ^ k < 2 ^ 8 := Nat.pow_lt_pow_right (by omega) hk
    exact this
  rw [u8_and_nat y (2 ^ k) hy hp]
  have e : y &&& 2 ^ k = if y.testBit k then 2 ^ k else 0 := by
    apply Nat.eq_of_testBit_eq
    intro i
    rw [Nat.testBit_and, Nat.testBit_two_pow]
    by_cases hi : k = i
    · subst hi
      cases h : y.testBit k
      · simp
      · simp [Nat.testBit_two_pow_self]
    · cases h : y.testBit k
      · simp [hi]
      · simp [hi, Nat.testBit_two_pow]
  rw [e]
  split <;> rfl
theorem mayB_def (l key : List UInt8) (n : Nat) (hl : l.length = n + 1) (h8 : 8 ≤ n) : mayB l key = if (l.getD n 0).toNat = 0 ∨ 30 < (l.getD n 0).toNat then true else (List.range (l.getD n 0).toNat).all fun i => hasB l (plcN key (8 * n) i) := by
  unfold mayB
  rw [hl, Nat.add_sub_cancel]
  by_cases h : (l.getD n 0).toNat = 0 ∨ 30 < (l.getD n 0).toNat
  · rw [if_pos (.inr h), if_pos h]
  · rw [if_neg (fun e => e.elim (by omega) h), if_neg h]
theorem all_false {n i : Nat} {f : Nat → Bool} (hi : i < n) (h : f i = false) : (List.range n).all f = false := by
  cases e : (List.range n).all f
  · rfl
  · exact absurd (List.all_eq_true.1 e i (List.mem_range.2 hi)) (by rw [h]; decide)

set_option maxRecDepth 100000 in
set_option maxHeartbeats 1000000 in
theorem may_any {S : Nat → Prop} (v : Value) (l : List UInt8) (key : ByteArray) (w : World) (hSw : ∀ b, S b → b < w.heap.size) (h : Sl S w 1 v (bc l)) (hl : l.length ≤ 100000000) (hk : key.size ≤ 1000000000) :
    Calls Tryd.prog 41 #[v, .string key] w fun e w' => e = .returned (.bool (mayB l key.data.toList)) ∧ Ext w w' := by
  have HSW := Lib.hid hSw
  have HK := Lib.hid hk
  obtain ⟨ao, c, rfl, hlc, hcm, -, hcell⟩ := Sl.bytes h
  have HC := Lib.hid hcell
  clear hcell h hSw hk
  go_enter Tryd.func41, Tryd.ntmps41
  by_cases h9 : l.length < 9
  · have HR := Lib.hid (show mayB l key.data.toList = true from if_pos (.inl h9))
    go_wp2_with fail
    go_ret
    exact ⟨by rw [HR.out]; rfl, Ext.refl _⟩
  · obtain ⟨n, hn⟩ : ∃ n, l.length = n + 1 := ⟨l.length - 1, by omega⟩
    obtain ⟨b, off, rfl, hb, hcc⟩ := HC.out (by omega)
    have HR := Lib.hid (mayB_def l key.data.toList n hn (by omega))
    have HCC := Lib.hid (show ∀ j, j < n + 1 → w.cell? ⟨b, off + j, none⟩ = some (.int .u8 (l.getD j 0).toNat) from fun j hj => by rw [hcc j (by omega), List.getD_eq_getElem?_getD, List.getElem?_eq_getElem (by omega)]; rfl)
    clear hcc HC
    rw [hn] at hlc hl h9 ⊢
    have hcn := HCC.out n (by omega)
    have HY := Lib.hid (show (l.getD n 0).toNat < 256 from UInt8.toNat_lt _)
    generalize hy : (l.getD n 0).toNat = y at *
    clear hy hn
    by_cases hy : y = 0 ∨ 30 < y
    · have HR2 := Lib.hid (show mayB l key.data.toList = true from by rw [HR.out, if_pos hy])
      rcases Nat.eq_zero_or_pos y with rfl | hp
      · go_wp2_with fail
        go_ret
        exact ⟨by rw [HR2.out]; rfl, Ext.refl _⟩
      · have hy3 : 30 < y := by omega
        have hy0 : ¬ y = 0 := by omega
        clear hy
        go_wp2_with fail
        go_ret
        exact ⟨by rw [HR2.out]; rfl, Ext.refl _⟩
    · have HR2 := Lib.hid (show mayB l key.data.toList = (List.range y).all fun i => hasB l (plcN key.data.toList (8 * n) i) from by rw [HR.out, if_neg hy])
      have hy3 : ¬ 30 < y := by omega
      have hy0 : ¬ y = 0 := by omega
      have HST := Lib.hid (show ∀ W, Calls Tryd.prog 51 #[.string key, .int .i64 (8 * (n : Int))] W fun e w' => e = .returned (.agg #[.int .u64 (hashB key.data.toList % 4294967296 : Nat), .int .u64 (stepD key.data.toList), .int .u64 (8 * n : Nat)]) ∧ Ext W w' from fun W => start_any key (8 * n) W HK.out (by omega))
      have HH := Lib.hid (show hashB key.data.toList < 18446744073709551616 from hashF_lt (by decide) _)
      have HSD := Lib.hid (show stepD key.data.toList ≤ 4294967296 from by unfold stepD; have := HH.out; split <;> omega)
      have HPL := Lib.hid (show ∀ j, plcN key.data.toList (8 * n) j = (hashB key.data.toList % 4294967296 + j * stepD key.data.toList) % (8 * n) from fun _ => rfl)
      have HH2 := Lib.hid (show hashB key.data.toList % 4294967296 < 4294967296 from Nat.mod_lt _ (by decide))
      clear HH HR hy
      generalize hashB key.data.toList % 4294967296 = h0 at *
      generalize stepD key.data.toList = sd at *
      have hm8 : (n : Int) * 8 = ((8 * n : Nat) : Int) := by omega
      have hn8 : ¬ ((n : Int) < 8) := by omega
      have hyi : ¬ (30 < (y : Int)) := by omega
      have hyz : ((y : Int) == 0) = false := by simpa using hy0
      go_wp2_with fail
      refine (HST.out w).mono ?_
      rintro e w1 ⟨rfl, hx1⟩
      have HX1 := Lib.hid hx1
      clear HST hx1 hm8 hn8 hyi hyz
      have hcn1 := (Ext.alloc w1 (.cells #[.int .u64 (h0 : Int), .int .u64 (sd : Int), .int .u64 (8 * (n : Int))] 96)).cell (HX1.out.cell hcn)
      clear hcn
      go_wp2_with fail
      have HP2 := Lib.hid (show Prb (w1.alloc (.cells #[.int .u64 (h0 : Int), .int .u64 (sd : Int), .int .u64 (8 * (n : Int))] 96)) w1.heap.size h0 sd (8 * n) from Blk.made w1 _ _)
      have HX2 := Lib.hid (HX1.out.trans (Ext.alloc w1 (.cells #[.int .u64 (h0 : Int), .int .u64 (sd : Int), .int .u64 (8 * (n : Int))] 96)))
      have HPB := Lib.hid (show w.heap.size ≤ w1.heap.size from HX1.out.size)
      have HBB := Lib.hid (HSW.out b hb)
      generalize w1.alloc (.cells #[.int .u64 (h0 : Int), .int .u64 (sd : Int), .int .u64 (8 * (n : Int))] 96) = w2 at *
      generalize w1.heap.size = pb at *
      clear HX1 hcn1
      have HY3 := Lib.hid (show y ≤ 30 from by omega)
      clear hy3 hy0
      go_loopw [36] (fun jv wr => ∃ j : Nat, j ≤ y ∧ jv = .int .u8 j ∧ (∀ k, k < j → hasB l (plcN key.data.toList (8 * n) k) = true) ∧ Prb wr pb (h0 + j * sd) sd (8 * n) ∧ Ext w wr) (fun jv _ => y - (intOf jv).toNat)
      case atStart => exact ⟨0, by omega, rfl, fun k hk => absurd hk (Nat.not_lt_zero _), by rw [Nat.zero_mul]; exact HP2.out, HX2.out⟩
      case round =>
        clear HP2 HX2
        obtain ⟨j, hj, rfl, hf, hp, hx⟩ := hrel
        have HF := Lib.hid hf
        have HP := Lib.hid hp
        have HX := Lib.hid hx
        clear hf hp hx
        by_cases hlj : j < y
        · have HM := Lib.hid hlj
          have hjs : j * sd ≤ 30 * 4294967296 := Nat.mul_le_mul (by have := HY3.out; omega) HSD.out
          have HN := Lib.hid (probe_next pb (h0 + j * sd) sd (8 * n) _ HP.out (by have := HH2.out; omega) (by have := HSD.out; omega) (by omega) (by omega))
          rw [← HPL.out j] at HN
          have HPLT := Lib.hid (plcN_lt key.data.toList n j (by omega))
          have HFJ := Lib.hid (show ∀ hit : Bool, hasB l (plcN key.data.toList (8 * n) j) = hit → if hit then (∀ k, k < j + 1 → hasB l (plcN key.data.toList (8 * n) k) = true) else mayB l key.data.toList = false from by
            intro hit he
            cases hit
            · show mayB l key.data.toList = false
              rw [HR2.out]
              exact all_false HM.out he
            · intro k hk
              rcases Nat.lt_succ_iff_lt_or_eq.1 hk with h | rfl
              · exact HF.out k h
              · exact he)
          have hpu : hasB l (plcN key.data.toList (8 * n) j) = (l.getD (plcN key.data.toList (8 * n) j / 8) 0).toNat.testBit (plcN key.data.toList (8 * n) j % 8) := rfl
          rw [hpu] at HFJ
          clear hpu hjs HF
          generalize plcN key.data.toList (8 * n) j = pl at HN HPLT HFJ
          have HCP := Lib.hid (HCC.out (pl / 8) (by have := HPLT.out; omega))
          have HAB := Lib.hid (and_bit (l.getD (pl / 8) 0).toNat (pl % 8) (UInt8.toNat_lt _) (Nat.mod_lt _ (by decide)))
          have HPW := Lib.hid (show 0 < 2 ^ (pl % 8) from Nat.two_pow_pos _)
          generalize (l.getD (pl / 8) 0).toNat = yb at *
          generalize 2 ^ (pl % 8) = pw at *
          generalize hbt : yb.testBit (pl % 8) = bt at *
          clear hbt
          have HMB := Lib.hid (HFJ.out bt rfl)
          clear HFJ
          have hmb := HY3.out
          have EJ := Lib.hid (show ((j : Int) + 1) % 256 = ((j + 1 : Nat) : Int) from by omega)
          have em : y - (intOf (Value.int .u8 ((j + 1 : Nat) : Int))).toNat < y - (intOf (Value.int .u8 (j : Int))).toNat := by simp [intOf]; omega
          clear hmb
          go_wp2_with fail
          refine HN.out.mono ?_
          rintro e w4 ⟨rfl, hp4, hk4⟩
          have HP4 := Lib.hid hp4
          have HX4 := Lib.hid (show Ext w w4 from Below.trans HX.out (hk4.below fun b hb => by have := HPB.out; omega))
          clear hp4 hk4 HP HX HN
          have hc4 := HX4.out.cell HCP.out
          have hpl := HPLT.out
          cases bt
          · have hab : bits .and .u8 (yb : Int) (pw : Int) = 0 := HAB.out
            clear em
            go_wp2_with fail
            go_ret
            exact ⟨by rw [show mayB l key.data.toList = false from HMB.out]; rfl, HX4.out⟩
          · have hab : bits .and .u8 (yb : Int) (pw : Int) = (pw : Int) := HAB.out
            have hpw0 : ((pw : Int) == 0) = false := by have := HPW.out; simp; omega
            go_wp2_with fail
            rw [EJ.out]
            refine ⟨⟨j + 1, HM.out, rfl, ?_, ?_, HX4.out⟩, em⟩
            · have := HMB.out
              rw [if_pos trivial] at this
              exact this
            · have := HP4.out
              rw [show h0 + j * sd + sd = h0 + (j + 1) * sd from by rw [Nat.succ_mul]; omega] at this
              exact this
        · obtain rfl : j = y := by omega
          have HFI := Lib.hid (show mayB l key.data.toList = true from by rw [HR2.out, List.all_eq_true]; intro k hk; exact HF.out k (List.mem_range.1 hk))
          go_wp2_with fail
          go_ret
          exact ⟨by rw [HFI.out]; rfl, HX.out⟩

end Go.Proofs.YtmmeofiocbfamaaDoor
