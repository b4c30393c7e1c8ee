/- bloom's May. block's put and get. Blocks of keys: the plain law. No condition: lemmas. -/
import Derived.Test.YtmmeofiocbfamaaGreatDoorZ9
import Derived.Test.YtmmeofiocbfamaaGreatDoorZ5
import Derived.Test.YtmmeofiocbfamaaGreatDoorZ0
namespace Go.Proofs.YtmmeofiocbfamaaGreatDoor
open Go Go.RowKit

theorem and_bit (y k : Nat) (hy : y < 256) (hk : k < 8) : bits .and .u8 (y : Int) ((2 ^ k : Nat) : Int) = if y.testBit k then ((2 ^ k : Nat) : Int) else 0 := by
  have hp : (2 : Nat) ^ k < 256 := by
    have : (2 : Nat) ^ k < 2 ^ 8 := Nat.pow_lt_pow_right (by omega) hk
    exact this
  rw [u8_and_nat y (2 ^ k) hy hp]
  have e : y &&& 2 ^ k = if y.testBit k then 2 ^ k else 0 := by
    apply Nat.eq_of_testBit_eq
    intro i
    rw [Nat.testBit_and, Nat.testBit_two_pow]
    by_cases hi : k = i
    · subst hi
      cases h : y.testBit k
      · simp
      · simp [Nat.testBit_two_pow_self]
    · cases h : y.testBit k
      · simp [hi]
      · simp [hi, Nat.testBit_two_pow]
  rw [e]
  split <;> rfl
theorem mayB_def (l key : List UInt8) (n : Nat) (hl : l.length = n + 1) (h8 : 8 ≤ n) : mayB l key = if (l.getD n 0).toNat = 0 ∨ 30 < (l.getD n 0).toNat then true else (List.range (l.getD n 0).toNat).all fun i => hasB l (plcN key (8 * n) i) := by
  unfold mayB
  rw [hl, Nat.add_sub_cancel]
  by_cases h : (l.getD n 0).toNat = 0 ∨ 30 < (l.getD n 0).toNat
  · rw [if_pos (.inr h), if_pos h]
  · rw [if_neg (fun e => e.elim (by omega) h), if_neg h]
theorem all_false {n i : Nat} {f : Nat → Bool} (hi : i < n) (h : f i = false) : (List.range n).all f = false := by
  cases e : (List.range n).all f
  · rfl
  · exact absurd (List.all_eq_true.1 e i (List.mem_range.2 hi)) (by rw [h]; decide)

set_option maxRecDepth 100000 in
set_option maxHeartbeats 1000000 in
theorem may_any {S : Nat → Prop} (v : Value) (l : List UInt8) (key : ByteArray) (w : World) (hSw : ∀ b, S b → b < w.heap.size) (h : Sl S w 1 v (bc l)) (hl : l.length ≤ 100000000) (hk : key.size ≤ 1000000000) :
    Calls Tryz.prog 51 #[v, .string key] w fun e w' => e = .returned (.bool (mayB l key.data.toList)) ∧ Ext w w' := by
  have HSW := Lib.hid hSw
  have HK := Lib.hid hk
  obtain ⟨ao, c, rfl, hlc, hcm, -, hcell⟩ := Sl.bytes h
  have HC := Lib.hid hcell
  clear hcell h hSw hk
  go_enter Tryz.func51, Tryz.ntmps51
  by_cases h9 : l.length < 9
  · have HR := Lib.hid (show mayB l key.data.toList = true from if_pos (.inl h9))
    go_wp2_with fail
    go_ret
    exact ⟨by rw [HR.out]; rfl, Ext.refl _⟩
  · obtain ⟨n, hn⟩ : ∃ n, l.length = n + 1 := ⟨l.length - 1, by omega⟩
    obtain ⟨b, off, rfl, hb, hcc⟩ := HC.out (by omega)
    have HR := Lib.hid (mayB_def l key.data.toList n hn (by omega))
    have HCC := Lib.hid (show ∀ j, j < n + 1 → w.cell? ⟨b, off + j, none⟩ = some (.int .u8 (l.getD j 0).toNat) from fun j hj => by rw [hcc j (by omega), List.getD_eq_getElem?_getD, List.getElem?_eq_getElem (by omega)]; rfl)
    clear hcc HC
    rw [hn] at hlc hl h9 ⊢
    have hcn := HCC.out n (by omega)
    have HY := Lib.hid (show (l.getD n 0).toNat < 256 from UInt8.toNat_lt _)
    generalize hy : (l.getD n 0).toNat = y at *
    clear hy hn
    by_cases hy : y = 0 ∨ 30 < y
    · have HR2 := Lib.hid (show mayB l key.data.toList = true from by rw [HR.out, if_pos hy])
      rcases Nat.eq_zero_or_pos y with rfl | hp
      · go_wp2_with fail
        go_ret
        exact ⟨by rw [HR2.out]; rfl, Ext.refl _⟩
      · have hy3 : 30 < y := by omega
        have hy0 : ¬ y = 0 := by omega
        clear hy
        go_wp2_with fail
        go_ret
        exact ⟨by rw [HR2.out]; rfl, Ext.refl _⟩
    · have HR2 := Lib.hid (show mayB l key.data.toList = (List.range y).all fun i => hasB l (plcN key.data.toList (8 * n) i) from by rw [HR.out, if_neg hy])
      have hy3 : ¬ 30 < y := by omega
      have hy0 : ¬ y = 0 := by omega
      have HST := Lib.hid (show ∀ W, Calls Tryz.prog 61 #[.string key, .int .i64 (8 * (n : Int))] W fun e w' => e = .returned (.agg #[.int .u64 (hashB key.data.toList % 4294967296 : Nat), .int .u64 (stepD key.data.toList), .int .u64 (8 * n : Nat)]) ∧ Ext W w' from fun W => start_any key (8 * n) W HK.out (by omega))
      have HH := Lib.hid (show hashB key.data.toList < 18446744073709551616 from hashF_lt (by decide) _)
      have HSD := Lib.hid (show stepD key.data.toList ≤ 4294967296 from by unfold stepD; have := HH.out; split <;> omega)
      have HPL := Lib.hid (show ∀ j, plcN key.data.toList (8 * n) j = (hashB key.data.toList % 4294967296 + j * stepD key.data.toList) % (8 * n) from fun _ => rfl)
      have HH2 := Lib.hid (show hashB key.data.toList % 4294967296 < 4294967296 from Nat.mod_lt _ (by decide))
      clear HH HR hy
      generalize hashB key.data.toList % 4294967296 = h0 at *
      generalize stepD key.data.toList = sd at *
      have hm8 : (n : Int) * 8 = ((8 * n : Nat) : Int) := by omega
      have hn8 : ¬ ((n : Int) < 8) := by omega
      have hyi : ¬ (30 < (y : Int)) := by omega
      have hyz : ((y : Int) == 0) = false := by simpa using hy0
      go_wp2_with fail
      refine (HST.out w).mono ?_
      rintro e w1 ⟨rfl, hx1⟩
      have HX1 := Lib.hid hx1
      clear HST hx1 hm8 hn8 hyi hyz
      have hcn1 := (Ext.alloc w1 (.cells #[.int .u64 (h0 : Int), .int .u64 (sd : Int), .int .u64 (8 * (n : Int))] 99)).cell (HX1.out.cell hcn)
      clear hcn
      go_wp2_with fail
      have HP2 := Lib.hid (show Prb (w1.alloc (.cells #[.int .u64 (h0 : Int), .int .u64 (sd : Int), .int .u64 (8 * (n : Int))] 99)) w1.heap.size h0 sd (8 * n) from Blk.made w1 _ _)
      have HX2 := Lib.hid (HX1.out.trans (Ext.alloc w1 (.cells #[.int .u64 (h0 : Int), .int .u64 (sd : Int), .int .u64 (8 * (n : Int))] 99)))
      have HPB := Lib.hid (show w.heap.size ≤ w1.heap.size from HX1.out.size)
      have HBB := Lib.hid (HSW.out b hb)
      generalize w1.alloc (.cells #[.int .u64 (h0 : Int), .int .u64 (sd : Int), .int .u64 (8 * (n : Int))] 99) = w2 at *
      generalize w1.heap.size = pb at *
      clear HX1 hcn1
      have HY3 := Lib.hid (show y ≤ 30 from by omega)
      clear hy3 hy0
      go_loopw [36] (fun jv wr => ∃ j : Nat, j ≤ y ∧ jv = .int .u8 j ∧ (∀ k, k < j → hasB l (plcN key.data.toList (8 * n) k) = true) ∧ Prb wr pb (h0 + j * sd) sd (8 * n) ∧ Ext w wr) (fun jv _ => y - (intOf jv).toNat)
      case atStart => exact ⟨0, by omega, rfl, fun k hk => absurd hk (Nat.not_lt_zero _), by rw [Nat.zero_mul]; exact HP2.out, HX2.out⟩
      case round =>
        clear HP2 HX2
        obtain ⟨j, hj, rfl, hf, hp, hx⟩ := hrel
        have HF := Lib.hid hf
        have HP := Lib.hid hp
        have HX := Lib.hid hx
        clear hf hp hx
        by_cases hlj : j < y
        · have HM := Lib.hid hlj
          have hjs : j * sd ≤ 30 * 4294967296 := Nat.mul_le_mul (by have := HY3.out; omega) HSD.out
          have HN := Lib.hid (probe_next pb (h0 + j * sd) sd (8 * n) _ HP.out (by have := HH2.out; omega) (by have := HSD.out; omega) (by omega) (by omega))
          rw [← HPL.out j] at HN
          have HPLT := Lib.hid (plcN_lt key.data.toList n j (by omega))
          have HFJ := Lib.hid (show ∀ hit : Bool, hasB l (plcN key.data.toList (8 * n) j) = hit → if hit then (∀ k, k < j + 1 → hasB l (plcN key.data.toList (8 * n) k) = true) else mayB l key.data.toList = false from by
            intro hit he
            cases hit
            · show mayB l key.data.toList = false
              rw [HR2.out]
              exact all_false HM.out he
            · intro k hk
              rcases Nat.lt_succ_iff_lt_or_eq.1 hk with h | rfl
              · exact HF.out k h
              · exact he)
          have hpu : hasB l (plcN key.data.toList (8 * n) j) = (l.getD (plcN key.data.toList (8 * n) j / 8) 0).toNat.testBit (plcN key.data.toList (8 * n) j % 8) := rfl
          rw [hpu] at HFJ
          clear hpu hjs HF
          generalize plcN key.data.toList (8 * n) j = pl at HN HPLT HFJ
          have HCP := Lib.hid (HCC.out (pl / 8) (by have := HPLT.out; omega))
          have HAB := Lib.hid (and_bit (l.getD (pl / 8) 0).toNat (pl % 8) (UInt8.toNat_lt _) (Nat.mod_lt _ (by decide)))
          have HPW := Lib.hid (show 0 < 2 ^ (pl % 8) from Nat.two_pow_pos _)
          generalize (l.getD (pl / 8) 0).toNat = yb at *
          generalize 2 ^ (pl % 8) = pw at *
          generalize hbt : yb.testBit (pl % 8) = bt at *
          clear hbt
          have HMB := Lib.hid (HFJ.out bt rfl)
          clear HFJ
          have hmb := HY3.out
          have EJ := Lib.hid (show ((j : Int) + 1) % 256 = ((j + 1 : Nat) : Int) from by omega)
          have em : y - (intOf (Value.int .u8 ((j + 1 : Nat) : Int))).toNat < y - (intOf (Value.int .u8 (j : Int))).toNat := by simp [intOf]; omega
          clear hmb
          go_wp2_with fail
          refine HN.out.mono ?_
          rintro e w4 ⟨rfl, hp4, hk4⟩
          have HP4 := Lib.hid hp4
          have HX4 := Lib.hid (show Ext w w4 from Below.trans HX.out (hk4.below fun b hb => by have := HPB.out; omega))
          clear hp4 hk4 HP HX HN
          have hc4 := HX4.out.cell HCP.out
          have hpl := HPLT.out
          cases bt
          · have hab : bits .and .u8 (yb : Int) (pw : Int) = 0 := HAB.out
            clear em
            go_wp2_with fail
            go_ret
            exact ⟨by rw [show mayB l key.data.toList = false from HMB.out]; rfl, HX4.out⟩
          · have hab : bits .and .u8 (yb : Int) (pw : Int) = (pw : Int) := HAB.out
            have hpw0 : ((pw : Int) == 0) = false := by have := HPW.out; simp; omega
            go_wp2_with fail
            rw [EJ.out]
            refine ⟨⟨j + 1, HM.out, rfl, ?_, ?_, HX4.out⟩, em⟩
            · have := HMB.out
              rw [if_pos trivial] at this
              exact this
            · have := HP4.out
              rw [show h0 + j * sd + sd = h0 + (j + 1) * sd from by rw [Nat.succ_mul]; omega] at this
              exact this
        · obtain rfl : j = y := by omega
          have HFI := Lib.hid (show mayB l key.data.toList = true from by rw [HR2.out, List.all_eq_true]; intro k hk; exact HF.out k (List.mem_range.1 hk))
          go_wp2_with fail
          go_ret
          exact ⟨by rw [HFI.out]; rfl, HX.out⟩

end Go.Proofs.YtmmeofiocbfamaaGreatDoor
namespace Go.Proofs.YtmmeofiocbfamaaGreatDoor
open Go Go.RowKit

set_option maxRecDepth 100000 in
set_option maxHeartbeats 1000000 in
theorem put_block {B : Nat} (b : Value) (xs : List UInt8) (q : Nat) (w : World) (hB : B ≤ w.heap.size) (hb : Own w B 5 1 b (bc xs)) (hx : xs.length ≤ 8000000000) (hq : q < 4294967296) :
    Calls Tryz.prog 83 #[b, .int .i64 q] w fun e w' => ∃ v, e = .returned v ∧ Own w' B 5 1 v (bc (xs ++ four q)) ∧ Below B w w' ∧ w.grownBy w' b.ownBlock := by
  have HO := Lib.hid hb
  have HL := Lib.hid hx
  have HBW := Lib.hid hB
  obtain ⟨ao, n, c, rfl, -, -, -⟩ := hb.sl.len
  clear hb hx
  go_enter Tryz.func83, Tryz.ntmps83
  go_wp2_with (at_builtin; go_must (refine wpList_own_lit bytesT rfl (.tmp 5) (.tmp 17) rfl rfl HO.out rfl rfl (by simp [Value.oneCell']) (by have := HL.out; rw [bc_length]; simp; omega) (by have := HL.out; rw [bc_length]; simp; omega) HBW.out ?_; intro v5 w5 hown5 hb5 hgr5))
  have HF := Lib.hid (show Own w5 B 5 1 v5 (bc (xs ++ four q)) from by rw [bc_append, four_eq hq]; exact hown5)
  have HB5 := Lib.hid hb5
  have HG5 := Lib.hid hgr5
  obtain ⟨ao5, n5, c5, rfl, -, -, -⟩ := hown5.sl.len
  clear hown5 hb5 hgr5
  go_ret
  exact ⟨_, rfl, HF.out, HB5.out, HG5.out⟩

theorem i64_or_nat (a b : Nat) (ha : a < 2 ^ 62) (hb : b < 2 ^ 62) : bits .or .i64 (a : Int) (b : Int) = ((a ||| b : Nat) : Int) := by
  have hx : a ||| b < 2 ^ 62 := Nat.or_lt_two_pow ha hb
  show IntKind.i64.wrap ((BitVec.ofInt 64 (a : Int) ||| BitVec.ofInt 64 (b : Int)).toNat : Int) = _
  rw [BitVec.toNat_or, ofInt_u64 a (by omega), ofInt_u64 b (by omega)]
  exact IntWalk.i64_in _ (by omega)
theorem or4i (x0 x1 x2 x3 : Nat) (h0 : x0 < 2 ^ 8) (h1 : x1 < 2 ^ 8) (h2 : x2 < 2 ^ 8) (h3 : x3 < 2 ^ 8) :
    bits .or .i64 (bits .or .i64 (bits .or .i64 (IntKind.i64.wrap (IntKind.i64.wrap (x0 : Int) * 16777216)) (IntKind.i64.wrap (IntKind.i64.wrap (x1 : Int) * 65536))) (IntKind.i64.wrap (IntKind.i64.wrap (x2 : Int) * 256))) (IntKind.i64.wrap (x3 : Int)) = ((x0 * 16777216 + x1 * 65536 + x2 * 256 + x3 : Nat) : Int) := by
  have w0 : IntKind.i64.wrap (x0 : Int) = (x0 : Int) := IntWalk.i64_in _ (by omega)
  have w1 : IntKind.i64.wrap (x1 : Int) = (x1 : Int) := IntWalk.i64_in _ (by omega)
  have w2 : IntKind.i64.wrap (x2 : Int) = (x2 : Int) := IntWalk.i64_in _ (by omega)
  have w3 : IntKind.i64.wrap (x3 : Int) = (x3 : Int) := IntWalk.i64_in _ (by omega)
  have e0 : IntKind.i64.wrap ((x0 : Int) * 16777216) = ((x0 * 16777216 : Nat) : Int) := by rw [IntWalk.i64_in _ (by omega)]; omega
  have e1 : IntKind.i64.wrap ((x1 : Int) * 65536) = ((x1 * 65536 : Nat) : Int) := by rw [IntWalk.i64_in _ (by omega)]; omega
  have e2 : IntKind.i64.wrap ((x2 : Int) * 256) = ((x2 * 256 : Nat) : Int) := by rw [IntWalk.i64_in _ (by omega)]; omega
  rw [w0, w1, w2, w3, e0, e1, e2, i64_or_nat _ _ (by omega) (by omega), nat_join 24 _ _ (by omega) (by omega), i64_or_nat _ _ (by omega) (by omega), nat_join 16 _ _ (by omega) (by omega), i64_or_nat _ _ (by omega) (by omega), nat_join 8 _ _ (by omega) (by omega)]

set_option maxRecDepth 100000 in
set_option maxHeartbeats 1000000 in
theorem get_block {S : Nat → Prop} (v : Value) (bs : List UInt8) (w : World) (h : Sl S w 1 v (bc bs)) (h4 : 4 ≤ bs.length) :
    Calls Tryz.prog 88 #[v] w fun e w' => e = .returned (.int .i64 (get4 bs)) ∧ Ext w w' := by
  obtain ⟨ao, c, rfl, hlc, hcm, -, hcell⟩ := Sl.bytes h
  obtain ⟨b, off, rfl, hb, hcc⟩ := hcell (by omega)
  obtain ⟨b0, b1, b2, b3, rest, rfl⟩ : ∃ b0 b1 b2 b3 rest, bs = b0 :: b1 :: b2 :: b3 :: rest := by
    match bs, h4 with
    | b0 :: b1 :: b2 :: b3 :: rest, _ => exact ⟨b0, b1, b2, b3, rest, rfl⟩
  have c0 := hcc 0 (by simp)
  have c1 := hcc 1 (by simp)
  have c2 := hcc 2 (by simp)
  have c3 := hcc 3 (by simp)
  simp only [List.getElem_cons_zero, List.getElem_cons_succ, Nat.add_zero] at c0 c1 c2 c3
  have HL := Lib.hid (show get4 (b0 :: b1 :: b2 :: b3 :: rest) = b0.toNat * 16777216 + b1.toNat * 65536 + b2.toNat * 256 + b3.toNat from rfl)
  have h0 := b0.toNat_lt
  have h1 := b1.toNat_lt
  have h2 := b2.toNat_lt
  have h3 := b3.toNat_lt
  generalize (b0 :: b1 :: b2 :: b3 :: rest) = bs at *
  generalize b0.toNat = x0 at *
  generalize b1.toNat = x1 at *
  generalize b2.toNat = x2 at *
  generalize b3.toNat = x3 at *
  clear hcc hcell h hb
  have l0 : 0 < bs.length := by omega
  have l1 : (1 : Int) < (bs.length : Int) := by omega
  have l2 : (2 : Int) < (bs.length : Int) := by omega
  have l3 : (3 : Int) < (bs.length : Int) := by omega
  go_enter Tryz.func88, Tryz.ntmps88
  go_wp2_with fail
  obtain ⟨wd, hwd⟩ : ∃ wd, wd = w.drew := ⟨_, rfl⟩
  have HX := Lib.hid (show Ext w wd from by rw [hwd]; exact Ext.drew w)
  refine region_walkN (Ext wd) (by rw [← hwd]; exact Ext.refl _) (by kernel_rfl) (by kernel_rfl) (fun _ _ d _ _ h => by cases d <;> exact h) ?_
  rw [← hwd]
  have g0 : ∀ W, Ext wd W → W.cell? ⟨b, off, none⟩ = some (.int .u8 x0) := fun W h => (HX.out.trans h).cell (a := ⟨b, off, none⟩) c0
  have g1 : ∀ W, Ext wd W → W.cell? ⟨b, off + 1, none⟩ = some (.int .u8 x1) := fun W h => (HX.out.trans h).cell (a := ⟨b, off + 1, none⟩) c1
  have g2 : ∀ W, Ext wd W → W.cell? ⟨b, off + 2, none⟩ = some (.int .u8 x2) := fun W h => (HX.out.trans h).cell (a := ⟨b, off + 2, none⟩) c2
  have g3 : ∀ W, Ext wd W → W.cell? ⟨b, off + 3, none⟩ = some (.int .u8 x3) := fun W h => (HX.out.trans h).cell (a := ⟨b, off + 3, none⟩) c3
  clear hwd c0 c1 c2 c3
  ((refine WalkN.take 0 _ ?_ (by simp only [List.getElem?_toArray, List.getElem?_cons_zero]; rfl) (by kernel_rfl) (by kernel_rfl) (by rfl) (fun W hW => ?_) ?_; rotate_left; · (go_simp; try with_reducible rfl)); simp only [Act.put, List.setIfInBounds_toArray, List.set_cons_zero, List.set_cons_succ]); ((refine WalkN.take 1 _ ?_ (by simp only [List.getElem?_toArray, List.getElem?_cons_succ, List.getElem?_cons_zero]; rfl) (by kernel_rfl) (by kernel_rfl) (by rfl) (fun W hW => ?_) ?_; rotate_left; · (go_simp; try with_reducible rfl)); simp only [Act.put, List.setIfInBounds_toArray, List.set_cons_zero, List.set_cons_succ]); ((refine WalkN.take 2 _ ?_ (by simp only [List.getElem?_toArray, List.getElem?_cons_succ, List.getElem?_cons_zero]; rfl) (by kernel_rfl) (by kernel_rfl) (by rfl) (fun W hW => ?_) ?_; rotate_left; · (go_simp; try with_reducible rfl)); simp only [Act.put, List.setIfInBounds_toArray, List.set_cons_zero, List.set_cons_succ]); ((refine WalkN.take 3 _ ?_ (by simp only [List.getElem?_toArray, List.getElem?_cons_succ, List.getElem?_cons_zero]; rfl) (by kernel_rfl) (by kernel_rfl) (by rfl) (fun W hW => ?_) ?_; rotate_left; · (go_simp; try with_reducible rfl)); simp only [Act.put, List.setIfInBounds_toArray, List.set_cons_zero, List.set_cons_succ]); ((refine WalkN.take 4 _ ?_ (by simp only [List.getElem?_toArray, List.getElem?_cons_succ, List.getElem?_cons_zero]; rfl) (by kernel_rfl) (by kernel_rfl) (by rfl) (fun W hW => ?_) ?_; rotate_left; · (go_simp; try with_reducible rfl)); simp only [Act.put, List.setIfInBounds_toArray, List.set_cons_zero, List.set_cons_succ]); ((refine WalkN.take 5 _ ?_ (by simp only [List.getElem?_toArray, List.getElem?_cons_succ, List.getElem?_cons_zero]; rfl) (by kernel_rfl) (by kernel_rfl) (by rfl) (fun W hW => ?_) ?_; rotate_left; · (go_simp; try with_reducible rfl)); simp only [Act.put, List.setIfInBounds_toArray, List.set_cons_zero, List.set_cons_succ]); ((refine WalkN.take 6 _ ?_ (by simp only [List.getElem?_toArray, List.getElem?_cons_succ, List.getElem?_cons_zero]; rfl) (by kernel_rfl) (by kernel_rfl) (by rfl) (fun W hW => ?_) ?_; rotate_left; · (go_simp; try with_reducible rfl)); simp only [Act.put, List.setIfInBounds_toArray, List.set_cons_zero, List.set_cons_succ]); ((refine WalkN.take 7 _ ?_ (by simp only [List.getElem?_toArray, List.getElem?_cons_succ, List.getElem?_cons_zero]; rfl) (by kernel_rfl) (by kernel_rfl) (by rfl) (fun W hW => ?_) ?_; rotate_left; · (go_simp; try with_reducible rfl)); simp only [Act.put, List.setIfInBounds_toArray, List.set_cons_zero, List.set_cons_succ]); ((refine WalkN.take 8 _ ?_ (by simp only [List.getElem?_toArray, List.getElem?_cons_succ, List.getElem?_cons_zero]; rfl) (by kernel_rfl) (by kernel_rfl) (by rfl) (fun W hW => ?_) ?_; rotate_left; · (go_simp; try with_reducible rfl)); simp only [Act.put, List.setIfInBounds_toArray, List.set_cons_zero, List.set_cons_succ]); ((refine WalkN.take 9 _ ?_ (by simp only [List.getElem?_toArray, List.getElem?_cons_succ, List.getElem?_cons_zero]; rfl) (by kernel_rfl) (by kernel_rfl) (by rfl) (fun W hW => ?_) ?_; rotate_left; · (go_simp; try with_reducible rfl)); simp only [Act.put, List.setIfInBounds_toArray, List.set_cons_zero, List.set_cons_succ]); ((refine WalkN.take 10 _ ?_ (by simp only [List.getElem?_toArray, List.getElem?_cons_succ, List.getElem?_cons_zero]; rfl) (by kernel_rfl) (by kernel_rfl) (by rfl) (fun W hW => ?_) ?_; rotate_left; · (go_simp; try with_reducible rfl)); simp only [Act.put, List.setIfInBounds_toArray, List.set_cons_zero, List.set_cons_succ]); ((refine WalkN.take 11 _ ?_ (by simp only [List.getElem?_toArray, List.getElem?_cons_succ, List.getElem?_cons_zero]; rfl) (by kernel_rfl) (by kernel_rfl) (by rfl) (fun W hW => ?_) ?_; rotate_left; · (go_simp; try with_reducible rfl)); simp only [Act.put, List.setIfInBounds_toArray, List.set_cons_zero, List.set_cons_succ]); ((refine WalkN.take 12 _ ?_ (by simp only [List.getElem?_toArray, List.getElem?_cons_succ, List.getElem?_cons_zero]; rfl) (by kernel_rfl) (by kernel_rfl) (by rfl) (fun W hW => ?_) ?_; rotate_left; · (go_simp; try with_reducible rfl)); simp only [Act.put, List.setIfInBounds_toArray, List.set_cons_zero, List.set_cons_succ]); ((refine WalkN.take 13 _ ?_ (by simp only [List.getElem?_toArray, List.getElem?_cons_succ, List.getElem?_cons_zero]; rfl) (by kernel_rfl) (by kernel_rfl) (by rfl) (fun W hW => ?_) ?_; rotate_left; · (go_simp; try with_reducible rfl)); simp only [Act.put, List.setIfInBounds_toArray, List.set_cons_zero, List.set_cons_succ]); ((refine WalkN.take 14 _ ?_ (by simp only [List.getElem?_toArray, List.getElem?_cons_succ, List.getElem?_cons_zero]; rfl) (by kernel_rfl) (by kernel_rfl) (by rfl) (fun W hW => ?_) ?_; rotate_left; · (go_simp; try with_reducible rfl)); simp only [Act.put, List.setIfInBounds_toArray, List.set_cons_zero, List.set_cons_succ]); ((refine WalkN.take 15 _ ?_ (by simp only [List.getElem?_toArray, List.getElem?_cons_succ, List.getElem?_cons_zero]; rfl) (by kernel_rfl) (by kernel_rfl) (by rfl) (fun W hW => ?_) ?_; rotate_left; · (go_simp; try with_reducible rfl)); simp only [Act.put, List.setIfInBounds_toArray, List.set_cons_zero, List.set_cons_succ]); ((refine WalkN.take 16 _ ?_ (by simp only [List.getElem?_toArray, List.getElem?_cons_succ, List.getElem?_cons_zero]; rfl) (by kernel_rfl) (by kernel_rfl) (by rfl) (fun W hW => ?_) ?_; rotate_left; · (go_simp; try with_reducible rfl)); simp only [Act.put, List.setIfInBounds_toArray, List.set_cons_zero, List.set_cons_succ]); ((refine WalkN.take 17 _ ?_ (by simp only [List.getElem?_toArray, List.getElem?_cons_succ, List.getElem?_cons_zero]; rfl) (by kernel_rfl) (by kernel_rfl) (by rfl) (fun W hW => ?_) ?_; rotate_left; · (go_simp; try with_reducible rfl)); simp only [Act.put, List.setIfInBounds_toArray, List.set_cons_zero, List.set_cons_succ]); ((refine WalkN.take 18 _ ?_ (by simp only [List.getElem?_toArray, List.getElem?_cons_succ, List.getElem?_cons_zero]; rfl) (by kernel_rfl) (by kernel_rfl) (by rfl) (fun W hW => ?_) ?_; rotate_left; · (go_simp; try with_reducible rfl)); simp only [Act.put, List.setIfInBounds_toArray, List.set_cons_zero, List.set_cons_succ]); ((refine WalkN.take 19 _ ?_ (by simp only [List.getElem?_toArray, List.getElem?_cons_succ, List.getElem?_cons_zero]; rfl) (by kernel_rfl) (by kernel_rfl) (by rfl) (fun W hW => ?_) ?_; rotate_left; · (go_simp; try with_reducible rfl)); simp only [Act.put, List.setIfInBounds_toArray, List.set_cons_zero, List.set_cons_succ]); ((refine WalkN.take 20 _ ?_ (by simp only [List.getElem?_toArray, List.getElem?_cons_succ, List.getElem?_cons_zero]; rfl) (by kernel_rfl) (by kernel_rfl) (by rfl) (fun W hW => ?_) ?_; rotate_left; · (go_simp; try with_reducible rfl)); simp only [Act.put, List.setIfInBounds_toArray, List.set_cons_zero, List.set_cons_succ]); ((refine WalkN.take 21 _ ?_ (by simp only [List.getElem?_toArray, List.getElem?_cons_succ, List.getElem?_cons_zero]; rfl) (by kernel_rfl) (by kernel_rfl) (by rfl) (fun W hW => ?_) ?_; rotate_left; · (go_simp; try with_reducible rfl)); simp only [Act.put, List.setIfInBounds_toArray, List.set_cons_zero, List.set_cons_succ]); ((refine WalkN.take 22 _ ?_ (by simp only [List.getElem?_toArray, List.getElem?_cons_succ, List.getElem?_cons_zero]; rfl) (by kernel_rfl) (by kernel_rfl) (by rfl) (fun W hW => ?_) ?_; rotate_left; · (go_simp; try with_reducible rfl)); simp only [Act.put, List.setIfInBounds_toArray, List.set_cons_zero, List.set_cons_succ])
  refine WalkN.done (by kernel_rfl) ?_
  clear g0 g1 g2 g3
  have HV := Lib.hid (or4i x0 x1 x2 x3 h0 h1 h2 h3)
  go_wp2_with fail
  go_ret
  exact ⟨congrArg (fun z => Ending.returned (Value.int .i64 z)) (by rw [HL.out]; exact HV.out), HX.out⟩

end Go.Proofs.YtmmeofiocbfamaaGreatDoor
namespace Go.Proofs.YtmmeofiocbfamaaGreatDoor
open Go

/-- How many first bytes two texts share. -/
def comm : List UInt8 → List UInt8 → Nat
  | x :: a, y :: b => if x = y then comm a b + 1 else 0
  | _, _ => 0
theorem comm_le : ∀ a b : List UInt8, comm a b ≤ a.length ∧ comm a b ≤ b.length
  | [], _ => by simp [comm]
  | _ :: _, [] => by simp [comm]
  | x :: a, y :: b => by
    rw [comm]
    have := comm_le a b
    split <;> simp <;> omega
theorem comm_take : ∀ a b : List UInt8, a.take (comm a b) = b.take (comm a b)
  | [], b => by cases b <;> simp [comm]
  | _ :: _, [] => by simp [comm]
  | x :: a, y :: b => by
    rw [comm]
    split
    · rename_i h
      subst h
      rw [List.take_succ_cons, List.take_succ_cons, comm_take a b]
    · simp
/-- A key, as a block has it behind another one. -/
def blkN (i : Nat) (last k : List UInt8) : Nat := if i % 16 = 0 then 0 else comm last k
def blkK (i : Nat) (last k : List UInt8) : List UInt8 := putB (blkN i last k) ++ putT (k.drop (blkN i last k))
def blkL : Nat → List UInt8 → List (List UInt8) → List UInt8
  | _, _, [] => []
  | i, last, k :: ks => blkK i last k ++ blkL (i + 1) k ks
theorem blkL_snoc : ∀ (i : Nat) (last : List UInt8) (ks : List (List UInt8)) (k : List UInt8), blkL i last (ks ++ [k]) = blkL i last ks ++ blkK (i + ks.length) (ks.getLast?.getD last) k
  | i, last, [], k => by simp [blkL]
  | i, last, a :: ks, k => by
    rw [List.cons_append, blkL, blkL, blkL_snoc, List.append_assoc, List.length_cons]
    have e : (a :: ks).getLast?.getD last = ks.getLast?.getD a := by
      cases ks with
      | nil => rfl
      | cons b ks => rw [List.getLast?_cons_cons]; cases h : (b :: ks).getLast? <;> simp_all
    rw [e, show i + 1 + ks.length = i + (ks.length + 1) from by omega]
/-- The places of whole keys. -/
def endsL : Nat → Nat → List UInt8 → List (List UInt8) → List Nat
  | _, _, _, [] => []
  | i, at_, last, k :: ks => (if i % 16 = 0 then [at_] else []) ++ endsL (i + 1) (at_ + (blkK i last k).length) k ks
/-- What a key's bytes tell: the key behind another one, and how many bytes. -/
def nextD (bs last : List UInt8) : Option (List UInt8 × Nat) :=
  if (getG bs 0 0).2.2 ≠ 0 ∨ last.length < (getG bs 0 0).1 then none
  else if (getT (bs.drop (getG bs 0 0).2.1)).2.2 ≠ 0 then none
  else some (last.take (getG bs 0 0).1 ++ (getT (bs.drop (getG bs 0 0).2.1)).1, (getG bs 0 0).2.1 + (getT (bs.drop (getG bs 0 0).2.1)).2.1)
theorem getT_put (s rest : List UInt8) (h : U64 s.length) : getT (putT s ++ rest) = (s, (putT s).length, 0) := by
  unfold getT putT
  rw [List.append_assoc, getG_put s.length h]
  dsimp only
  rw [if_neg (by simp), if_neg (by simp only [List.length_append]; omega)]
  rw [List.drop_left, List.take_left, List.length_append]
theorem nextD_put (i : Nat) (last k rest : List UInt8) (hl : U64 last.length) (hk : U64 k.length) : nextD (blkK i last k ++ rest) last = some (k, (blkK i last k).length) := by
  have h1 : blkN i last k ≤ last.length ∧ blkN i last k ≤ k.length := by
    unfold blkN
    split
    · simp
    · exact comm_le last k
  have h2 : last.take (blkN i last k) = k.take (blkN i last k) := by
    unfold blkN
    split
    · simp
    · exact comm_take last k
  have hg : getG (blkK i last k ++ rest) 0 0 = (blkN i last k, (putB (blkN i last k)).length, 0) := by
    unfold blkK
    rw [List.append_assoc]
    exact getG_put _ (Nat.lt_of_le_of_lt h1.1 hl) _
  have hd : (blkK i last k ++ rest).drop (putB (blkN i last k)).length = putT (k.drop (blkN i last k)) ++ rest := by
    unfold blkK
    rw [List.append_assoc, List.drop_left]
  unfold nextD
  rw [hg]
  dsimp only
  rw [if_neg (by simp; omega), hd, getT_put _ _ (by rw [List.length_drop]; exact Nat.lt_of_le_of_lt (Nat.sub_le _ _) hk)]
  dsimp only
  rw [if_neg (by simp), h2, List.take_append_drop]
  congr 2
  unfold blkK
  rw [List.length_append]
/-- All keys that bytes tell, one behind the other. -/
def keysF : Nat → List UInt8 → List UInt8 → Option (List (List UInt8))
  | 0, bs, _ => if bs = [] then some [] else none
  | f + 1, bs, last => if bs = [] then some [] else match nextD bs last with
    | none => none
    | some (k, m) => (keysF f (bs.drop m) k).map (k :: ·)
theorem blkK_pos (i : Nat) (last k : List UInt8) : 0 < (blkK i last k).length := by
  unfold blkK
  have := putB_pos (blkN i last k)
  rw [List.length_append]
  omega
theorem keysF_blk : ∀ (ks : List (List UInt8)) (i : Nat) (last : List UInt8) (f : Nat), ks.length ≤ f → U64 last.length → (∀ k ∈ ks, U64 k.length) → keysF f (blkL i last ks) last = some ks
  | [], i, last, f, _, _, _ => by cases f <;> simp [keysF, blkL]
  | k :: ks, i, last, 0, h, _, _ => by simp at h
  | k :: ks, i, last, f + 1, h, hl, hk => by
    rw [blkL, keysF, if_neg (by have := blkK_pos i last k; intro e; rw [List.append_eq_nil_iff] at e; rw [e.1] at this; simp at this), nextD_put i last k _ hl (hk k List.mem_cons_self)]
    dsimp only
    rw [List.drop_left, keysF_blk ks (i + 1) k f (by simpa using h) (hk k List.mem_cons_self) fun x hx => hk x (List.mem_cons_of_mem _ hx)]
    rfl

end Go.Proofs.YtmmeofiocbfamaaGreatDoor
