/- The walks of sentryref02.Inner and sentryref02.Less. No condition: lemmas. -/
import Derived.Test.YtcglegipdlaoiaaDoorCodecE
import Derived.Test.YtcglegipdlaoiaaDoorGround
namespace Go.Proofs.YtcglegipdlaoiaaDoor
open Go Go.RowKit

theorem esc_take (l : List UInt8) (i : Nat) (hi : i < l.length) : esc (l.take (i + 1)) = esc (l.take i) ++ (if l[i] = 0 then [0, 255] else [l[i]]) := by
  rw [List.take_succ_eq_append_getElem hi, esc_append]
  by_cases h : l[i] = 0 <;> simp [esc, h]

theorem esc_take_length (l : List UInt8) (i : Nat) : (esc (l.take i)).length ≤ 2 * l.length := by
  have h1 := esc_length (l.take i)
  have h2 : (l.take i).length ≤ l.length := List.length_take_le' i l
  omega

theorem flip_byte (r k : Nat) (hr : U64 r) (hk : k = 72057594037927936 ∨ k = 281474976710656 ∨ k = 1099511627776 ∨ k = 4294967296 ∨ k = 16777216 ∨ k = 65536 ∨ k = 256 ∨ k = 1) :
    (((UInt8.ofNat (flip64 r / k)).toNat : Nat) : Int) = 255 - (r : Int) / (k : Int) % 256 := by
  have hl := hr.lt
  unfold flip64
  have e : (UInt8.ofNat ((18446744073709551615 - r) / k)).toNat = (18446744073709551615 - r) / k % 256 := by simp
  rw [e]
  rcases hk with rfl | rfl | rfl | rfl | rfl | rfl | rfl | rfl <;> omega

set_option maxRecDepth 100000 in
set_option maxHeartbeats 1600000 in
theorem refInner_any (key : ByteArray) (r : Nat) (d : Bool) (w : World) (hr : U64 r) (hk : key.size ≤ 10000000) :
    Calls Tryd.prog 20 #[entV key r d] w (RetV (.string ⟨(innerB key.data.toList r d).toArray⟩) w) := by
  unfold entV
  have hB0 := Blk.made w #[Value.string key, Value.int IntKind.u64 r, Value.bool d] 29
  generalize hw1 : w.alloc (.cells #[Value.string key, Value.int IntKind.u64 r, Value.bool d] 29) = w1 at hB0
  have hb01 : Below w.heap.size w w1 := by rw [← hw1]; exact (Below.refl _ _).alloc (Nat.le_refl _) _
  have hs1 : w1.heap.size = w.heap.size + 1 := by rw [← hw1]; simp
  have HW := Lib.hid hw1
  have HS := Lib.hid hs1
  have hs1' : w.heap.size + 1 ≤ w1.heap.size := by omega
  clear hs1
  go_enter Tryd.func20, Tryd.ntmps20
  go_wp2
  clear hw1
  go_loopw [3, 4] (fun vv ii wr => ∃ i : Nat, i ≤ key.size ∧ ii = .int .i64 i ∧ App wr (w.heap.size + 1) 5 1 vv (bc (esc (key.data.toList.take i))) ∧ Below (w.heap.size + 1) w1 wr) (fun _ ii _ => key.size - (intOf ii).toNat)
  case atStart => exact ⟨0, by omega, rfl, App.nil _ _ _ _, Below.refl _ _⟩
  case round =>
    obtain ⟨i, hi, rfl, happ, hbel⟩ := hrel
    have hc := (hB0.same (Same.below hbel) (show w.heap.size < w.heap.size + 1 by omega)).cells
    have hbs : w.heap.size + 1 ≤ wr.heap.size := Nat.le_trans hs1' hbel.size
    have hll := esc_take_length key.data.toList i
    rw [size_data] at hll
    have hbl := bc_length (esc (key.data.toList.take i))
    by_cases hlt : i < key.size
    · have hid : i < key.data.toList.length := by rw [size_data]; exact hlt
      have hst := esc_take key.data.toList i hid
      rw [show key.data.toList[i] = key[i]'hlt from rfl] at hst
      have HST := Lib.hid hst
      clear hst
      by_cases h0 : (key[i]'hlt) = 0
      · have h0b : (((key[i]'hlt).toNat : Int) == 0) = true := by rw [h0]; rfl
        have H0 := Lib.hid h0
        clear h0
        go_wp2_with (first | (at_builtin; refine wpList_app_lit bytesT rfl (.tmp 13) (.tmp 18) rfl rfl happ rfl rfl (by simp [Value.oneCell']) (by simp; omega) (by simp; omega) hbs ?_; intro v2 w2 happ2 hb2 _; have hbel2 := hbel.trans hb2; have hbs2 := Nat.le_trans hs1' hbel2.size; have hc2 := (hB0.same (Same.below hbel2) (show w.heap.size < w.heap.size + 1 by omega)).cells) | (at_builtin; refine wpList_app_lit bytesT rfl (.tmp 25) (.tmp 26) rfl rfl happ2 rfl rfl (by simp [Value.oneCell']) (by simp; omega) (by simp; omega) hbs2 ?_; intro v3 w3 happ3 hb3 _))
        go_roundw
        case rel =>
          refine ⟨i + 1, by omega, by go_num, ?_, hbel2.trans hb3⟩
          rw [HST.out, if_pos H0.out, bc_append]
          simpa [bc, H0.out] using happ3
        case measure => simp [intOf]; omega
      · have h0b : (((key[i]'hlt).toNat : Int) == 0) = false := by
          rw [beq_eq_false_iff_ne]
          intro h
          exact h0 (UInt8.toNat_inj.1 (by simpa using h))
        have H0 := Lib.hid h0
        clear h0
        go_wp2_with (first | (at_builtin; refine wpList_app_lit bytesT rfl (.tmp 13) (.tmp 18) rfl rfl happ rfl rfl (by simp [Value.oneCell']) (by simp; omega) (by simp; omega) hbs ?_; intro v2 w2 happ2 hb2 _; have hbel2 := hbel.trans hb2; have hbs2 := Nat.le_trans hs1' hbel2.size; have hc2 := (hB0.same (Same.below hbel2) (show w.heap.size < w.heap.size + 1 by omega)).cells))
        go_roundw
        case rel =>
          refine ⟨i + 1, by omega, by go_num, ?_, hbel2⟩
          rw [HST.out, if_neg H0.out, bc_append]
          simpa [bc] using happ2
        case measure => simp [intOf]; omega
    · obtain rfl : i = key.size := by omega
      have HT := Lib.hid (show key.data.toList.take key.size = key.data.toList from List.take_of_length_le (by rw [size_data]; exact Nat.le_refl _))
      rw [HT.out] at happ hbl hll
      have HBL := Lib.hid hbl
      have hbl' : (bc (esc key.data.toList)).length ≤ 20000000 := by omega
      clear hbl
      go_wp2_with (at_builtin; refine wpList_app_lit bytesT rfl (.tmp 28) (.tmp 29) rfl rfl happ rfl rfl (by simp [Value.oneCell']) (by simp; omega) (by simp; omega) hbs ?_; intro v2 w2 happ2 hb2 _; have hbel2 := hbel.trans hb2)
      clear happ hc
      go_loopw [3, 5] (fun vv ii wr => ∃ j : Nat, j ≤ 8 ∧ ii = .int .i64 (7 - (j : Int)) ∧ App wr (w.heap.size + 1) 5 1 vv (bc (esc key.data.toList ++ [0, 1] ++ (be8 (flip64 r)).take j)) ∧ Below (w.heap.size + 1) w1 wr) (fun _ ii _ => (intOf ii + 1).toNat)
      case atStart => exact ⟨0, by omega, rfl, by simpa [bc] using happ2, hbel2⟩
      case round =>
        obtain ⟨j, hj, rfl, happ, hbel⟩ := hrel
        have hc := (hB0.same (Same.below hbel) (show w.heap.size < w.heap.size + 1 by omega)).cells
        have hbs : w.heap.size + 1 ≤ wr.heap.size := Nat.le_trans hs1' hbel.size
        have hyl : (bc (esc key.data.toList ++ [0, 1] ++ (be8 (flip64 r)).take j)).length ≤ 20000010 := by
          rw [bc_length] at hbl' ⊢
          have : ((be8 (flip64 r)).take j).length ≤ 8 := by rw [List.length_take]; omega
          simp only [List.length_append, List.length_cons, List.length_nil]
          omega
        obtain ⟨ys, hys⟩ : ∃ ys, ys = bc (esc key.data.toList ++ [0, 1] ++ (be8 (flip64 r)).take j) := ⟨_, rfl⟩
        rw [← hys] at happ hyl
        by_cases hj8 : j = 8
        · subst hj8
          clear hbl' hbel2
          have hfin : ∀ (y : UInt8) (v : Value) (wz : World), App wz (w.heap.size + 1) 5 1 v (bc (esc key.data.toList ++ [0, 1] ++ (be8 (flip64 r)).take 8) ++ [Value.int .u8 y.toNat]) →
              (convert 63 9 v).run Tryd.prog wz = .ok (.string ⟨(esc key.data.toList ++ [0, 1] ++ (be8 (flip64 r) ++ [y])).toArray⟩) wz := fun y v wz h => by
            refine str_sl (S := (· < wz.heap.size)) ?_
            have := h.sl
            rwa [show bc (esc key.data.toList ++ [0, 1] ++ (be8 (flip64 r)).take 8) ++ [Value.int .u8 y.toNat] = bc (esc key.data.toList ++ [0, 1] ++ (be8 (flip64 r) ++ [y])) from by
              rw [show (be8 (flip64 r)).take 8 = be8 (flip64 r) from rfl]; simp [bc]] at this
          rw [← hys] at hfin
          have HF := Lib.hid hfin
          clear hfin hys
          cases d
          · go_wp2_with (at_builtin; refine wpList_app_lit bytesT rfl (.tmp 53) (.tmp 54) rfl rfl happ rfl rfl (by simp [Value.oneCell']) (by simp; omega) (by simp; omega) hbs ?_; intro v3 w3 happ3 hb3 _; have hcv := HF.out 1 v3 w3 (by simpa using happ3))
            go_ret
            exact ⟨congrArg (fun l => Ending.returned (Value.string ⟨List.toArray l⟩)) (by simp [innerB]), hb01.trans ((hbel.trans hb3).mono (by omega))⟩
          · go_wp2_with (at_builtin; refine wpList_app_lit bytesT rfl (.tmp 49) (.tmp 50) rfl rfl happ rfl rfl (by simp [Value.oneCell']) (by simp; omega) (by simp; omega) hbs ?_; intro v3 w3 happ3 hb3 _; have hcv := HF.out 0 v3 w3 (by simpa using happ3))
            go_ret
            exact ⟨congrArg (fun l => Ending.returned (Value.string ⟨List.toArray l⟩)) (by simp [innerB]), hb01.trans ((hbel.trans hb3).mono (by omega))⟩
        · have hj7 : j < 8 := by omega
          have HY := Lib.hid hys
          clear hbl' hbel2 hj8 hys
          rcases (show j = 0 ∨ j = 1 ∨ j = 2 ∨ j = 3 ∨ j = 4 ∨ j = 5 ∨ j = 6 ∨ j = 7 by omega) with rfl | rfl | rfl | rfl | rfl | rfl | rfl | rfl
          · go_wp2_with (at_builtin; refine wpList_app_lit bytesT rfl (.tmp 35) (.tmp 45) rfl rfl happ rfl rfl (by simp [Value.oneCell']) (by simp; omega) (by simp; omega) hbs ?_; intro v3 w3 happ3 hb3 _)
            go_roundw
            case rel =>
              refine ⟨1, by omega, by go_num, ?_, hbel.trans hb3⟩
              rw [show (be8 (flip64 r)).take 1 = (be8 (flip64 r)).take 0 ++ [UInt8.ofNat (flip64 r / 72057594037927936)] from (by first | rfl | (simp [be8])), ← List.append_assoc, bc_append, ← HY.out]
              rw [show bc [UInt8.ofNat (flip64 r / 72057594037927936)] = [Value.int .u8 ((UInt8.ofNat (flip64 r / 72057594037927936)).toNat : Int)] from rfl, flip_byte r 72057594037927936 hr (by simp)]
              simpa using happ3
            case measure => simp [intOf]
          · go_wp2_with (at_builtin; refine wpList_app_lit bytesT rfl (.tmp 35) (.tmp 45) rfl rfl happ rfl rfl (by simp [Value.oneCell']) (by simp; omega) (by simp; omega) hbs ?_; intro v3 w3 happ3 hb3 _)
            go_roundw
            case rel =>
              refine ⟨2, by omega, by go_num, ?_, hbel.trans hb3⟩
              rw [show (be8 (flip64 r)).take 2 = (be8 (flip64 r)).take 1 ++ [UInt8.ofNat (flip64 r / 281474976710656)] from (by first | rfl | (simp [be8])), ← List.append_assoc, bc_append, ← HY.out]
              rw [show bc [UInt8.ofNat (flip64 r / 281474976710656)] = [Value.int .u8 ((UInt8.ofNat (flip64 r / 281474976710656)).toNat : Int)] from rfl, flip_byte r 281474976710656 hr (by simp)]
              simpa using happ3
            case measure => simp [intOf]
          · go_wp2_with (at_builtin; refine wpList_app_lit bytesT rfl (.tmp 35) (.tmp 45) rfl rfl happ rfl rfl (by simp [Value.oneCell']) (by simp; omega) (by simp; omega) hbs ?_; intro v3 w3 happ3 hb3 _)
            go_roundw
            case rel =>
              refine ⟨3, by omega, by go_num, ?_, hbel.trans hb3⟩
              rw [show (be8 (flip64 r)).take 3 = (be8 (flip64 r)).take 2 ++ [UInt8.ofNat (flip64 r / 1099511627776)] from (by first | rfl | (simp [be8])), ← List.append_assoc, bc_append, ← HY.out]
              rw [show bc [UInt8.ofNat (flip64 r / 1099511627776)] = [Value.int .u8 ((UInt8.ofNat (flip64 r / 1099511627776)).toNat : Int)] from rfl, flip_byte r 1099511627776 hr (by simp)]
              simpa using happ3
            case measure => simp [intOf]
          · go_wp2_with (at_builtin; refine wpList_app_lit bytesT rfl (.tmp 35) (.tmp 45) rfl rfl happ rfl rfl (by simp [Value.oneCell']) (by simp; omega) (by simp; omega) hbs ?_; intro v3 w3 happ3 hb3 _)
            go_roundw
            case rel =>
              refine ⟨4, by omega, by go_num, ?_, hbel.trans hb3⟩
              rw [show (be8 (flip64 r)).take 4 = (be8 (flip64 r)).take 3 ++ [UInt8.ofNat (flip64 r / 4294967296)] from (by first | rfl | (simp [be8])), ← List.append_assoc, bc_append, ← HY.out]
              rw [show bc [UInt8.ofNat (flip64 r / 4294967296)] = [Value.int .u8 ((UInt8.ofNat (flip64 r / 4294967296)).toNat : Int)] from rfl, flip_byte r 4294967296 hr (by simp)]
              simpa using happ3
            case measure => simp [intOf]
          · go_wp2_with (at_builtin; refine wpList_app_lit bytesT rfl (.tmp 35) (.tmp 45) rfl rfl happ rfl rfl (by simp [Value.oneCell']) (by simp; omega) (by simp; omega) hbs ?_; intro v3 w3 happ3 hb3 _)
            go_roundw
            case rel =>
              refine ⟨5, by omega, by go_num, ?_, hbel.trans hb3⟩
              rw [show (be8 (flip64 r)).take 5 = (be8 (flip64 r)).take 4 ++ [UInt8.ofNat (flip64 r / 16777216)] from (by first | rfl | (simp [be8])), ← List.append_assoc, bc_append, ← HY.out]
              rw [show bc [UInt8.ofNat (flip64 r / 16777216)] = [Value.int .u8 ((UInt8.ofNat (flip64 r / 16777216)).toNat : Int)] from rfl, flip_byte r 16777216 hr (by simp)]
              simpa using happ3
            case measure => simp [intOf]
          · go_wp2_with (at_builtin; refine wpList_app_lit bytesT rfl (.tmp 35) (.tmp 45) rfl rfl happ rfl rfl (by simp [Value.oneCell']) (by simp; omega) (by simp; omega) hbs ?_; intro v3 w3 happ3 hb3 _)
            go_roundw
            case rel =>
              refine ⟨6, by omega, by go_num, ?_, hbel.trans hb3⟩
              rw [show (be8 (flip64 r)).take 6 = (be8 (flip64 r)).take 5 ++ [UInt8.ofNat (flip64 r / 65536)] from (by first | rfl | (simp [be8])), ← List.append_assoc, bc_append, ← HY.out]
              rw [show bc [UInt8.ofNat (flip64 r / 65536)] = [Value.int .u8 ((UInt8.ofNat (flip64 r / 65536)).toNat : Int)] from rfl, flip_byte r 65536 hr (by simp)]
              simpa using happ3
            case measure => simp [intOf]
          · go_wp2_with (at_builtin; refine wpList_app_lit bytesT rfl (.tmp 35) (.tmp 45) rfl rfl happ rfl rfl (by simp [Value.oneCell']) (by simp; omega) (by simp; omega) hbs ?_; intro v3 w3 happ3 hb3 _)
            go_roundw
            case rel =>
              refine ⟨7, by omega, by go_num, ?_, hbel.trans hb3⟩
              rw [show (be8 (flip64 r)).take 7 = (be8 (flip64 r)).take 6 ++ [UInt8.ofNat (flip64 r / 256)] from (by first | rfl | (simp [be8])), ← List.append_assoc, bc_append, ← HY.out]
              rw [show bc [UInt8.ofNat (flip64 r / 256)] = [Value.int .u8 ((UInt8.ofNat (flip64 r / 256)).toNat : Int)] from rfl, flip_byte r 256 hr (by simp)]
              simpa using happ3
            case measure => simp [intOf]
          · go_wp2_with (at_builtin; refine wpList_app_lit bytesT rfl (.tmp 35) (.tmp 45) rfl rfl happ rfl rfl (by simp [Value.oneCell']) (by simp; omega) (by simp; omega) hbs ?_; intro v3 w3 happ3 hb3 _)
            go_roundw
            case rel =>
              refine ⟨8, by omega, by go_num, ?_, hbel.trans hb3⟩
              rw [show (be8 (flip64 r)).take 8 = (be8 (flip64 r)).take 7 ++ [UInt8.ofNat (flip64 r / 1)] from (by first | rfl | (simp [be8])), ← List.append_assoc, bc_append, ← HY.out]
              rw [show bc [UInt8.ofNat (flip64 r / 1)] = [Value.int .u8 ((UInt8.ofNat (flip64 r / 1)).toNat : Int)] from rfl, flip_byte r 1 hr (by simp)]
              simpa using happ3
            case measure => simp [intOf]

end Go.Proofs.YtcglegipdlaoiaaDoor
