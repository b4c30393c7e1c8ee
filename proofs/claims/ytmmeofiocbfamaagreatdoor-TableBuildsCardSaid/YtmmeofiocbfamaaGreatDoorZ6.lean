/- frame's Seal. The walks of sentryref02.Inner and sentryref02.Less. Plain laws on inner keys: which text is one, and of what entry; in what order they stand. The walk of codec.Outer: the entry of an inner key. No condition: lemmas. -/
import Derived.Shelf.Small.Wraps
import Derived.Test.YtmmeofiocbfamaaGreatDoorZ5
import Derived.Test.YtmmeofiocbfamaaGreatDoorZ1
import Derived.Test.YtmmeofiocbfamaaGreatDoorZ4
namespace Go.Proofs.YtmmeofiocbfamaaGreatDoor
open Go Go.RowKit

set_option maxRecDepth 100000 in
set_option maxHeartbeats 1000000 in
theorem seal_any (v : Value) (bs : List UInt8) (w : World) (h : Sl (· < w.heap.size) w 1 v (bc bs)) (hl : bs.length ≤ 10000000) :
    Calls Tryz.prog 30 #[v] w fun e w' => ∃ v', e = .returned v' ∧ Own w' w.heap.size 5 1 v' (bc (sealB bs)) ∧ Ext w w' := by
  have HS := Lib.hid h
  have HL := Lib.hid hl
  have HP1 := Lib.hid (put_frame (B := w.heap.size) (.slice none 0 0) [] bs.length w (Nat.le_refl _) (Own.nil _ _ _ _) (by simp) (by omega))
  obtain ⟨ao, c, rfl, hlc, hcm, -, -⟩ := Sl.bytes h
  clear h
  have e1 : (bs.length : Int) % 4294967296 = (bs.length : Int) := by omega
  go_enter Tryz.func30, Tryz.ntmps30
  go_wp2_with fail
  refine HP1.out.mono ?_
  rintro e w1 ⟨v1, rfl, ho1, hb1⟩
  have HO1 := Lib.hid ho1
  have HX1 := Lib.hid (show Ext w w1 from hb1)
  have HSM := Lib.hid (sum_any (S := (· < w.heap.size)) _ bs w1 (fun b (hb : b < w.heap.size) => Nat.lt_of_lt_of_le hb hb1.size) (HS.out.same (Same.below hb1)))
  obtain ⟨ao1, n1, c1, rfl, -, -, -⟩ := ho1.sl.len
  clear ho1 hb1 HP1 e1
  go_wp2_with fail
  refine HSM.out.mono ?_
  rintro e w2 ⟨rfl, hb2⟩
  have HX2 := Lib.hid (show Ext w w2 from HX1.out.trans hb2)
  have HP2 := Lib.hid (put_frame (B := w.heap.size) (.slice ao1 n1 c1) ([] ++ four bs.length) (sumB bs) w2 HX2.out.size (HO1.out.below hb2) (by simp [four_length]) (sumB_lt bs))
  clear hb2 HSM
  go_wp2_with fail
  refine HP2.out.mono ?_
  rintro e w3 ⟨v3, rfl, ho3, hb3⟩
  have HX3 := Lib.hid (show Ext w w3 from Below.trans HX2.out hb3)
  have HS3 := Lib.hid (HS.out.same (Same.below HX3.out))
  have HO3 := Lib.hid ho3
  obtain ⟨ao3, n3, c3, rfl, -, -, -⟩ := ho3.sl.len
  clear ho3 hb3 HP2
  go_wp2_with (at_builtin; go_must (refine wpList_own bytesT rfl (.tmp 9) (.tmp 10) rfl rfl HO3.out rfl HS3.out (bc_one _) (by have := HL.out; rw [bc_length, bc_length]; simp [four_length]; omega) (by have := HL.out; rw [bc_length, bc_length]; simp [four_length]; omega) HX3.out.size ?_; intro v5 w5 hown5 hb5 _; have HF := Lib.hid (show Own w5 w.heap.size 5 1 v5 (bc (sealB bs)) from by rw [← bc_append] at hown5; unfold sealB; simpa using hown5); have HX5 := Lib.hid (show Ext w w5 from Below.trans HX3.out hb5); obtain ⟨ao5, n5, c5, rfl, -, -, -⟩ := hown5.sl.len; clear hown5 hb5))
  go_ret
  exact ⟨_, rfl, HF.out, HX5.out⟩

end Go.Proofs.YtmmeofiocbfamaaGreatDoor
namespace Go.Proofs.YtmmeofiocbfamaaGreatDoor
open Go Go.RowKit

theorem esc_take (l : List UInt8) (i : Nat) (hi : i < l.length) : esc (l.take (i + 1)) = esc (l.take i) ++ (if l[i] = 0 then [0, 255] else [l[i]]) := by
  rw [List.take_succ_eq_append_getElem hi, esc_append]
  by_cases h : l[i] = 0 <;> simp [esc, h]

theorem esc_take_length (l : List UInt8) (i : Nat) : (esc (l.take i)).length ≤ 2 * l.length := by
  have h1 := esc_length (l.take i)
  have h2 : (l.take i).length ≤ l.length := List.length_take_le' i l
  omega

theorem flip_byte (r k : Nat) (hr : U64 r) (hk : k = 72057594037927936 ∨ k = 281474976710656 ∨ k = 1099511627776 ∨ k = 4294967296 ∨ k = 16777216 ∨ k = 65536 ∨ k = 256 ∨ k = 1) :
    (((UInt8.ofNat (flip64 r / k)).toNat : Nat) : Int) = 255 - (r : Int) / (k : Int) % 256 := by
  have hl := hr.lt
  unfold flip64
  have e : (UInt8.ofNat ((18446744073709551615 - r) / k)).toNat = (18446744073709551615 - r) / k % 256 := by simp
  rw [e]
  rcases hk with rfl | rfl | rfl | rfl | rfl | rfl | rfl | rfl <;> omega

set_option maxRecDepth 100000 in
set_option maxHeartbeats 1600000 in
theorem refInner_any (key : ByteArray) (r : Nat) (d : Bool) (w : World) (hr : U64 r) (hk : key.size ≤ 10000000) :
    Calls Tryz.prog 21 #[entV key r d] w (RetV (.string ⟨(innerB key.data.toList r d).toArray⟩) w) := by
  unfold entV
  have hB0 := Blk.made w #[Value.string key, Value.int IntKind.u64 r, Value.bool d] 53
  generalize hw1 : w.alloc (.cells #[Value.string key, Value.int IntKind.u64 r, Value.bool d] 53) = w1 at hB0
  have hb01 : Below w.heap.size w w1 := by rw [← hw1]; exact (Below.refl _ _).alloc (Nat.le_refl _) _
  have hs1 : w1.heap.size = w.heap.size + 1 := by rw [← hw1]; simp
  have HW := Lib.hid hw1
  have HS := Lib.hid hs1
  have hs1' : w.heap.size + 1 ≤ w1.heap.size := by omega
  clear hs1
  go_enter Tryz.func21, Tryz.ntmps21
  go_wp2
  clear hw1
  go_loopw [3, 4] (fun vv ii wr => ∃ i : Nat, i ≤ key.size ∧ ii = .int .i64 i ∧ App wr (w.heap.size + 1) 5 1 vv (bc (esc (key.data.toList.take i))) ∧ Below (w.heap.size + 1) w1 wr) (fun _ ii _ => key.size - (intOf ii).toNat)
  case atStart => exact ⟨0, by omega, rfl, App.nil _ _ _ _, Below.refl _ _⟩
  case round =>
    obtain ⟨i, hi, rfl, happ, hbel⟩ := hrel
    have hc := (hB0.same (Same.below hbel) (show w.heap.size < w.heap.size + 1 by omega)).cells
    have hbs : w.heap.size + 1 ≤ wr.heap.size := Nat.le_trans hs1' hbel.size
    have hll := esc_take_length key.data.toList i
    rw [size_data] at hll
    have hbl := bc_length (esc (key.data.toList.take i))
    by_cases hlt : i < key.size
    · have hid : i < key.data.toList.length := by rw [size_data]; exact hlt
      have hst := esc_take key.data.toList i hid
      rw [show key.data.toList[i] = key[i]'hlt from rfl] at hst
      have HST := Lib.hid hst
      clear hst
      by_cases h0 : (key[i]'hlt) = 0
      · have h0b : (((key[i]'hlt).toNat : Int) == 0) = true := by rw [h0]; rfl
        have H0 := Lib.hid h0
        clear h0
        go_wp2_with (first | (at_builtin; refine wpList_app_lit bytesT rfl (.tmp 13) (.tmp 18) rfl rfl happ rfl rfl (by simp [Value.oneCell']) (by simp; omega) (by simp; omega) hbs ?_; intro v2 w2 happ2 hb2 _; have hbel2 := hbel.trans hb2; have hbs2 := Nat.le_trans hs1' hbel2.size; have hc2 := (hB0.same (Same.below hbel2) (show w.heap.size < w.heap.size + 1 by omega)).cells) | (at_builtin; refine wpList_app_lit bytesT rfl (.tmp 25) (.tmp 26) rfl rfl happ2 rfl rfl (by simp [Value.oneCell']) (by simp; omega) (by simp; omega) hbs2 ?_; intro v3 w3 happ3 hb3 _))
        go_roundw
        case rel =>
          refine ⟨i + 1, by omega, by go_num, ?_, hbel2.trans hb3⟩
          rw [HST.out, if_pos H0.out, bc_append]
          simpa [bc, H0.out] using happ3
        case measure => simp [intOf]; omega
      · have h0b : (((key[i]'hlt).toNat : Int) == 0) = false := by
          rw [beq_eq_false_iff_ne]
          intro h
          exact h0 (UInt8.toNat_inj.1 (by simpa using h))
        have H0 := Lib.hid h0
        clear h0
        go_wp2_with (first | (at_builtin; refine wpList_app_lit bytesT rfl (.tmp 13) (.tmp 18) rfl rfl happ rfl rfl (by simp [Value.oneCell']) (by simp; omega) (by simp; omega) hbs ?_; intro v2 w2 happ2 hb2 _; have hbel2 := hbel.trans hb2; have hbs2 := Nat.le_trans hs1' hbel2.size; have hc2 := (hB0.same (Same.below hbel2) (show w.heap.size < w.heap.size + 1 by omega)).cells))
        go_roundw
        case rel =>
          refine ⟨i + 1, by omega, by go_num, ?_, hbel2⟩
          rw [HST.out, if_neg H0.out, bc_append]
          simpa [bc] using happ2
        case measure => simp [intOf]; omega
    · obtain rfl : i = key.size := by omega
      have HT := Lib.hid (show key.data.toList.take key.size = key.data.toList from List.take_of_length_le (by rw [size_data]; exact Nat.le_refl _))
      rw [HT.out] at happ hbl hll
      have HBL := Lib.hid hbl
      have hbl' : (bc (esc key.data.toList)).length ≤ 20000000 := by omega
      clear hbl
      go_wp2_with (at_builtin; refine wpList_app_lit bytesT rfl (.tmp 28) (.tmp 29) rfl rfl happ rfl rfl (by simp [Value.oneCell']) (by simp; omega) (by simp; omega) hbs ?_; intro v2 w2 happ2 hb2 _; have hbel2 := hbel.trans hb2)
      clear happ hc
      go_loopw [3, 5] (fun vv ii wr => ∃ j : Nat, j ≤ 8 ∧ ii = .int .i64 (7 - (j : Int)) ∧ App wr (w.heap.size + 1) 5 1 vv (bc (esc key.data.toList ++ [0, 1] ++ (be8 (flip64 r)).take j)) ∧ Below (w.heap.size + 1) w1 wr) (fun _ ii _ => (intOf ii + 1).toNat)
      case atStart => exact ⟨0, by omega, rfl, by simpa [bc] using happ2, hbel2⟩
      case round =>
        obtain ⟨j, hj, rfl, happ, hbel⟩ := hrel
        have hc := (hB0.same (Same.below hbel) (show w.heap.size < w.heap.size + 1 by omega)).cells
        have hbs : w.heap.size + 1 ≤ wr.heap.size := Nat.le_trans hs1' hbel.size
        have hyl : (bc (esc key.data.toList ++ [0, 1] ++ (be8 (flip64 r)).take j)).length ≤ 20000010 := by
          rw [bc_length] at hbl' ⊢
          have : ((be8 (flip64 r)).take j).length ≤ 8 := by rw [List.length_take]; omega
          simp only [List.length_append, List.length_cons, List.length_nil]
          omega
        obtain ⟨ys, hys⟩ : ∃ ys, ys = bc (esc key.data.toList ++ [0, 1] ++ (be8 (flip64 r)).take j) := ⟨_, rfl⟩
        rw [← hys] at happ hyl
        by_cases hj8 : j = 8
        · subst hj8
          clear hbl' hbel2
          have hfin : ∀ (y : UInt8) (v : Value) (wz : World), App wz (w.heap.size + 1) 5 1 v (bc (esc key.data.toList ++ [0, 1] ++ (be8 (flip64 r)).take 8) ++ [Value.int .u8 y.toNat]) →
              (convert 24 9 v).run Tryz.prog wz = .ok (.string ⟨(esc key.data.toList ++ [0, 1] ++ (be8 (flip64 r) ++ [y])).toArray⟩) wz := fun y v wz h => by
            refine str_sl (S := (· < wz.heap.size)) ?_
            have := h.sl
            rwa [show bc (esc key.data.toList ++ [0, 1] ++ (be8 (flip64 r)).take 8) ++ [Value.int .u8 y.toNat] = bc (esc key.data.toList ++ [0, 1] ++ (be8 (flip64 r) ++ [y])) from by
              rw [show (be8 (flip64 r)).take 8 = be8 (flip64 r) from rfl]; simp [bc]] at this
          rw [← hys] at hfin
          have HF := Lib.hid hfin
          clear hfin hys
          cases d
          · go_wp2_with (at_builtin; refine wpList_app_lit bytesT rfl (.tmp 53) (.tmp 54) rfl rfl happ rfl rfl (by simp [Value.oneCell']) (by simp; omega) (by simp; omega) hbs ?_; intro v3 w3 happ3 hb3 _; have hcv := HF.out 1 v3 w3 (by simpa using happ3))
            go_ret
            exact ⟨congrArg (fun l => Ending.returned (Value.string ⟨List.toArray l⟩)) (by simp [innerB]), hb01.trans ((hbel.trans hb3).mono (by omega))⟩
          · go_wp2_with (at_builtin; refine wpList_app_lit bytesT rfl (.tmp 49) (.tmp 50) rfl rfl happ rfl rfl (by simp [Value.oneCell']) (by simp; omega) (by simp; omega) hbs ?_; intro v3 w3 happ3 hb3 _; have hcv := HF.out 0 v3 w3 (by simpa using happ3))
            go_ret
            exact ⟨congrArg (fun l => Ending.returned (Value.string ⟨List.toArray l⟩)) (by simp [innerB]), hb01.trans ((hbel.trans hb3).mono (by omega))⟩
        · have hj7 : j < 8 := by omega
          have HY := Lib.hid hys
          clear hbl' hbel2 hj8 hys
          rcases (show j = 0 ∨ j = 1 ∨ j = 2 ∨ j = 3 ∨ j = 4 ∨ j = 5 ∨ j = 6 ∨ j = 7 by omega) with rfl | rfl | rfl | rfl | rfl | rfl | rfl | rfl
          · go_wp2_with (at_builtin; refine wpList_app_lit bytesT rfl (.tmp 35) (.tmp 45) rfl rfl happ rfl rfl (by simp [Value.oneCell']) (by simp; omega) (by simp; omega) hbs ?_; intro v3 w3 happ3 hb3 _)
            go_roundw
            case rel =>
              refine ⟨1, by omega, by go_num, ?_, hbel.trans hb3⟩
              rw [show (be8 (flip64 r)).take 1 = (be8 (flip64 r)).take 0 ++ [UInt8.ofNat (flip64 r / 72057594037927936)] from (by first | rfl | (simp [be8])), ← List.append_assoc, bc_append, ← HY.out]
              rw [show bc [UInt8.ofNat (flip64 r / 72057594037927936)] = [Value.int .u8 ((UInt8.ofNat (flip64 r / 72057594037927936)).toNat : Int)] from rfl, flip_byte r 72057594037927936 hr (by simp)]
              simpa using happ3
            case measure => simp [intOf]
          · go_wp2_with (at_builtin; refine wpList_app_lit bytesT rfl (.tmp 35) (.tmp 45) rfl rfl happ rfl rfl (by simp [Value.oneCell']) (by simp; omega) (by simp; omega) hbs ?_; intro v3 w3 happ3 hb3 _)
            go_roundw
            case rel =>
              refine ⟨2, by omega, by go_num, ?_, hbel.trans hb3⟩
              rw [show (be8 (flip64 r)).take 2 = (be8 (flip64 r)).take 1 ++ [UInt8.ofNat (flip64 r / 281474976710656)] from (by first | rfl | (simp [be8])), ← List.append_assoc, bc_append, ← HY.out]
              rw [show bc [UInt8.ofNat (flip64 r / 281474976710656)] = [Value.int .u8 ((UInt8.ofNat (flip64 r / 281474976710656)).toNat : Int)] from rfl, flip_byte r 281474976710656 hr (by simp)]
              simpa using happ3
            case measure => simp [intOf]
          · go_wp2_with (at_builtin; refine wpList_app_lit bytesT rfl (.tmp 35) (.tmp 45) rfl rfl happ rfl rfl (by simp [Value.oneCell']) (by simp; omega) (by simp; omega) hbs ?_; intro v3 w3 happ3 hb3 _)
            go_roundw
            case rel =>
              refine ⟨3, by omega, by go_num, ?_, hbel.trans hb3⟩
              rw [show (be8 (flip64 r)).take 3 = (be8 (flip64 r)).take 2 ++ [UInt8.ofNat (flip64 r / 1099511627776)] from (by first | rfl | (simp [be8])), ← List.append_assoc, bc_append, ← HY.out]
              rw [show bc [UInt8.ofNat (flip64 r / 1099511627776)] = [Value.int .u8 ((UInt8.ofNat (flip64 r / 1099511627776)).toNat : Int)] from rfl, flip_byte r 1099511627776 hr (by simp)]
              simpa using happ3
            case measure => simp [intOf]
          · go_wp2_with (at_builtin; refine wpList_app_lit bytesT rfl (.tmp 35) (.tmp 45) rfl rfl happ rfl rfl (by simp [Value.oneCell']) (by simp; omega) (by simp; omega) hbs ?_; intro v3 w3 happ3 hb3 _)
            go_roundw
            case rel =>
              refine ⟨4, by omega, by go_num, ?_, hbel.trans hb3⟩
              rw [show (be8 (flip64 r)).take 4 = (be8 (flip64 r)).take 3 ++ [UInt8.ofNat (flip64 r / 4294967296)] from (by first | rfl | (simp [be8])), ← List.append_assoc, bc_append, ← HY.out]
              rw [show bc [UInt8.ofNat (flip64 r / 4294967296)] = [Value.int .u8 ((UInt8.ofNat (flip64 r / 4294967296)).toNat : Int)] from rfl, flip_byte r 4294967296 hr (by simp)]
              simpa using happ3
            case measure => simp [intOf]
          · go_wp2_with (at_builtin; refine wpList_app_lit bytesT rfl (.tmp 35) (.tmp 45) rfl rfl happ rfl rfl (by simp [Value.oneCell']) (by simp; omega) (by simp; omega) hbs ?_; intro v3 w3 happ3 hb3 _)
            go_roundw
            case rel =>
              refine ⟨5, by omega, by go_num, ?_, hbel.trans hb3⟩
              rw [show (be8 (flip64 r)).take 5 = (be8 (flip64 r)).take 4 ++ [UInt8.ofNat (flip64 r / 16777216)] from (by first | rfl | (simp [be8])), ← List.append_assoc, bc_append, ← HY.out]
              rw [show bc [UInt8.ofNat (flip64 r / 16777216)] = [Value.int .u8 ((UInt8.ofNat (flip64 r / 16777216)).toNat : Int)] from rfl, flip_byte r 16777216 hr (by simp)]
              simpa using happ3
            case measure => simp [intOf]
          · go_wp2_with (at_builtin; refine wpList_app_lit bytesT rfl (.tmp 35) (.tmp 45) rfl rfl happ rfl rfl (by simp [Value.oneCell']) (by simp; omega) (by simp; omega) hbs ?_; intro v3 w3 happ3 hb3 _)
            go_roundw
            case rel =>
              refine ⟨6, by omega, by go_num, ?_, hbel.trans hb3⟩
              rw [show (be8 (flip64 r)).take 6 = (be8 (flip64 r)).take 5 ++ [UInt8.ofNat (flip64 r / 65536)] from (by first | rfl | (simp [be8])), ← List.append_assoc, bc_append, ← HY.out]
              rw [show bc [UInt8.ofNat (flip64 r / 65536)] = [Value.int .u8 ((UInt8.ofNat (flip64 r / 65536)).toNat : Int)] from rfl, flip_byte r 65536 hr (by simp)]
              simpa using happ3
            case measure => simp [intOf]
          · go_wp2_with (at_builtin; refine wpList_app_lit bytesT rfl (.tmp 35) (.tmp 45) rfl rfl happ rfl rfl (by simp [Value.oneCell']) (by simp; omega) (by simp; omega) hbs ?_; intro v3 w3 happ3 hb3 _)
            go_roundw
            case rel =>
              refine ⟨7, by omega, by go_num, ?_, hbel.trans hb3⟩
              rw [show (be8 (flip64 r)).take 7 = (be8 (flip64 r)).take 6 ++ [UInt8.ofNat (flip64 r / 256)] from (by first | rfl | (simp [be8])), ← List.append_assoc, bc_append, ← HY.out]
              rw [show bc [UInt8.ofNat (flip64 r / 256)] = [Value.int .u8 ((UInt8.ofNat (flip64 r / 256)).toNat : Int)] from rfl, flip_byte r 256 hr (by simp)]
              simpa using happ3
            case measure => simp [intOf]
          · go_wp2_with (at_builtin; refine wpList_app_lit bytesT rfl (.tmp 35) (.tmp 45) rfl rfl happ rfl rfl (by simp [Value.oneCell']) (by simp; omega) (by simp; omega) hbs ?_; intro v3 w3 happ3 hb3 _)
            go_roundw
            case rel =>
              refine ⟨8, by omega, by go_num, ?_, hbel.trans hb3⟩
              rw [show (be8 (flip64 r)).take 8 = (be8 (flip64 r)).take 7 ++ [UInt8.ofNat (flip64 r / 1)] from (by first | rfl | (simp [be8])), ← List.append_assoc, bc_append, ← HY.out]
              rw [show bc [UInt8.ofNat (flip64 r / 1)] = [Value.int .u8 ((UInt8.ofNat (flip64 r / 1)).toNat : Int)] from rfl, flip_byte r 1 hr (by simp)]
              simpa using happ3
            case measure => simp [intOf]

end Go.Proofs.YtmmeofiocbfamaaGreatDoor
namespace Go.Proofs.YtmmeofiocbfamaaGreatDoor
open Go Go.Lib

/-- The number that eight flipped bytes tell. -/
def revOf (b : List UInt8) (r : Nat) : Nat := b.foldl (fun r c => r * 256 + (255 - c.toNat)) r

/-- What stands ahead of the first end of a key, and behind it. -/
def scan : List UInt8 → Option (List UInt8 × List UInt8)
  | [] => none
  | [_] => none
  | c :: d :: r =>
    if c ≠ 0 then (scan (d :: r)).map fun x => (c :: x.1, x.2)
    else if d = 1 then some ([], r)
    else if d ≠ 255 then none
    else (scan r).map fun x => (0 :: x.1, x.2)

theorem scan_esc : ∀ (k rest : List UInt8), scan (esc k ++ 0 :: 1 :: rest) = some (k, rest)
  | [], rest => by simp [esc, scan]
  | c :: k, rest => by
    have ih := scan_esc k rest
    by_cases hc : c = 0
    · subst hc
      simp [esc, scan, ih]
    · simp only [esc, if_neg hc, List.cons_append]
      generalize hx : esc k ++ 0 :: 1 :: rest = t at *
      cases t with
      | nil => simp at hx
      | cons d t => simp [scan, hc, ih]

theorem scan_some : ∀ (s : List UInt8) {k rest : List UInt8}, scan s = some (k, rest) → s = esc k ++ 0 :: 1 :: rest
  | [], _, _, h => by simp [scan] at h
  | [_], _, _, h => by simp [scan] at h
  | c :: d :: r, k, rest, h => by
    have h1 := fun {k rest : List UInt8} => scan_some (d :: r) (k := k) (rest := rest)
    have h2 := fun {k rest : List UInt8} => scan_some r (k := k) (rest := rest)
    simp only [scan] at h
    by_cases hc : c = 0
    · subst hc
      simp only [ne_eq, not_true_eq_false, if_false] at h
      by_cases hd : d = 1
      · subst hd
        simp at h
        obtain ⟨rfl, rfl⟩ := h
        rfl
      · rw [if_neg hd] at h
        by_cases hd2 : d = 255
        · subst hd2
          simp at h
          obtain ⟨k', h, rfl⟩ := h
          rw [h2 h]
          simp [esc]
        · simp [hd2] at h
    · simp only [ne_eq, hc, not_false_eq_true, if_true, Option.map_eq_some_iff, Prod.mk.injEq] at h
      obtain ⟨⟨k', r'⟩, h, rfl, rfl⟩ := h
      rw [h1 h]
      simp [esc, hc]

/-- P2.1: the entry of an inner key: key, revision, is it a deletion. -/
def outerS (s : List UInt8) : Option (List UInt8 × Nat × Bool) :=
  match scan s with
  | some (k, rest) => if rest.length = 9 ∧ (rest.getD 8 0).toNat ≤ 1 then some (k, revOf (rest.take 8) 0, rest.getD 8 0 == 0) else none
  | none => none

/-- The code's own way: the end is sought from behind. -/
theorem outer_code (s : List UInt8) (h11 : 11 ≤ s.length) :
    outerS s = if hasSuffix (s.take (s.length - 9)) [0, 1] = true ∧ esc (unesc (trimSuffix (s.take (s.length - 9)) [0, 1])) = trimSuffix (s.take (s.length - 9)) [0, 1] ∧ ((s.drop (s.length - 9)).getD 8 0).toNat ≤ 1 then
      some (unesc (trimSuffix (s.take (s.length - 9)) [0, 1]), revOf ((s.drop (s.length - 9)).take 8) 0, (s.drop (s.length - 9)).getD 8 0 == 0) else none := by
  have hb : (s.drop (s.length - 9)).length = 9 := by rw [List.length_drop]; omega
  have hs : s = s.take (s.length - 9) ++ s.drop (s.length - 9) := (List.take_append_drop _ _).symm
  generalize s.take (s.length - 9) = p at *
  generalize s.drop (s.length - 9) = b at *
  subst hs
  by_cases hsuf : hasSuffix p [0, 1] = true
  · obtain ⟨k, rfl⟩ : ∃ k, p = k ++ [0, 1] := by
      have := hsuf
      rw [hasSuffix, List.isSuffixOf_iff_suffix] at this
      obtain ⟨k, hk⟩ := this
      exact ⟨k, hk.symm⟩
    have ht : trimSuffix (k ++ [0, 1]) [0, 1] = k := by
      simp [trimSuffix, hsuf]
    rw [ht]
    by_cases he : esc (unesc k) = k
    · have hsc : scan (k ++ [0, 1] ++ b) = some (unesc k, b) := by
        have := scan_esc (unesc k) b
        rw [he] at this
        simpa using this
      unfold outerS
      rw [hsc]
      simp [hb, he, hsuf]
    · rw [if_neg (fun h => he h.2.1)]
      unfold outerS
      cases hsc : scan (k ++ [0, 1] ++ b) with
      | none => rfl
      | some x =>
        obtain ⟨k', rest⟩ := x
        have h1 := scan_some _ hsc
        by_cases hr : rest.length = 9
        · exfalso
          have h2 : k ++ [0, 1] = esc k' ++ [0, 1] ∧ b = rest := by
            refine List.append_inj' (s₁ := k ++ [0, 1]) (s₂ := esc k' ++ [0, 1]) ?_ (by omega)
            simpa using h1
          have h3 : k = esc k' := by simpa using h2.1
          exact he (by rw [h3, unesc_esc])
        · simp [hr]
  · rw [if_neg (fun h => hsuf h.1)]
    unfold outerS
    cases hsc : scan (p ++ b) with
    | none => rfl
    | some x =>
      obtain ⟨k', rest⟩ := x
      have h1 := scan_some _ hsc
      by_cases hr : rest.length = 9
      · exfalso
        have h2 : p = esc k' ++ [0, 1] ∧ b = rest := by
          refine List.append_inj' (s₁ := p) (s₂ := esc k' ++ [0, 1]) ?_ (by omega)
          simpa using h1
        apply hsuf
        rw [h2.1, hasSuffix, List.isSuffixOf_iff_suffix]
        exact ⟨_, rfl⟩
      · simp [hr]

theorem outer_short (s : List UInt8) (h : s.length < 11) : outerS s = none := by
  unfold outerS
  cases hsc : scan s with
  | none => rfl
  | some x =>
    obtain ⟨k, rest⟩ := x
    have := congrArg List.length (scan_some _ hsc)
    simp at this
    have hr : ¬ rest.length = 9 := by omega
    simp [hr]

end Go.Proofs.YtmmeofiocbfamaaGreatDoor
namespace Go.Proofs.YtmmeofiocbfamaaGreatDoor
open Go Go.RowKit

/-- An Outer's answer: the entry and no error, or no entry and an error. -/
def outV : Option (List UInt8 × Nat × Bool) → Value
  | some (k, r, d) => .tuple #[entV ⟨k.toArray⟩ r d, .int .i64 0]
  | none => .tuple #[entV ByteArray.empty 0 false, .int .i64 9]

theorem u8_flip (c : Nat) (h : c < 256) : bits BinOp.xor IntKind.u8 IntKind.u8.max (c : Int) = ((255 - c : Nat) : Int) := by
  rw [show IntKind.u8.max = ((255 : Nat) : Int) from rfl, u8_xor_nat 255 c (by decide) h]
  congr 1
  have e : (255 : Nat) ^^^ c = (BitVec.allOnes 8 ^^^ BitVec.ofNat 8 c).toNat := by
    rw [BitVec.toNat_xor, BitVec.toNat_allOnes, BitVec.toNat_ofNat, Nat.mod_eq_of_lt (by omega)]
  rw [e, BitVec.allOnes_xor, BitVec.toNat_not, BitVec.toNat_ofNat, Nat.mod_eq_of_lt (by omega)]

theorem rev_step (r c i : Nat) (hr : r < 256 ^ i) (hi : i < 8) (hc : c < 256) :
    bits BinOp.or IntKind.u64 (IntKind.u64.wrap ((r : Int) * 256)) (IntKind.u64.wrap (bits BinOp.xor IntKind.u8 IntKind.u8.max (c : Int))) = ((r * 256 + (255 - c) : Nat) : Int) := by
  have hp : 256 ^ i ≤ 256 ^ 7 := Nat.pow_le_pow_right (by decide) (by omega)
  have e1 : IntKind.u64.wrap ((r : Int) * 256) = ((r * 256 : Nat) : Int) := by rw [IntKind.wrap_u64]; omega
  have e2 : IntKind.u64.wrap ((255 - c : Nat) : Int) = ((255 - c : Nat) : Int) := by rw [IntKind.wrap_u64]; omega
  rw [u8_flip c hc, e1, e2, u64_or_nat _ _ (by omega) (by omega), nat_join 8 (r * 256) (255 - c) (by omega) (by omega)]

theorem revOf_snoc (b : List UInt8) (i : Nat) (hi : i < b.length) : revOf (b.take (i + 1)) 0 = revOf (b.take i) 0 * 256 + (255 - b[i].toNat) := by
  rw [List.take_succ_eq_append_getElem hi, revOf, List.foldl_append]
  rfl

theorem revOf_lt (b : List UInt8) : ∀ r n, r < 256 ^ n → revOf b r < 256 ^ (n + b.length) := by
  induction b with
  | nil => intro r n h; simpa [revOf] using h
  | cons c b ih =>
    intro r n h
    have := ih (r * 256 + (255 - c.toNat)) (n + 1) (by rw [Nat.pow_succ]; omega)
    rw [List.length_cons, show n + (b.length + 1) = n + 1 + b.length from by omega]
    exact this

theorem trimSuffix_length (p x : List UInt8) : (Lib.trimSuffix p x).length ≤ p.length := by
  unfold Lib.trimSuffix
  split
  · rw [List.length_take]; omega
  · omega

theorem u8_zero (c : UInt8) : ((c.toNat : Int) == 0) = (c == 0) := by
  rw [Bool.eq_iff_iff]
  simp [← UInt8.toNat_inj]

/-- It returns an Outer's answer; nothing that was there has turned. -/
def RetO (o : Option (List UInt8 × Nat × Bool)) (w : World) (e : Ending) (w' : World) : Prop := e = .returned (outV o) ∧ Below w.heap.size w w'

set_option maxRecDepth 100000 in
set_option maxHeartbeats 1600000 in
theorem outer_any (s : ByteArray) (w : World) (henv : Env w) (hs : s.size ≤ 100000000) :
    Calls Tryz.prog 23 #[.string s] w (RetO (outerS s.data.toList) w) := by
  by_cases h11 : 11 ≤ s.size
  · have hcode := outer_code s.data.toList (by rw [size_data]; exact h11)
    rw [size_data] at hcode
    have hb9s : (s.extract (s.size - 9) s.size).size = 9 := by rw [ByteArray.size_extract]; omega
    have hps : (s.extract 0 (s.size - 9)).size ≤ 100000000 := by rw [ByteArray.size_extract]; omega
    have hbd : (s.extract (s.size - 9) s.size).data.toList = s.data.toList.drop (s.size - 9) := Lib.extract_to_end s _
    have hpd : (s.extract 0 (s.size - 9)).data.toList = s.data.toList.take (s.size - 9) := by rw [Lib.extract_data]; simp
    rw [← hbd, ← hpd] at hcode
    have HC := Lib.hid hcode
    clear hcode hbd hpd
    go_enter Tryz.func23, Tryz.ntmps23
    go_wp2_with fail
    go_region
    go_wp2_with fail
    generalize s.extract (s.size - 9) s.size = b9 at *
    generalize s.extract 0 (s.size - 9) = p at *
    refine (Tryz.strings_CutSuffix p ⟨#[0, 1]⟩ _ (by omega)).mono ?_
    rintro e w1 ⟨rfl, rfl⟩
    have hpl : p.data.toList.length ≤ 100000000 := by rw [size_data]; exact hps
    have hkl := trimSuffix_length p.data.toList [0, 1]
    have HC2 := HC.out
    clear HC
    generalize Lib.trimSuffix p.data.toList [0, 1] = k at *
    generalize Lib.hasSuffix p.data.toList [0, 1] = ok at *
    have hkz : (⟨k.toArray⟩ : ByteArray).size = k.length := rfl
    have HC := Lib.hid HC2
    clear HC2
    go_wp2_with fail
    have hb0 : Below w.heap.size w (w.alloc (Obj.cells #[Value.string ⟨#[]⟩, Value.int IntKind.u64 0, Value.bool false] 53)).drew := ((Below.refl _ _).alloc (Nat.le_refl _) _).drew
    refine (unesc_call _ _ (henv.below hb0) (by omega)).mono ?_
    rintro e w2 ⟨rfl, hb2⟩
    have hB2 : Blk w2 w.heap.size #[Value.string ⟨#[]⟩, Value.int IntKind.u64 0, Value.bool false] 53 := (Blk.made w _ _).drew.below hb2
    have hb02 : Below w.heap.size w w2 := hb0.trans (hb2.mono (by simp))
    have huz := unesc_length k
    cases ok
    · have hc := hB2.cells
      have hf := hB2.free
      go_wp2_with fail
      refine bodyPost_ret (v := outV none) (by simp [results, Tryz.results23, go_sem, hc, outV, entV]; rfl) rfl ⟨by rw [HC.out]; simp, ?_⟩
      repeat (first | exact hb02 | apply Below.drew | apply setAt)
    · go_wp2_with fail
      refine (esc_call _ _ ((henv.below hb02)) (by show (unesc k).length ≤ 1000000000; omega)).mono ?_
      rintro e w3 ⟨rfl, hb3⟩
      have hB3 := hB2.below hb3
      have hb03 : Below w.heap.size w w3 := hb02.trans (hb3.mono hb02.size)
      have hc := hB3.cells
      have hf := hB3.free
      by_cases hx : esc (unesc k) = k
      · have hxb : (esc (unesc k) == k) = true := by rw [hx]; simp
        have hb8 : b9.data.toList.getD 8 0 = b9[8]'(by omega) := by
          rw [List.getD, List.getElem?_eq_getElem (by rw [size_data]; omega)]; rfl
        have HX := Lib.hid hx
        clear hx
        by_cases h9 : (b9[8]'(by omega)).toNat ≤ 1
        · have h9i : ((b9[8]'(by omega)).toNat : Int) ≤ 1 := by omega
          have hbl : b9.data.toList.length = 9 := by rw [size_data]; exact hb9s
          have hbi : ∀ (i : Nat) (h : i < b9.size), b9.data.toList[i]'(by rw [size_data]; exact h) = b9[i] := fun i h => rfl
          have HBL := Lib.hid hbl
          have HBI := Lib.hid hbi
          have HB8 := Lib.hid hb8
          clear hbl hbi hb8
          go_wp2_with fail
          go_loop [8, 9, 45] (fun vv _ ii => ∃ i : Nat, i ≤ 8 ∧ ii = .int .i64 i ∧ vv = .int .u64 (revOf (b9.data.toList.take i) 0 : Nat)) (fun _ _ ii => 8 - (intOf ii).toNat)
          case atStart => exact ⟨0, by omega, rfl, rfl⟩
          case round =>
            obtain ⟨i, hi, rfl, rfl⟩ := hrel
            by_cases hlt : i < 8
            · have hib : i < b9.size := by omega
              have hst := rev_step (revOf (b9.data.toList.take i) 0) (b9[i]'hib).toNat i (by have := revOf_lt (b9.data.toList.take i) 0 0 (by decide); rw [List.length_take, HBL.out, Nat.zero_add] at this; rwa [Nat.min_eq_left (by omega)] at this) hlt (b9[i]'hib).toNat_lt
              have HST := Lib.hid hst
              have hsn := revOf_snoc b9.data.toList i (by rw [HBL.out]; omega)
              have HSN := Lib.hid hsn
              clear hst hsn
              generalize revOf (b9.data.toList.take i) 0 = r at *
              go_wp2
              go_round
              case rel => exact ⟨i + 1, by omega, by go_num, congrArg (Value.int .u64) (by rw [HSN.out, HBI.out i hib]; exact HST.out)⟩
              case measure => simp [intOf]; omega
            · obtain rfl : i = 8 := by omega
              go_wp2
              refine bodyPost_ret (v := outV (some (unesc k, revOf (b9.data.toList.take 8) 0, b9[8]'(by omega) == 0))) (by simp [results, Tryz.results23, go_sem, hc, outV, entV]; exact u8_zero _) rfl ⟨by rw [HC.out, if_pos ⟨trivial, HX.out, by rw [HB8.out]; exact h9⟩, HB8.out], ?_⟩
              repeat (first | exact hb03 | apply Below.drew | apply setAt)
        · have h9i : (1 : Int) < ((b9[8]'(by omega)).toNat : Int) := by omega
          go_wp2_with fail
          refine bodyPost_ret (v := outV none) (by simp [results, Tryz.results23, go_sem, hc, outV, entV]; rfl) rfl ⟨by rw [HC.out, if_neg (by rw [hb8]; omega)], ?_⟩
          repeat (first | exact hb03 | apply Below.drew | apply setAt)
      · have hxb : (esc (unesc k) == k) = false := by simpa using hx
        have HX := Lib.hid hx
        clear hx
        go_wp2_with fail
        refine bodyPost_ret (v := outV none) (by simp [results, Tryz.results23, go_sem, hc, outV, entV]; rfl) rfl ⟨by rw [HC.out, if_neg (fun h => HX.out h.2.1)], ?_⟩
        repeat (first | exact hb03 | apply Below.drew | apply setAt)
  · have h11i : (s.size : Int) < 11 := by omega
    go_enter Tryz.func23, Tryz.ntmps23
    go_wp2_with fail
    refine bodyPost_ret (v := outV none) (by simp [results, Tryz.results23, go_sem, outV, entV]; rfl) rfl ⟨by rw [outer_short _ (by rw [size_data]; omega)], ?_⟩
    repeat (first | exact (Below.refl _ _).alloc (Nat.le_refl _) _ | apply Below.drew | apply setAt)

end Go.Proofs.YtmmeofiocbfamaaGreatDoor
