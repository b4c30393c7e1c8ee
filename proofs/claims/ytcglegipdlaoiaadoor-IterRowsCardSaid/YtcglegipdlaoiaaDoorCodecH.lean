/- The walk of sentryref02.Outer. No condition: lemmas. -/
import Derived.Test.YtcglegipdlaoiaaDoorCodecF
import Derived.Test.YtcglegipdlaoiaaDoorPlainOrder
namespace Go.Proofs.YtcglegipdlaoiaaDoor
open Go Go.RowKit

/-- What has been read of a text: the key's bytes so far, i places. -/
def Scanned (s ks : List UInt8) (i : Nat) : Prop := scan s = (scan (s.drop i)).map fun x => (ks ++ x.1, x.2)

theorem Scanned.plain {s ks : List UInt8} {i : Nat} (h : Scanned s ks i) (hi : i + 1 < s.length) (hc : s[i] ≠ 0) : Scanned s (ks ++ [s[i]]) (i + 1) := by
  unfold Scanned at *
  rw [h, List.drop_eq_getElem_cons (by omega : i < s.length), List.drop_eq_getElem_cons hi]
  simp [scan, hc, Option.map_map, Function.comp_def]

theorem Scanned.zero {s ks : List UInt8} {i : Nat} (h : Scanned s ks i) (hi : i + 1 < s.length) (hc : s[i]'(by omega) = 0) (hd : s[i + 1] = 255) : Scanned s (ks ++ [0]) (i + 2) := by
  unfold Scanned at *
  rw [h, List.drop_eq_getElem_cons (by omega : i < s.length), List.drop_eq_getElem_cons hi, hc, hd]
  simp [scan, Option.map_map, Function.comp_def]

theorem Scanned.stop {s ks : List UInt8} {i : Nat} (h : Scanned s ks i) (hi : i + 1 < s.length) (hc : s[i]'(by omega) = 0) (hd : s[i + 1] = 1) : scan s = some (ks, s.drop (i + 2)) := by
  unfold Scanned at *
  rw [h, List.drop_eq_getElem_cons (by omega : i < s.length), List.drop_eq_getElem_cons hi, hc, hd]
  simp [scan]

theorem Scanned.bad {s ks : List UInt8} {i : Nat} (h : Scanned s ks i) (hi : i + 1 < s.length) (hc : s[i]'(by omega) = 0) (hd : s[i + 1] ≠ 1) (he : s[i + 1] ≠ 255) : scan s = none := by
  unfold Scanned at *
  rw [h, List.drop_eq_getElem_cons (by omega : i < s.length), List.drop_eq_getElem_cons hi, hc]
  simp [scan, hd, he]

theorem Scanned.short {s ks : List UInt8} {i : Nat} (h : Scanned s ks i) (hi : s.length ≤ i + 1) : scan s = none := by
  unfold Scanned at *
  rw [h]
  have hl : (s.drop i).length ≤ 1 := by rw [List.length_drop]; omega
  generalize s.drop i = t at *
  match t, hl with
  | [], _ => simp [scan]
  | [_], _ => simp [scan]

theorem outerS_stop {s ks rest : List UInt8} (h : scan s = some (ks, rest)) :
    outerS s = if rest.length = 9 ∧ (rest.getD 8 0).toNat ≤ 1 then some (ks, revOf (rest.take 8) 0, rest.getD 8 0 == 0) else none := by
  unfold outerS; rw [h]

theorem ref_step (r c i : Nat) (hr : r < 256 ^ i) (hi : i < 8) (hc : c < 256) : IntKind.u64.wrap ((r : Int) * 256) = (r : Int) * 256 ∧ IntKind.u64.wrap ((r : Int) * 256 + (255 - (c : Int))) = ((r * 256 + (255 - c) : Nat) : Int) ∧ IntKind.u64.wrap (255 - (c : Int)) = 255 - (c : Int) := by
  have hp : 256 ^ i ≤ 256 ^ 7 := Nat.pow_le_pow_right (by decide) (by omega)
  refine ⟨?_, ?_, ?_⟩ <;> rw [IntKind.wrap_u64] <;> omega

theorem outerS_none {s : List UInt8} (h : scan s = none) : outerS s = none := by unfold outerS; rw [h]

theorem u8_ne {c d : UInt8} {n : Int} (hn : ((d.toNat : Nat) : Int) = n) (h : c ≠ d) : ((c.toNat : Int) == n) = false := by
  rw [beq_eq_false_iff_ne, ← hn]
  intro e
  exact h (UInt8.toNat_inj.1 (by omega))
theorem u8_eq {c d : UInt8} {n : Int} (hn : ((d.toNat : Nat) : Int) = n) (h : c = d) : ((c.toNat : Int) == n) = true := by
  rw [h, hn]; simp

set_option maxRecDepth 100000 in
set_option maxHeartbeats 16000000 in
theorem refOuter_any (s : ByteArray) (w : World) (hs : s.size ≤ 10000000) :
    Calls Tryd.prog 31 #[.string s] w (RetO (outerS s.data.toList) w) := by
  have hB0 := Blk.made w #[Value.string ⟨#[]⟩, Value.int IntKind.u64 0, Value.bool false] 29
  generalize hw1 : w.alloc (.cells #[Value.string ⟨#[]⟩, Value.int IntKind.u64 0, Value.bool false] 29) = w1 at hB0
  have hb01 : Below w.heap.size w w1 := by rw [← hw1]; exact (Below.refl _ _).alloc (Nat.le_refl _) _
  have hs1' : w.heap.size + 1 ≤ w1.heap.size := by rw [← hw1]; simp
  go_enter Tryd.func31, Tryd.ntmps31
  go_wp2
  clear hw1
  have hsz := size_data s
  have HZ := Lib.hid hsz
  clear hsz
  go_loopw [4, 5] (fun vv ii wr => ∃ (i : Nat) (ks : List UInt8), i ≤ s.size ∧ ks.length ≤ i ∧ ii = .int .i64 i ∧ Scanned s.data.toList ks i ∧ App wr (w.heap.size + 1) 5 1 vv (bc ks) ∧ Below (w.heap.size + 1) w1 wr) (fun _ ii _ => s.size - (intOf ii).toNat)
  case atStart => exact ⟨0, [], by omega, by simp, rfl, by simp [Scanned], App.nil _ _ _ _, Below.refl _ _⟩
  case round =>
    obtain ⟨i, ks, hi, hkl, rfl, hsc, happ, hbel⟩ := hrel
    have hB := hB0.same (Same.below hbel) (show w.heap.size < w.heap.size + 1 by omega)
    have hc := hB.cells
    have hf := hB.free
    have hbs : w.heap.size + 1 ≤ wr.heap.size := Nat.le_trans hs1' hbel.size
    have hb0 : Below w.heap.size w wr := hb01.trans (hbel.mono (by omega))
    have hbl := bc_length ks
    by_cases hlt : i + 1 < s.size
    · have hil : i + 1 < s.data.toList.length := by rw [HZ.out]; exact hlt
      by_cases h0 : (s[i]'(by omega)) = 0
      · have h0b := u8_eq (n := 0) rfl h0
        have h0b' : (((s[i]'(by omega)).toNat : Int) != 0) = false := by rw [h0]; rfl
        by_cases h1 : s[i + 1] = 1
        · have h1b := u8_eq (n := 1) rfl h1
          have HS := Lib.hid (hsc.stop hil h0 h1)
          have HA := Lib.hid happ
          clear h0 h1 happ
          have hrd : (s.extract (i + 2) s.size).data.toList = s.data.toList.drop (i + 2) := Lib.extract_to_end s _
          have hrz : (s.extract (i + 2) s.size).size = s.size - (i + 2) := by rw [ByteArray.size_extract]; omega
          have HRD := Lib.hid hrd
          have HRZ := Lib.hid hrz
          clear hrd hrz
          by_cases h9 : s.size - (i + 2) = 9
          · have h9b : ((s.size - (i + 2) : Nat) : Int) = 9 := by omega
            have hb8 : ∀ h8 : 8 < (s.extract (i + 2) s.size).size, (s.data.toList.drop (i + 2)).getD 8 0 = (s.extract (i + 2) s.size)[8]'h8 := fun h8 => by
              rw [← HRD.out, List.getD, List.getElem?_eq_getElem (by rw [size_data]; exact h8)]; rfl
            have h8 : 8 < (s.extract (i + 2) s.size).size := by rw [HRZ.out]; omega
            have HB8 := Lib.hid (hb8 h8)
            clear hb8
            have hdl : (s.data.toList.drop (i + 2)).length = 9 := by rw [List.length_drop, HZ.out]; omega
            have HDL := Lib.hid hdl
            clear hdl
            by_cases hle : ((s.extract (i + 2) s.size)[8]'h8).toNat ≤ 1
            · have hle' : (((s.extract (i + 2) s.size)[8]'h8).toNat : Int) ≤ 1 := by omega
              have HF := Lib.hid (outerS_stop HS.out)
              have hlow : s.size = i + 11 := by omega
              have HLOW := Lib.hid hlow
              clear hlow h9
              go_wp2_with fail
              go_loop [7, 8] (fun vv kk => ∃ k : Nat, k ≤ 8 ∧ kk = .int .i64 k ∧ vv = .int .u64 (revOf ((s.data.toList.drop (i + 2)).take k) 0 : Nat)) (fun _ kk => 8 - (intOf kk).toNat)
              case atStart => exact ⟨0, by omega, rfl, rfl⟩
              case round =>
                obtain ⟨k, hk, rfl, rfl⟩ := hrel
                by_cases hk8 : k < 8
                · have hkr : k < (s.extract (i + 2) s.size).size := by omega
                  have hsn := revOf_snoc (s.data.toList.drop (i + 2)) k (by rw [HDL.out]; omega)
                  have hei : (s.data.toList.drop (i + 2))[k]'(by rw [HDL.out]; omega) = (s.extract (i + 2) s.size)[k]'hkr := by
                    have := HRD.out
                    simp only [← this]
                    rfl
                  rw [hei] at hsn
                  have hlt := revOf_lt ((s.data.toList.drop (i + 2)).take k) 0 0 (by decide)
                  rw [List.length_take, HDL.out, Nat.zero_add, Nat.min_eq_left (by omega)] at hlt
                  have hst := ref_step (revOf ((s.data.toList.drop (i + 2)).take k) 0) ((s.extract (i + 2) s.size)[k]'hkr).toNat k hlt hk8 ((s.extract (i + 2) s.size)[k]'hkr).toNat_lt
                  have HSN := Lib.hid hsn
                  have hcl := ((s.extract (i + 2) s.size)[k]'hkr).toNat_lt
                  clear hsn hei hlt
                  generalize revOf ((s.data.toList.drop (i + 2)).take k) 0 = r at *
                  obtain ⟨hst1, hst2, hst3⟩ := hst
                  go_wp2
                  go_round
                  case rel => exact ⟨k + 1, by omega, by go_num, congrArg (Value.int .u64) (by rw [HSN.out]; omega)⟩
                  case measure => simp [intOf]; omega
                · obtain rfl : k = 8 := by omega
                  have hcv := fun v (h : App wr (w.heap.size + 1) 5 1 v (bc ks)) => str_sl (w := wr.drew) (h.sl.same (w' := wr.drew) (fun _ _ => rfl))
                  have hcv := hcv _ HA.out
                  go_wp2_with fail
                  go_region
                  all_goals go_wp2_with fail
                  all_goals refine bodyPost_ret (v := outV (some (ks, revOf ((s.data.toList.drop (i + 2)).take 8) 0, (s.extract (i + 2) s.size)[8]'h8 == 0))) (by simp [results, Tryd.results31, go_sem, hc, outV, entV]; exact u8_zero _) rfl ⟨by rw [HF.out, if_pos ⟨HDL.out, by rw [HB8.out]; exact hle⟩, HB8.out], ?_⟩
                  all_goals repeat (first | exact hb0 | apply Below.drew | apply setAt)
            · have hle' : (1 : Int) < (((s.extract (i + 2) s.size)[8]'h8).toNat : Int) := by omega
              have HF := Lib.hid (outerS_stop HS.out)
              go_wp2_with fail
              refine bodyPost_ret (v := outV none) (by simp [results, Tryd.results31, go_sem, hc, outV, entV]; rfl) rfl ⟨by rw [HF.out, if_neg (fun h => hle (by rw [← HB8.out]; exact h.2))], ?_⟩
              repeat (first | exact hb0 | apply Below.drew | apply setAt)
          · have h9b : ¬ ((s.size - (i + 2) : Nat) : Int) = 9 := by omega
            have HF := Lib.hid (outerS_stop HS.out)
            have H9 := Lib.hid h9
            clear h9
            go_wp2_with fail
            refine bodyPost_ret (v := outV none) (by simp [results, Tryd.results31, go_sem, hc, outV, entV]; rfl) rfl ⟨by rw [HF.out, if_neg (fun h => H9.out (by have := h.1; rw [List.length_drop, HZ.out] at this; exact this))], ?_⟩
            repeat (first | exact hb0 | apply Below.drew | apply setAt)
        · have h1b := u8_ne (n := 1) rfl h1
          by_cases h2 : s[i + 1] = 255
          · have h2b : ((s[i + 1].toNat : Int) != 255) = false := by rw [h2]; rfl
            have HS := Lib.hid (hsc.zero hil h0 h2)
            clear h0 h1 h2 hc hf
            go_wp2_with (at_builtin; refine wpList_app_lit bytesT rfl (.tmp 38) (.tmp 39) rfl rfl happ rfl rfl (by simp [Value.oneCell']) (by simp; omega) (by simp; omega) hbs ?_; intro v2 w2 happ2 hb2 _)
            go_roundw
            case rel => exact ⟨i + 2, ks ++ [0], by omega, by simp; omega, by go_num, HS.out, by simpa [bc] using happ2, hbel.trans hb2⟩
            case measure => simp [intOf]; omega
          · have h2b : ((s[i + 1].toNat : Int) != 255) = true := by simpa [bne] using u8_ne (n := 255) rfl h2
            have HS := Lib.hid (outerS_none (hsc.bad hil h0 h1 h2))
            clear h0 h1 h2
            go_wp2_with fail
            refine bodyPost_ret (v := outV none) (by simp [results, Tryd.results31, go_sem, hc, outV, entV]; rfl) rfl ⟨by rw [HS.out], ?_⟩
            repeat (first | exact hb0 | apply Below.drew | apply setAt)
      · have h0b : (((s[i]'(by omega)).toNat : Int) != 0) = true := by simpa [bne] using u8_ne (n := 0) rfl h0
        have HS := Lib.hid (hsc.plain hil h0)
        clear h0 hc hf
        go_wp2_with (at_builtin; refine wpList_app_lit bytesT rfl (.tmp 19) (.tmp 23) rfl rfl happ rfl rfl (by simp [Value.oneCell']) (by simp; omega) (by simp; omega) hbs ?_; intro v2 w2 happ2 hb2 _)
        go_roundw
        case rel => exact ⟨i + 1, ks ++ [s[i]'(by omega)], by omega, by simp; omega, by go_num, HS.out, by simpa [bc] using happ2, hbel.trans hb2⟩
        case measure => simp [intOf]; omega
    · have HS := Lib.hid (outerS_none (hsc.short (by rw [HZ.out]; omega)))
      go_wp2_with fail
      refine bodyPost_ret (v := outV none) (by simp [results, Tryd.results31, go_sem, hc, outV, entV]; rfl) rfl ⟨by rw [HS.out], ?_⟩
      repeat (first | exact hb0 | apply Below.drew | apply setAt)

end Go.Proofs.YtcglegipdlaoiaaDoor
