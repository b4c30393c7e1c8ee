/- Plain laws on the order of inner keys. The walk of sentryref02.Outer. Rows of texts and of entries in memory; what an inner key tells. slices.Clone; frame's Next. No condition: lemmas. -/
import Derived.Test.YtmmeofiocbfamaaGreatDoorZ4
import Derived.Test.YtmmeofiocbfamaaGreatDoorZ6
namespace Go.Proofs.YtmmeofiocbfamaaGreatDoor
open Go Go.Lib
open Go.Op (bytesLess)

theorem bl_common (p a b : List UInt8) : bytesLess (p ++ a) (p ++ b) = bytesLess a b := by
  induction p with
  | nil => rfl
  | cons c p ih => simp [bytesLess, ih]

theorem bl_esc : ∀ (k1 k2 t1 t2 : List UInt8), k1 ≠ k2 → bytesLess (esc k1 ++ 0 :: 1 :: t1) (esc k2 ++ 0 :: 1 :: t2) = bytesLess k1 k2
  | [], [], _, _, h => absurd rfl h
  | [], d :: s, t1, t2, _ => by
    by_cases hd : d = 0
    · subst hd; simp [esc, bytesLess]
    · have : (0 : UInt8) < d := by
        rw [UInt8.lt_iff_toNat_lt]
        have : d.toNat ≠ 0 := fun h => hd (UInt8.toNat_inj.1 (by simpa using h))
        simp; omega
      simp [esc, bytesLess, hd, this]
  | c :: r, [], t1, t2, _ => by
    by_cases hc : c = 0
    · subst hc; simp [esc, bytesLess]
    · simp [esc, bytesLess, hc]
  | c :: r, d :: s, t1, t2, h => by
    have ih := fun h => bl_esc r s t1 t2 h
    by_cases hcd : c = d
    · subst hcd
      have hrs : r ≠ s := fun e => h (by rw [e])
      by_cases hc : c = 0
      · subst hc; simp [esc, bytesLess, ih hrs]
      · simp [esc, bytesLess, hc, ih hrs]
    · by_cases hc : c = 0
      · subst hc
        have hd : ¬ d = 0 := fun e => hcd e.symm
        have : (0 : UInt8) < d := by
          rw [UInt8.lt_iff_toNat_lt]
          have : d.toNat ≠ 0 := fun h => hd (UInt8.toNat_inj.1 (by simpa using h))
          simp; omega
        simp [esc, bytesLess, hd, this]
      · by_cases hd : d = 0
        · subst hd
          have : (c == 0) = false := by simpa using hc
          simp [esc, bytesLess, hc, this]
        · have : (c == d) = false := by simpa using hcd
          simp [esc, bytesLess, hc, hd, this]

/-- The number that bytes tell, the greatest first. -/
def val (l : List UInt8) (r : Nat) : Nat := l.foldl (fun r c => r * 256 + c.toNat) r

theorem val_ge : ∀ (l : List UInt8) (r : Nat), r * 256 ^ l.length ≤ val l r ∧ val l r < (r + 1) * 256 ^ l.length
  | [], r => by simp [val]
  | c :: l, r => by
    have ih := val_ge l (r * 256 + c.toNat)
    have hc := c.toNat_lt
    have e : val (c :: l) r = val l (r * 256 + c.toNat) := rfl
    rw [e, List.length_cons, Nat.pow_succ, Nat.mul_comm (256 ^ l.length) 256, ← Nat.mul_assoc, ← Nat.mul_assoc]
    refine ⟨Nat.le_trans (Nat.mul_le_mul_right _ (by omega)) ih.1, Nat.lt_of_lt_of_le ih.2 (Nat.mul_le_mul_right _ (by omega))⟩

theorem bl_val : ∀ (a b : List UInt8) (r : Nat), a.length = b.length → bytesLess a b = decide (val a r < val b r)
  | [], [], r, _ => by simp [bytesLess, val]
  | [], _ :: _, _, h => by simp at h
  | _ :: _, [], _, h => by simp at h
  | c :: a, d :: b, r, h => by
    have hl : a.length = b.length := by simpa using h
    have ea : val (c :: a) r = val a (r * 256 + c.toNat) := rfl
    have eb : val (d :: b) r = val b (r * 256 + d.toNat) := rfl
    rw [ea, eb]
    have ha := val_ge a (r * 256 + c.toNat)
    have hb := val_ge b (r * 256 + d.toNat)
    rw [hl] at ha
    by_cases hcd : c = d
    · subst hcd
      rw [← bl_val a b _ hl]
      simp [bytesLess]
    · by_cases hlt : c < d
      · have h1 : c.toNat + 1 ≤ d.toNat := UInt8.lt_iff_toNat_lt.1 hlt
        have := Nat.mul_le_mul_right (256 ^ b.length) (show r * 256 + c.toNat + 1 ≤ r * 256 + d.toNat by omega)
        have : val a (r * 256 + c.toNat) < val b (r * 256 + d.toNat) := by omega
        simp [bytesLess, hlt, this]
      · have h1 : d.toNat + 1 ≤ c.toNat := by
          have h2 : ¬ c.toNat < d.toNat := fun h => hlt (UInt8.lt_iff_toNat_lt.2 h)
          have h3 : c.toNat ≠ d.toNat := fun h => hcd (UInt8.toNat_inj.1 h)
          omega
        have := Nat.mul_le_mul_right (256 ^ b.length) (show r * 256 + d.toNat + 1 ≤ r * 256 + c.toNat by omega)
        have : ¬ val a (r * 256 + c.toNat) < val b (r * 256 + d.toNat) := by omega
        simp [bytesLess, hlt, hcd, this]

theorem val_be8 (m : Nat) (h : m < 18446744073709551616) (x : UInt8) : val (be8 m ++ [x]) 0 = m * 256 + x.toNat := by
  have e : ∀ a : Nat, (UInt8.ofNat a).toNat = a % 256 := fun a => by simp
  simp only [val, be8, List.cons_append, List.nil_append, List.foldl_cons, List.foldl_nil, e]
  omega

/-- P2.3: does an entry stand ahead of another one. -/
def lessE (k1 : List UInt8) (r1 : Nat) (d1 : Bool) (k2 : List UInt8) (r2 : Nat) (d2 : Bool) : Bool :=
  if k1 ≠ k2 then bytesLess k1 k2 else if r1 ≠ r2 then decide (r2 < r1) else d1 && !d2

theorem inner_less (k1 : List UInt8) (r1 : Nat) (d1 : Bool) (k2 : List UInt8) (r2 : Nat) (d2 : Bool) (h1 : U64 r1) (h2 : U64 r2) :
    bytesLess (innerB k1 r1 d1) (innerB k2 r2 d2) = lessE k1 r1 d1 k2 r2 d2 := by
  have l1 := h1.lt
  have l2 := h2.lt
  unfold lessE innerB
  by_cases hk : k1 = k2
  · subst hk
    rw [bl_common, bl_val _ _ 0 (by simp [be8]), val_be8 _ (by unfold flip64; omega), val_be8 _ (by unfold flip64; omega)]
    unfold flip64
    simp only [ne_eq, not_true_eq_false, if_false]
    by_cases hr : r1 = r2
    · subst hr
      cases d1 <;> cases d2 <;> simp
    · simp only [hr, not_false_eq_true, if_true]
      cases d1 <;> cases d2 <;> simp <;> omega
  · have e : ∀ (k : List UInt8) (t : List UInt8), esc k ++ [0, 1] ++ t = esc k ++ 0 :: 1 :: t := fun k t => by simp
    rw [e, e, bl_esc _ _ _ _ hk]
    simp [hk]

theorem inner_eq (k1 : List UInt8) (r1 : Nat) (d1 : Bool) (k2 : List UInt8) (r2 : Nat) (d2 : Bool) (h1 : U64 r1) (h2 : U64 r2) :
    (innerB k1 r1 d1 == innerB k2 r2 d2) = (k1 == k2 && (r1 == r2 && d1 == d2)) := by
  have l1 := h1.lt
  have l2 := h2.lt
  rw [Bool.eq_iff_iff]
  simp only [beq_iff_eq, Bool.and_eq_true]
  refine ⟨fun h => ?_, fun ⟨a, b, c⟩ => by rw [a, b, c]⟩
  have e : ∀ (k : List UInt8) (t : List UInt8), esc k ++ [0, 1] ++ t = esc k ++ 0 :: 1 :: t := fun k t => by simp
  unfold innerB at h
  rw [e, e] at h
  have hs := congrArg scan h
  rw [scan_esc, scan_esc] at hs
  simp only [Option.some.injEq, Prod.mk.injEq] at hs
  obtain ⟨hk, ht⟩ := hs
  have hv := congrArg (fun l => val l 0) ht
  rw [val_be8 _ (by unfold flip64; omega), val_be8 _ (by unfold flip64; omega)] at hv
  unfold flip64 at hv
  refine ⟨hk, ?_, ?_⟩
  · cases d1 <;> cases d2 <;> simp at hv <;> omega
  · cases d1 <;> cases d2 <;> simp at hv <;> first | rfl | omega

end Go.Proofs.YtmmeofiocbfamaaGreatDoor
namespace Go.Proofs.YtmmeofiocbfamaaGreatDoor
open Go Go.RowKit

/-- What has been read of a text: the key's bytes so far, i places. -/
def Scanned (s ks : List UInt8) (i : Nat) : Prop := scan s = (scan (s.drop i)).map fun x => (ks ++ x.1, x.2)

theorem Scanned.plain {s ks : List UInt8} {i : Nat} (h : Scanned s ks i) (hi : i + 1 < s.length) (hc : s[i] ≠ 0) : Scanned s (ks ++ [s[i]]) (i + 1) := by
  unfold Scanned at *
  rw [h, List.drop_eq_getElem_cons (by omega : i < s.length), List.drop_eq_getElem_cons hi]
  simp [scan, hc, Option.map_map, Function.comp_def]

theorem Scanned.zero {s ks : List UInt8} {i : Nat} (h : Scanned s ks i) (hi : i + 1 < s.length) (hc : s[i]'(by omega) = 0) (hd : s[i + 1] = 255) : Scanned s (ks ++ [0]) (i + 2) := by
  unfold Scanned at *
  rw [h, List.drop_eq_getElem_cons (by omega : i < s.length), List.drop_eq_getElem_cons hi, hc, hd]
  simp [scan, Option.map_map, Function.comp_def]

theorem Scanned.stop {s ks : List UInt8} {i : Nat} (h : Scanned s ks i) (hi : i + 1 < s.length) (hc : s[i]'(by omega) = 0) (hd : s[i + 1] = 1) : scan s = some (ks, s.drop (i + 2)) := by
  unfold Scanned at *
  rw [h, List.drop_eq_getElem_cons (by omega : i < s.length), List.drop_eq_getElem_cons hi, hc, hd]
  simp [scan]

theorem Scanned.bad {s ks : List UInt8} {i : Nat} (h : Scanned s ks i) (hi : i + 1 < s.length) (hc : s[i]'(by omega) = 0) (hd : s[i + 1] ≠ 1) (he : s[i + 1] ≠ 255) : scan s = none := by
  unfold Scanned at *
  rw [h, List.drop_eq_getElem_cons (by omega : i < s.length), List.drop_eq_getElem_cons hi, hc]
  simp [scan, hd, he]

theorem Scanned.short {s ks : List UInt8} {i : Nat} (h : Scanned s ks i) (hi : s.length ≤ i + 1) : scan s = none := by
  unfold Scanned at *
  rw [h]
  have hl : (s.drop i).length ≤ 1 := by rw [List.length_drop]; omega
  generalize s.drop i = t at *
  match t, hl with
  | [], _ => simp [scan]
  | [_], _ => simp [scan]

theorem outerS_stop {s ks rest : List UInt8} (h : scan s = some (ks, rest)) :
    outerS s = if rest.length = 9 ∧ (rest.getD 8 0).toNat ≤ 1 then some (ks, revOf (rest.take 8) 0, rest.getD 8 0 == 0) else none := by
  unfold outerS; rw [h]

theorem ref_step (r c i : Nat) (hr : r < 256 ^ i) (hi : i < 8) (hc : c < 256) : IntKind.u64.wrap ((r : Int) * 256) = (r : Int) * 256 ∧ IntKind.u64.wrap ((r : Int) * 256 + (255 - (c : Int))) = ((r * 256 + (255 - c) : Nat) : Int) ∧ IntKind.u64.wrap (255 - (c : Int)) = 255 - (c : Int) := by
  have hp : 256 ^ i ≤ 256 ^ 7 := Nat.pow_le_pow_right (by decide) (by omega)
  refine ⟨?_, ?_, ?_⟩ <;> rw [IntKind.wrap_u64] <;> omega

theorem outerS_none {s : List UInt8} (h : scan s = none) : outerS s = none := by unfold outerS; rw [h]

theorem u8_ne {c d : UInt8} {n : Int} (hn : ((d.toNat : Nat) : Int) = n) (h : c ≠ d) : ((c.toNat : Int) == n) = false := by
  rw [beq_eq_false_iff_ne, ← hn]
  intro e
  exact h (UInt8.toNat_inj.1 (by omega))
theorem u8_eq {c d : UInt8} {n : Int} (hn : ((d.toNat : Nat) : Int) = n) (h : c = d) : ((c.toNat : Int) == n) = true := by
  rw [h, hn]; simp

set_option maxRecDepth 100000 in
set_option maxHeartbeats 16000000 in
theorem refOuter_any (s : ByteArray) (w : World) (hs : s.size ≤ 10000000) :
    Calls Tryz.prog 64 #[.string s] w (RetO (outerS s.data.toList) w) := by
  have hB0 := Blk.made w #[Value.string ⟨#[]⟩, Value.int IntKind.u64 0, Value.bool false] 53
  generalize hw1 : w.alloc (.cells #[Value.string ⟨#[]⟩, Value.int IntKind.u64 0, Value.bool false] 53) = w1 at hB0
  have hb01 : Below w.heap.size w w1 := by rw [← hw1]; exact (Below.refl _ _).alloc (Nat.le_refl _) _
  have hs1' : w.heap.size + 1 ≤ w1.heap.size := by rw [← hw1]; simp
  go_enter Tryz.func64, Tryz.ntmps64
  go_wp2
  clear hw1
  have hsz := size_data s
  have HZ := Lib.hid hsz
  clear hsz
  go_loopw [4, 5] (fun vv ii wr => ∃ (i : Nat) (ks : List UInt8), i ≤ s.size ∧ ks.length ≤ i ∧ ii = .int .i64 i ∧ Scanned s.data.toList ks i ∧ App wr (w.heap.size + 1) 5 1 vv (bc ks) ∧ Below (w.heap.size + 1) w1 wr) (fun _ ii _ => s.size - (intOf ii).toNat)
  case atStart => exact ⟨0, [], by omega, by simp, rfl, by simp [Scanned], App.nil _ _ _ _, Below.refl _ _⟩
  case round =>
    obtain ⟨i, ks, hi, hkl, rfl, hsc, happ, hbel⟩ := hrel
    have hB := hB0.same (Same.below hbel) (show w.heap.size < w.heap.size + 1 by omega)
    have hc := hB.cells
    have hf := hB.free
    have hbs : w.heap.size + 1 ≤ wr.heap.size := Nat.le_trans hs1' hbel.size
    have hb0 : Below w.heap.size w wr := hb01.trans (hbel.mono (by omega))
    have hbl := bc_length ks
    by_cases hlt : i + 1 < s.size
    · have hil : i + 1 < s.data.toList.length := by rw [HZ.out]; exact hlt
      by_cases h0 : (s[i]'(by omega)) = 0
      · have h0b := u8_eq (n := 0) rfl h0
        have h0b' : (((s[i]'(by omega)).toNat : Int) != 0) = false := by rw [h0]; rfl
        by_cases h1 : s[i + 1] = 1
        · have h1b := u8_eq (n := 1) rfl h1
          have HS := Lib.hid (hsc.stop hil h0 h1)
          have HA := Lib.hid happ
          clear h0 h1 happ
          have hrd : (s.extract (i + 2) s.size).data.toList = s.data.toList.drop (i + 2) := Lib.extract_to_end s _
          have hrz : (s.extract (i + 2) s.size).size = s.size - (i + 2) := by rw [ByteArray.size_extract]; omega
          have HRD := Lib.hid hrd
          have HRZ := Lib.hid hrz
          clear hrd hrz
          by_cases h9 : s.size - (i + 2) = 9
          · have h9b : ((s.size - (i + 2) : Nat) : Int) = 9 := by omega
            have hb8 : ∀ h8 : 8 < (s.extract (i + 2) s.size).size, (s.data.toList.drop (i + 2)).getD 8 0 = (s.extract (i + 2) s.size)[8]'h8 := fun h8 => by
              rw [← HRD.out, List.getD, List.getElem?_eq_getElem (by rw [size_data]; exact h8)]; rfl
            have h8 : 8 < (s.extract (i + 2) s.size).size := by rw [HRZ.out]; omega
            have HB8 := Lib.hid (hb8 h8)
            clear hb8
            have hdl : (s.data.toList.drop (i + 2)).length = 9 := by rw [List.length_drop, HZ.out]; omega
            have HDL := Lib.hid hdl
            clear hdl
            by_cases hle : ((s.extract (i + 2) s.size)[8]'h8).toNat ≤ 1
            · have hle' : (((s.extract (i + 2) s.size)[8]'h8).toNat : Int) ≤ 1 := by omega
              have HF := Lib.hid (outerS_stop HS.out)
              have hlow : s.size = i + 11 := by omega
              have HLOW := Lib.hid hlow
              clear hlow h9
              go_wp2_with fail
              go_loop [7, 8] (fun vv kk => ∃ k : Nat, k ≤ 8 ∧ kk = .int .i64 k ∧ vv = .int .u64 (revOf ((s.data.toList.drop (i + 2)).take k) 0 : Nat)) (fun _ kk => 8 - (intOf kk).toNat)
              case atStart => exact ⟨0, by omega, rfl, rfl⟩
              case round =>
                obtain ⟨k, hk, rfl, rfl⟩ := hrel
                by_cases hk8 : k < 8
                · have hkr : k < (s.extract (i + 2) s.size).size := by omega
                  have hsn := revOf_snoc (s.data.toList.drop (i + 2)) k (by rw [HDL.out]; omega)
                  have hei : (s.data.toList.drop (i + 2))[k]'(by rw [HDL.out]; omega) = (s.extract (i + 2) s.size)[k]'hkr := by
                    have := HRD.out
                    simp only [← this]
                    rfl
                  rw [hei] at hsn
                  have hlt := revOf_lt ((s.data.toList.drop (i + 2)).take k) 0 0 (by decide)
                  rw [List.length_take, HDL.out, Nat.zero_add, Nat.min_eq_left (by omega)] at hlt
                  have hst := ref_step (revOf ((s.data.toList.drop (i + 2)).take k) 0) ((s.extract (i + 2) s.size)[k]'hkr).toNat k hlt hk8 ((s.extract (i + 2) s.size)[k]'hkr).toNat_lt
                  have HSN := Lib.hid hsn
                  have hcl := ((s.extract (i + 2) s.size)[k]'hkr).toNat_lt
                  clear hsn hei hlt
                  generalize revOf ((s.data.toList.drop (i + 2)).take k) 0 = r at *
                  obtain ⟨hst1, hst2, hst3⟩ := hst
                  go_wp2
                  go_round
                  case rel => exact ⟨k + 1, by omega, by go_num, congrArg (Value.int .u64) (by rw [HSN.out]; omega)⟩
                  case measure => simp [intOf]; omega
                · obtain rfl : k = 8 := by omega
                  have hcv := fun v (h : App wr (w.heap.size + 1) 5 1 v (bc ks)) => str_sl (w := wr.drew) (h.sl.same (w' := wr.drew) (fun _ _ => rfl))
                  have hcv := hcv _ HA.out
                  go_wp2_with fail
                  go_region
                  all_goals go_wp2_with fail
                  all_goals refine bodyPost_ret (v := outV (some (ks, revOf ((s.data.toList.drop (i + 2)).take 8) 0, (s.extract (i + 2) s.size)[8]'h8 == 0))) (by simp [results, Tryz.results64, go_sem, hc, outV, entV]; exact u8_zero _) rfl ⟨by rw [HF.out, if_pos ⟨HDL.out, by rw [HB8.out]; exact hle⟩, HB8.out], ?_⟩
                  all_goals repeat (first | exact hb0 | apply Below.drew | apply setAt)
            · have hle' : (1 : Int) < (((s.extract (i + 2) s.size)[8]'h8).toNat : Int) := by omega
              have HF := Lib.hid (outerS_stop HS.out)
              go_wp2_with fail
              refine bodyPost_ret (v := outV none) (by simp [results, Tryz.results64, go_sem, hc, outV, entV]; rfl) rfl ⟨by rw [HF.out, if_neg (fun h => hle (by rw [← HB8.out]; exact h.2))], ?_⟩
              repeat (first | exact hb0 | apply Below.drew | apply setAt)
          · have h9b : ¬ ((s.size - (i + 2) : Nat) : Int) = 9 := by omega
            have HF := Lib.hid (outerS_stop HS.out)
            have H9 := Lib.hid h9
            clear h9
            go_wp2_with fail
            refine bodyPost_ret (v := outV none) (by simp [results, Tryz.results64, go_sem, hc, outV, entV]; rfl) rfl ⟨by rw [HF.out, if_neg (fun h => H9.out (by have := h.1; rw [List.length_drop, HZ.out] at this; exact this))], ?_⟩
            repeat (first | exact hb0 | apply Below.drew | apply setAt)
        · have h1b := u8_ne (n := 1) rfl h1
          by_cases h2 : s[i + 1] = 255
          · have h2b : ((s[i + 1].toNat : Int) != 255) = false := by rw [h2]; rfl
            have HS := Lib.hid (hsc.zero hil h0 h2)
            clear h0 h1 h2 hc hf
            go_wp2_with (at_builtin; refine wpList_app_lit bytesT rfl (.tmp 38) (.tmp 39) rfl rfl happ rfl rfl (by simp [Value.oneCell']) (by simp; omega) (by simp; omega) hbs ?_; intro v2 w2 happ2 hb2 _)
            go_roundw
            case rel => exact ⟨i + 2, ks ++ [0], by omega, by simp; omega, by go_num, HS.out, by simpa [bc] using happ2, hbel.trans hb2⟩
            case measure => simp [intOf]; omega
          · have h2b : ((s[i + 1].toNat : Int) != 255) = true := by simpa [bne] using u8_ne (n := 255) rfl h2
            have HS := Lib.hid (outerS_none (hsc.bad hil h0 h1 h2))
            clear h0 h1 h2
            go_wp2_with fail
            refine bodyPost_ret (v := outV none) (by simp [results, Tryz.results64, go_sem, hc, outV, entV]; rfl) rfl ⟨by rw [HS.out], ?_⟩
            repeat (first | exact hb0 | apply Below.drew | apply setAt)
      · have h0b : (((s[i]'(by omega)).toNat : Int) != 0) = true := by simpa [bne] using u8_ne (n := 0) rfl h0
        have HS := Lib.hid (hsc.plain hil h0)
        clear h0 hc hf
        go_wp2_with (at_builtin; refine wpList_app_lit bytesT rfl (.tmp 19) (.tmp 23) rfl rfl happ rfl rfl (by simp [Value.oneCell']) (by simp; omega) (by simp; omega) hbs ?_; intro v2 w2 happ2 hb2 _)
        go_roundw
        case rel => exact ⟨i + 1, ks ++ [s[i]'(by omega)], by omega, by simp; omega, by go_num, HS.out, by simpa [bc] using happ2, hbel.trans hb2⟩
        case measure => simp [intOf]; omega
    · have HS := Lib.hid (outerS_none (hsc.short (by rw [HZ.out]; omega)))
      go_wp2_with fail
      refine bodyPost_ret (v := outV none) (by simp [results, Tryz.results64, go_sem, hc, outV, entV]; rfl) rfl ⟨by rw [HS.out], ?_⟩
      repeat (first | exact hb0 | apply Below.drew | apply setAt)

end Go.Proofs.YtmmeofiocbfamaaGreatDoor
namespace Go.Proofs.YtmmeofiocbfamaaGreatDoor
open Go Go.RowKit

/-- Texts as cells. -/
def sc (l : List ByteArray) : List Value := l.map Value.string
@[simp] theorem sc_length (l : List ByteArray) : (sc l).length = l.length := by simp [sc]
theorem sc_append (a b : List ByteArray) : sc (a ++ b) = sc a ++ sc b := by simp [sc]
theorem sc_get (l : List ByteArray) (j : Nat) (h : j < l.length) : (sc l)[j]? = some (.string l[j]) := by simp [sc, h]

/-- An entry: its Key, its Rev, whether it is Del. -/
abbrev Ent := ByteArray × Nat × Bool
def eC (x : Ent) : List Value := [.string x.1, .int .u64 x.2.1, .bool x.2.2]
/-- Entries as cells. -/
def ec (l : List Ent) : List Value := l.flatMap eC
theorem ec_append (a b : List Ent) : ec (a ++ b) = ec a ++ ec b := by simp [ec]
theorem ec_length : ∀ l : List Ent, (ec l).length = l.length * 3
  | [] => rfl
  | x :: l => by
    have := ec_length l
    simp only [ec, List.flatMap_cons, List.length_append, List.length_cons] at *
    rw [this]
    simp only [eC, List.length_cons, List.length_nil]
    omega
theorem ec_get : ∀ (l : List Ent) (i : Nat) (h : i < l.length), (ec l)[i * 3]? = some (.string l[i].1) ∧ (ec l)[i * 3 + 1]? = some (.int .u64 l[i].2.1) ∧ (ec l)[i * 3 + 2]? = some (.bool l[i].2.2)
  | x :: l, 0, _ => ⟨rfl, rfl, rfl⟩
  | x :: l, i + 1, h => by
    have ih := ec_get l i (by simpa using h)
    have e : ec (x :: l) = eC x ++ ec l := rfl
    have hl : (eC x).length = 3 := rfl
    rw [e, show (i + 1) * 3 = i * 3 + 3 from by omega]
    refine ⟨?_, ?_, ?_⟩
    · rw [List.getElem?_append_right (by omega), hl, Nat.add_sub_cancel]; exact ih.1
    · rw [List.getElem?_append_right (by omega), hl, show i * 3 + 3 + 1 - 3 = i * 3 + 1 from by omega]; exact ih.2.1
    · rw [List.getElem?_append_right (by omega), hl, show i * 3 + 3 + 2 - 3 = i * 3 + 2 from by omega]; exact ih.2.2

theorem strsT : ElemT Tryz.prog 22 9 1 16 := ElemT.mk' Tryz.underlying22 (show _ = some (some (.string ByteArray.empty), 1, 16) by kernel_rfl) rfl (by decide)
theorem entsT : ElemT Tryz.prog 29 53 3 32 := ElemT.mk' Tryz.underlying29 (show _ = some (some (.agg #[.string ByteArray.empty, .int .u64 0, .bool false]), 3, 32) by kernel_rfl) rfl (by decide)

theorem Sl.strs {S : Nat → Prop} {w : World} {v : Value} {l : List ByteArray} (h : Sl S w 1 v (sc l)) : ∃ ao c, v = .slice ao l.length c ∧ l.length ≤ c ∧ c ≤ 9223372036854775807 ∧
    (0 < l.length → ∃ b off, ao = some ⟨b, off, none⟩ ∧ S b ∧ ∀ j (hj : j < l.length), w.cell? ⟨b, off + j, none⟩ = some (.string l[j])) := by
  obtain ⟨ao, n, c, rfl, h1, h2, h3, h4, h5⟩ := h
  obtain rfl : n = l.length := by simpa using h1.symm
  refine ⟨ao, c, rfl, h2, by unfold maxLen at h3; omega, fun hl => ?_⟩
  obtain ⟨b, off, rfl, hb, hc⟩ := h5 (fun e => by have := congrArg List.length e; rw [sc_length, List.length_nil] at this; omega)
  exact ⟨b, off, rfl, hb, fun j hj => hc j _ (sc_get l j hj)⟩

theorem Sl.ents {S : Nat → Prop} {w : World} {v : Value} {l : List Ent} (h : Sl S w 3 v (ec l)) : ∃ ao c, v = .slice ao l.length c ∧ l.length ≤ c ∧ c ≤ 9223372036854775807 ∧
    (0 < l.length → ∃ b off, ao = some ⟨b, off, none⟩ ∧ S b ∧ ∀ j (hj : j < l.length), w.cell? ⟨b, off + j * 3, none⟩ = some (.string l[j].1) ∧ w.cell? ⟨b, off + j * 3 + 1, none⟩ = some (.int .u64 l[j].2.1) ∧ w.cell? ⟨b, off + j * 3 + 2, none⟩ = some (.bool l[j].2.2)) := by
  obtain ⟨ao, n, c, rfl, h1, h2, h3, h4, h5⟩ := h
  rw [ec_length] at h1
  obtain rfl : n = l.length := by omega
  refine ⟨ao, c, rfl, h2, by unfold maxLen at h3; omega, fun hl => ?_⟩
  obtain ⟨b, off, rfl, hb, hc⟩ := h5 (fun e => by have := congrArg List.length e; rw [ec_length, List.length_nil] at this; omega)
  refine ⟨b, off, rfl, hb, fun j hj => ?_⟩
  obtain ⟨g0, g1, g2⟩ := ec_get l j hj
  exact ⟨hc _ _ g0, hc _ _ g1, hc _ _ g2⟩

/-- What an inner key tells. -/
def deco (s : ByteArray) : Option Ent := (outerS s.data.toList).map fun x => (⟨x.1.toArray⟩, x.2.1, x.2.2)
theorem outV_deco (s : ByteArray) : outV (outerS s.data.toList) = match deco s with | some x => .tuple #[.agg #[.string x.1, .int .u64 x.2.1, .bool x.2.2], .int .i64 0] | none => .tuple #[.agg #[.string ByteArray.empty, .int .u64 0, .bool false], .int .i64 9] := by
  unfold deco
  cases outerS s.data.toList with
  | none => rfl
  | some x => obtain ⟨k, r, d⟩ := x; rfl

/-- Is a text less than another? -/
def ltS (a b : ByteArray) : Bool := Op.bytesLess a.toList b.toList

/-- A row rises. -/
def Rises (l : List ByteArray) : Prop := ∀ i (h : i + 1 < l.length), ltS l[i] l[i + 1] = true

open Classical in
/-- P18.1: is a row one of inner keys, in order? -/
noncomputable def codeOf (l : List ByteArray) : Nat := if ∃ k ∈ l, deco k = none then 9 else if Rises l then 0 else 11

end Go.Proofs.YtmmeofiocbfamaaGreatDoor
namespace Go.Proofs.YtmmeofiocbfamaaGreatDoor
open Go Go.RowKit

set_option maxRecDepth 100000 in
set_option maxHeartbeats 1000000 in
theorem clone8_any {S : Nat → Prop} (v : Value) (bs : List UInt8) (w : World) (hSw : ∀ b, S b → b < w.heap.size) (h : Sl S w 1 v (bc bs)) (hl : bs.length ≤ 1000000000) :
    Calls Tryz.prog 45 #[v] w fun e w' => ∃ v', e = .returned v' ∧ Sl (fun b => w.heap.size ≤ b ∧ b < w'.heap.size) w' 1 v' (bc bs) ∧ Ext w w' := by
  have HS := Lib.hid h
  have HL := Lib.hid hl
  obtain ⟨ao, c, rfl, hlc, hcm, hnil, -⟩ := Sl.bytes h
  clear h
  rcases ao with _ | ad
  · obtain rfl : c = 0 := hnil rfl
    obtain rfl : bs = [] := List.eq_nil_of_length_eq_zero (by omega)
    simp only [List.length_nil] at *
    have hq : ∀ W, (binOp BinOp.eql 24 (.slice none 0 0) (.slice none 0 0)).run Tryz.prog W = .ok (.bool true) W := fun _ => by kernel_rfl
    go_enter Tryz.func45, Tryz.ntmps45
    go_wp2_with fail
    go_ret
    exact ⟨_, rfl, Sl.nil _ _ _, Ext.refl _⟩
  · have hq : ∀ W, (binOp BinOp.eql 24 (.slice (some ad) bs.length c) (.slice none 0 0)).run Tryz.prog W = .ok (.bool false) W := fun _ => by kernel_rfl
    have HO := Lib.hid (Own.made w (Nat.le_refl _) 5 1)
    have HX := Lib.hid (Ext.alloc w (.cells #[] 5))
    have HS1 := Lib.hid (HS.out.same (w' := w.alloc (.cells #[] 5)) ((Same.below HX.out).mono hSw))
    go_enter Tryz.func45, Tryz.ntmps45
    go_wp2_with (at_builtin; go_must (refine wpList_own bytesT rfl (.tmp 5) (.tmp 6) rfl rfl HO.out rfl HS1.out (bc_one _) (by have := HL.out; rw [bc_length]; simp only [List.length_nil]; omega) (by have := HL.out; rw [bc_length]; simp only [List.length_nil]; omega) (by simp) ?_; intro v5 w5 hown5 hb5 _; have HF := Lib.hid (show Own w5 w.heap.size 5 1 v5 (bc bs) from by rw [List.nil_append] at hown5; exact hown5); have HX5 := Lib.hid (show Ext w w5 from Below.trans HX.out hb5); obtain ⟨ao5, n5, c5, rfl, -, -, -⟩ := hown5.sl.len; clear hown5 hb5))
    go_ret
    exact ⟨_, rfl, HF.out.sl, HX5.out⟩

theorem sc_len2 (l : List ByteArray) : (sc l).length = l.length := by unfold sc; rw [List.length_map]
theorem sc_one2 (l : List ByteArray) : ∀ u ∈ sc l, u.oneCell' = true := by
  intro u hu
  obtain ⟨x, _, rfl⟩ := List.mem_map.1 hu
  rfl
theorem Sl.strs0 {S : Nat → Prop} {w : World} {v : Value} {bs : List ByteArray} (h : Sl S w 1 v (sc bs)) : ∃ ao c, v = .slice ao bs.length c ∧ bs.length ≤ c ∧ c ≤ 9223372036854775807 ∧ (ao = none → c = 0) ∧
    (0 < bs.length → ∃ b off, ao = some ⟨b, off, none⟩ ∧ S b ∧ ∀ j (hj : j < bs.length), w.cell? ⟨b, off + j, none⟩ = some (.string bs[j])) := by
  obtain ⟨ao, n, c, rfl, hn, hnc, hc, hnone, hcell⟩ := h
  rw [sc_len2] at hn
  obtain rfl : n = bs.length := by omega
  refine ⟨ao, c, rfl, hnc, by have e : maxLen = 9223372036854775807 := rfl; omega, hnone, fun h0 => ?_⟩
  obtain ⟨b, off, rfl, hb, hcc⟩ := hcell (by intro e; have := congrArg List.length e; rw [sc_len2, List.length_nil] at this; omega)
  exact ⟨b, off, rfl, hb, fun j hj => hcc j _ (by simp [sc, hj])⟩

set_option maxRecDepth 100000 in
set_option maxHeartbeats 1000000 in
theorem cloneS_any {S : Nat → Prop} (v : Value) (bs : List ByteArray) (w : World) (hSw : ∀ b, S b → b < w.heap.size) (h : Sl S w 1 v (sc bs)) (hl : bs.length ≤ 1000000000) :
    Calls Tryz.prog 27 #[v] w fun e w' => ∃ v', e = .returned v' ∧ Sl (fun b => w.heap.size ≤ b ∧ b < w'.heap.size) w' 1 v' (sc bs) ∧ Ext w w' := by
  have HS := Lib.hid h
  have HL := Lib.hid hl
  obtain ⟨ao, c, rfl, hlc, hcm, hnil, -⟩ := Sl.strs0 h
  clear h
  rcases ao with _ | ad
  · obtain rfl : c = 0 := hnil rfl
    obtain rfl : bs = [] := List.eq_nil_of_length_eq_zero (by omega)
    simp only [List.length_nil] at *
    have hq : ∀ W, (binOp BinOp.eql 22 (.slice none 0 0) (.slice none 0 0)).run Tryz.prog W = .ok (.bool true) W := fun _ => by kernel_rfl
    go_enter Tryz.func27, Tryz.ntmps27
    go_wp2_with fail
    go_ret
    exact ⟨_, rfl, Sl.nil _ _ _, Ext.refl _⟩
  · have hq : ∀ W, (binOp BinOp.eql 22 (.slice (some ad) bs.length c) (.slice none 0 0)).run Tryz.prog W = .ok (.bool false) W := fun _ => by kernel_rfl
    have HO := Lib.hid (Own.made w (Nat.le_refl _) 9 1)
    have HX := Lib.hid (Ext.alloc w (.cells #[] 9))
    have HS1 := Lib.hid (HS.out.same (w' := w.alloc (.cells #[] 9)) ((Same.below HX.out).mono hSw))
    go_enter Tryz.func27, Tryz.ntmps27
    go_wp2_with (at_builtin; go_must (refine wpList_own strsT rfl (.tmp 5) (.tmp 6) rfl rfl HO.out rfl HS1.out (sc_one2 _) (by have := HL.out; rw [sc_len2]; simp only [List.length_nil]; omega) (by have := HL.out; rw [sc_len2]; simp only [List.length_nil]; omega) (by simp) ?_; intro v5 w5 hown5 hb5 _; have HF := Lib.hid (show Own w5 w.heap.size 9 1 v5 (sc bs) from by rw [List.nil_append] at hown5; exact hown5); have HX5 := Lib.hid (show Ext w w5 from Below.trans HX.out hb5); obtain ⟨ao5, n5, c5, rfl, -, -, -⟩ := hown5.sl.len; clear hown5 hb5))
    go_ret
    exact ⟨_, rfl, HF.out.sl, HX5.out⟩

end Go.Proofs.YtmmeofiocbfamaaGreatDoor
