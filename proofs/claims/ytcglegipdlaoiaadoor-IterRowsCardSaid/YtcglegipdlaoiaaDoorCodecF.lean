/- The walk of codec.Outer: the entry of an inner key. No condition: lemmas. -/
import Derived.Test.YtcglegipdlaoiaaDoorCodecE
import Derived.Test.YtcglegipdlaoiaaDoorGround
import Derived.Test.YtcglegipdlaoiaaDoorPlainOuter
namespace Go.Proofs.YtcglegipdlaoiaaDoor
open Go Go.RowKit

/-- An Outer's answer: the entry and no error, or no entry and an error. -/
def outV : Option (List UInt8 × Nat × Bool) → Value
  | some (k, r, d) => .tuple #[entV ⟨k.toArray⟩ r d, .int .i64 0]
  | none => .tuple #[entV ByteArray.empty 0 false, .int .i64 9]

theorem u8_flip (c : Nat) (h : c < 256) : bits BinOp.xor IntKind.u8 IntKind.u8.max (c : Int) = ((255 - c : Nat) : Int) := by
  rw [show IntKind.u8.max = ((255 : Nat) : Int) from rfl, u8_xor_nat 255 c (by decide) h]
  congr 1
  have e : (255 : Nat) ^^^ c = (BitVec.allOnes 8 ^^^ BitVec.ofNat 8 c).toNat := by
    rw [BitVec.toNat_xor, BitVec.toNat_allOnes, BitVec.toNat_ofNat, Nat.mod_eq_of_lt (by omega)]
  rw [e, BitVec.allOnes_xor, BitVec.toNat_not, BitVec.toNat_ofNat, Nat.mod_eq_of_lt (by omega)]

theorem rev_step (r c i : Nat) (hr : r < 256 ^ i) (hi : i < 8) (hc : c < 256) :
    bits BinOp.or IntKind.u64 (IntKind.u64.wrap ((r : Int) * 256)) (IntKind.u64.wrap (bits BinOp.xor IntKind.u8 IntKind.u8.max (c : Int))) = ((r * 256 + (255 - c) : Nat) : Int) := by
  have hp : 256 ^ i ≤ 256 ^ 7 := Nat.pow_le_pow_right (by decide) (by omega)
  have e1 : IntKind.u64.wrap ((r : Int) * 256) = ((r * 256 : Nat) : Int) := by rw [IntKind.wrap_u64]; omega
  have e2 : IntKind.u64.wrap ((255 - c : Nat) : Int) = ((255 - c : Nat) : Int) := by rw [IntKind.wrap_u64]; omega
  rw [u8_flip c hc, e1, e2, u64_or_nat _ _ (by omega) (by omega), nat_join 8 (r * 256) (255 - c) (by omega) (by omega)]

theorem revOf_snoc (b : List UInt8) (i : Nat) (hi : i < b.length) : revOf (b.take (i + 1)) 0 = revOf (b.take i) 0 * 256 + (255 - b[i].toNat) := by
  rw [List.take_succ_eq_append_getElem hi, revOf, List.foldl_append]
  rfl

theorem revOf_lt (b : List UInt8) : ∀ r n, r < 256 ^ n → revOf b r < 256 ^ (n + b.length) := by
  induction b with
  | nil => intro r n h; simpa [revOf] using h
  | cons c b ih =>
    intro r n h
    have := ih (r * 256 + (255 - c.toNat)) (n + 1) (by rw [Nat.pow_succ]; omega)
    rw [List.length_cons, show n + (b.length + 1) = n + 1 + b.length from by omega]
    exact this

theorem trimSuffix_length (p x : List UInt8) : (Lib.trimSuffix p x).length ≤ p.length := by
  unfold Lib.trimSuffix
  split
  · rw [List.length_take]; omega
  · omega

theorem u8_zero (c : UInt8) : ((c.toNat : Int) == 0) = (c == 0) := by
  rw [Bool.eq_iff_iff]
  simp [← UInt8.toNat_inj]

/-- It returns an Outer's answer; nothing that was there has turned. -/
def RetO (o : Option (List UInt8 × Nat × Bool)) (w : World) (e : Ending) (w' : World) : Prop := e = .returned (outV o) ∧ Below w.heap.size w w'

set_option maxRecDepth 100000 in
set_option maxHeartbeats 1600000 in
theorem outer_any (s : ByteArray) (w : World) (henv : Env w) (hs : s.size ≤ 100000000) :
    Calls Tryd.prog 29 #[.string s] w (RetO (outerS s.data.toList) w) := by
  by_cases h11 : 11 ≤ s.size
  · have hcode := outer_code s.data.toList (by rw [size_data]; exact h11)
    rw [size_data] at hcode
    have hb9s : (s.extract (s.size - 9) s.size).size = 9 := by rw [ByteArray.size_extract]; omega
    have hps : (s.extract 0 (s.size - 9)).size ≤ 100000000 := by rw [ByteArray.size_extract]; omega
    have hbd : (s.extract (s.size - 9) s.size).data.toList = s.data.toList.drop (s.size - 9) := Lib.extract_to_end s _
    have hpd : (s.extract 0 (s.size - 9)).data.toList = s.data.toList.take (s.size - 9) := by rw [Lib.extract_data]; simp
    rw [← hbd, ← hpd] at hcode
    have HC := Lib.hid hcode
    clear hcode hbd hpd
    go_enter Tryd.func29, Tryd.ntmps29
    go_wp2_with fail
    go_region
    go_wp2_with fail
    generalize s.extract (s.size - 9) s.size = b9 at *
    generalize s.extract 0 (s.size - 9) = p at *
    refine (Tryd.strings_CutSuffix p ⟨#[0, 1]⟩ _ (by omega)).mono ?_
    rintro e w1 ⟨rfl, rfl⟩
    have hpl : p.data.toList.length ≤ 100000000 := by rw [size_data]; exact hps
    have hkl := trimSuffix_length p.data.toList [0, 1]
    have HC2 := HC.out
    clear HC
    generalize Lib.trimSuffix p.data.toList [0, 1] = k at *
    generalize Lib.hasSuffix p.data.toList [0, 1] = ok at *
    have hkz : (⟨k.toArray⟩ : ByteArray).size = k.length := rfl
    have HC := Lib.hid HC2
    clear HC2
    go_wp2_with fail
    have hb0 : Below w.heap.size w (w.alloc (Obj.cells #[Value.string ⟨#[]⟩, Value.int IntKind.u64 0, Value.bool false] 29)).drew := ((Below.refl _ _).alloc (Nat.le_refl _) _).drew
    refine (unesc_call _ _ (henv.below hb0) (by omega)).mono ?_
    rintro e w2 ⟨rfl, hb2⟩
    have hB2 : Blk w2 w.heap.size #[Value.string ⟨#[]⟩, Value.int IntKind.u64 0, Value.bool false] 29 := (Blk.made w _ _).drew.below hb2
    have hb02 : Below w.heap.size w w2 := hb0.trans (hb2.mono (by simp))
    have huz := unesc_length k
    cases ok
    · have hc := hB2.cells
      have hf := hB2.free
      go_wp2_with fail
      refine bodyPost_ret (v := outV none) (by simp [results, Tryd.results29, go_sem, hc, outV, entV]; rfl) rfl ⟨by rw [HC.out]; simp, ?_⟩
      repeat (first | exact hb02 | apply Below.drew | apply setAt)
    · go_wp2_with fail
      refine (esc_call _ _ ((henv.below hb02)) (by show (unesc k).length ≤ 1000000000; omega)).mono ?_
      rintro e w3 ⟨rfl, hb3⟩
      have hB3 := hB2.below hb3
      have hb03 : Below w.heap.size w w3 := hb02.trans (hb3.mono hb02.size)
      have hc := hB3.cells
      have hf := hB3.free
      by_cases hx : esc (unesc k) = k
      · have hxb : (esc (unesc k) == k) = true := by rw [hx]; simp
        have hb8 : b9.data.toList.getD 8 0 = b9[8]'(by omega) := by
          rw [List.getD, List.getElem?_eq_getElem (by rw [size_data]; omega)]; rfl
        have HX := Lib.hid hx
        clear hx
        by_cases h9 : (b9[8]'(by omega)).toNat ≤ 1
        · have h9i : ((b9[8]'(by omega)).toNat : Int) ≤ 1 := by omega
          have hbl : b9.data.toList.length = 9 := by rw [size_data]; exact hb9s
          have hbi : ∀ (i : Nat) (h : i < b9.size), b9.data.toList[i]'(by rw [size_data]; exact h) = b9[i] := fun i h => rfl
          have HBL := Lib.hid hbl
          have HBI := Lib.hid hbi
          have HB8 := Lib.hid hb8
          clear hbl hbi hb8
          go_wp2_with fail
          go_loop [8, 9, 45] (fun vv _ ii => ∃ i : Nat, i ≤ 8 ∧ ii = .int .i64 i ∧ vv = .int .u64 (revOf (b9.data.toList.take i) 0 : Nat)) (fun _ _ ii => 8 - (intOf ii).toNat)
          case atStart => exact ⟨0, by omega, rfl, rfl⟩
          case round =>
            obtain ⟨i, hi, rfl, rfl⟩ := hrel
            by_cases hlt : i < 8
            · have hib : i < b9.size := by omega
              have hst := rev_step (revOf (b9.data.toList.take i) 0) (b9[i]'hib).toNat i (by have := revOf_lt (b9.data.toList.take i) 0 0 (by decide); rw [List.length_take, HBL.out, Nat.zero_add] at this; rwa [Nat.min_eq_left (by omega)] at this) hlt (b9[i]'hib).toNat_lt
              have HST := Lib.hid hst
              have hsn := revOf_snoc b9.data.toList i (by rw [HBL.out]; omega)
              have HSN := Lib.hid hsn
              clear hst hsn
              generalize revOf (b9.data.toList.take i) 0 = r at *
              go_wp2
              go_round
              case rel => exact ⟨i + 1, by omega, by go_num, congrArg (Value.int .u64) (by rw [HSN.out, HBI.out i hib]; exact HST.out)⟩
              case measure => simp [intOf]; omega
            · obtain rfl : i = 8 := by omega
              go_wp2
              refine bodyPost_ret (v := outV (some (unesc k, revOf (b9.data.toList.take 8) 0, b9[8]'(by omega) == 0))) (by simp [results, Tryd.results29, go_sem, hc, outV, entV]; exact u8_zero _) rfl ⟨by rw [HC.out, if_pos ⟨trivial, HX.out, by rw [HB8.out]; exact h9⟩, HB8.out], ?_⟩
              repeat (first | exact hb03 | apply Below.drew | apply setAt)
        · have h9i : (1 : Int) < ((b9[8]'(by omega)).toNat : Int) := by omega
          go_wp2_with fail
          refine bodyPost_ret (v := outV none) (by simp [results, Tryd.results29, go_sem, hc, outV, entV]; rfl) rfl ⟨by rw [HC.out, if_neg (by rw [hb8]; omega)], ?_⟩
          repeat (first | exact hb03 | apply Below.drew | apply setAt)
      · have hxb : (esc (unesc k) == k) = false := by simpa using hx
        have HX := Lib.hid hx
        clear hx
        go_wp2_with fail
        refine bodyPost_ret (v := outV none) (by simp [results, Tryd.results29, go_sem, hc, outV, entV]; rfl) rfl ⟨by rw [HC.out, if_neg (fun h => HX.out h.2.1)], ?_⟩
        repeat (first | exact hb03 | apply Below.drew | apply setAt)
  · have h11i : (s.size : Int) < 11 := by omega
    go_enter Tryd.func29, Tryd.ntmps29
    go_wp2_with fail
    refine bodyPost_ret (v := outV none) (by simp [results, Tryd.results29, go_sem, outV, entV]; rfl) rfl ⟨by rw [outer_short _ (by rw [size_data]; omega)], ?_⟩
    repeat (first | exact (Below.refl _ _).alloc (Nat.le_refl _) _ | apply Below.drew | apply setAt)

end Go.Proofs.YtcglegipdlaoiaaDoor
