/- table's Open, joined; entries among the arguments, with their sizes. A byte argument is opened. A literal row is the call's own. The document's frame: Sum, four, Seal. The document's frame: Seal. The document's Put and PutText leave an own row. The document's block: four, Common. No condition: lemmas. -/
import Derived.Test.YtmmeofiocbfamaaGreatDoorZ24
import Derived.Test.YtmmeofiocbfamaaGreatDoorZ29
import Derived.Test.YtmmeofiocbfamaaGreatDoorZ30
import Derived.Test.YtmmeofiocbfamaaGreatDoorZ1
import Derived.Test.YtmmeofiocbfamaaGreatDoorZ23
namespace Go.Proofs.YtmmeofiocbfamaaGreatDoor
open Go Go.RowKit Go.ChangeShapes Go.WideShapes Go.ChangeAt

set_option maxRecDepth 100000 in
theorem open_table : OpenLaw := fun v bs w h hl => open_raw read_any v bs w h hl

section
variable {H : Type} {enc : TypeId × Value → H} {W : World} {base : Nat} {v : Value} {d : DataW H} {ps : List MemPlace}
set_option maxRecDepth 100000 in
theorem open_entzV (hok : Value.okWide Tryz.prog W .any base 29 v) (h : DataW.Trod enc Tryz.prog W 0 (fun _ => true) true 29 v d ps) (hw : ∀ n ∈ d.weights Tryz.prog 29, n ≤ reachBytes) :
    ∃ l : List Ent, Sl (· < W.heap.size) W 3 v (ec l) ∧ l.length ≤ 4398046511104 ∧ ∀ x ∈ l, U64 x.2.1 := by
  obtain ⟨a, len, cap, rfl⟩ := okWide_slice Tryz.underlying29 hok
  obtain ⟨fuel, hy⟩ := h
  have hy' : DataW.trod enc Tryz.prog W 0 (fun _ => true) true fuel 29 [.slice a len cap] = some (d, ps) := by simpa [Value.cells] using hy
  obtain ⟨⟨u, l⟩, hc, h1, h2, h3⟩ := open_rowE_cells hy'
  cases hc
  refine ⟨l, h1, ?_, h2⟩
  rcases h3 with h3 | ⟨els, rst, hd, h3⟩
  · dsimp only at h3; rw [h3]; simp
  · have hb : Tryz.prog.bytesOf 53 = 32 := by kernel_rfl
    dsimp only at hd h3
    subst hd
    have := hw ((els.length + rst.length) * 32) (by
      rw [DataW.weights, Tryz.underlying29]
      simp [hb])
    have := reachBytes_lt
    omega
end

end Go.Proofs.YtmmeofiocbfamaaGreatDoor
namespace Go.Proofs.YtmmeofiocbfamaaGreatDoor
open Go Go.RowKit Go.ChangeShapes Go.WideShapes Go.ChangeAt

section
variable {H : Type} {enc : TypeId × Value → H} {W : World} {base : Nat} {v : Value} {d : DataW H} {ps : List MemPlace}
set_option maxRecDepth 100000 in
theorem open_u8V (hok : Value.okWide Tryz.prog W .any base 5 v) (h : DataW.Trod enc Tryz.prog W 0 (fun _ => true) true 5 v d ps) : ∃ q : Nat, v = .int .u8 q ∧ q < 256 := by
  obtain ⟨x, rfl, _, _, wx⟩ := open_int Tryz.underlying5 hok h
  have hb := bounds_u8 wx
  exact ⟨x.toNat, by congr 1; omega, by omega⟩
end

end Go.Proofs.YtmmeofiocbfamaaGreatDoor
namespace Go.Proofs.YtmmeofiocbfamaaGreatDoor
open Go Go.RowKit

theorem Own.lit (w : World) {B : Nat} (hB : B ≤ w.heap.size) (e : TypeId) (sz n : Nat) (cs : Array Value) (hn : cs.size = n * sz) (hm : n ≤ maxLen) (h0 : n ≠ 0) : Own (w.alloc (.cells cs e)) B e sz (.slice (some ⟨w.heap.size, 0, none⟩) n n) cs.toList := by
  refine ⟨n, by simpa using hn, .inr ⟨w.heap.size, n, cs, rfl, hB, heap_alloc_new w _, Nat.le_refl _, hm, hn, ?_⟩⟩
  rw [← hn]
  exact List.take_of_length_le (by simp)

end Go.Proofs.YtmmeofiocbfamaaGreatDoor
namespace Go.Proofs.YtmmeofiocbfamaaGreatDoor
open Go Go.RowKit

theorem crcN_succ' (k a : Nat) : crcN (k + 1) a = crcN k (crcS a) := rfl

set_option maxRecDepth 100000 in
set_option maxHeartbeats 1000000 in
theorem sum3_any {S : Nat → Prop} (v : Value) (bs : List UInt8) (w : World) (h : Sl S w 1 v (bc bs)) :
    Calls Tryz.prog 68 #[v] w fun e w' => e = .returned (.int .u32 (sumB bs)) ∧ w' = w := by
  obtain ⟨ao, c, rfl, hlc, hcm, -, hcell⟩ := Sl.bytes h
  have HC := Lib.hid hcell
  clear hcell h
  go_enter Tryz.func68, Tryz.ntmps68
  go_wp2_with fail
  go_loopw [3, 10] (fun sv iv wr => ∃ i : Nat, i ≤ bs.length ∧ iv = .int .i64 i ∧ sv = .int .u32 (sumF 4294967295 (bs.take i)) ∧ wr = w) (fun _ iv _ => bs.length - (intOf iv).toNat)
  case atStart => exact ⟨0, by omega, rfl, rfl, rfl⟩
  case round =>
    obtain ⟨i, hi, rfl, rfl, rfl⟩ := hrel
    by_cases hlt : i < bs.length
    · obtain ⟨b, off, rfl, hb, hcc⟩ := HC.out (by omega)
      have d0 := hcc i hlt
      have HN := Lib.hid (sumF_snoc 4294967295 hlt)
      have hc256 := (bs[i]).toNat_lt
      have hs := sumF_lt (show 4294967295 < 2 ^ 32 by decide) (bs.take i)
      generalize bs[i].toNat = cn at *
      generalize sumF 4294967295 (bs.take i) = s at *
      have HX := Lib.hid (show s ^^^ cn < 2 ^ 32 from Nat.xor_lt_two_pow hs (by omega))
      have hxe : bits .xor .u32 (s : Int) (cn : Int) = ((s ^^^ cn : Nat) : Int) := u32_xor_nat s cn hs (by omega)
      have hwc : IntKind.u32.wrap (cn : Int) = (cn : Int) := by rw [IntKind.wrap_u32]; omega
      clear hcc
      generalize hxx : s ^^^ cn = x at *
      clear hxx hs
      go_wp2_with fail
      go_loopw [3, 6] (fun sv kv wq => ∃ k a : Nat, k ≤ 8 ∧ kv = .int .i64 k ∧ sv = .int .u32 a ∧ a < 2 ^ 32 ∧ crcN (8 - k) a = crcN 8 x ∧ wq = wr) (fun _ kv _ => 8 - (intOf kv).toNat)
      case atStart => exact ⟨0, x, by omega, rfl, rfl, HX.out, rfl, rfl⟩
      case round =>
        obtain ⟨k, a, hk, rfl, rfl, ha, hc, rfl⟩ := hrel
        have HCN := Lib.hid hc
        clear hc
        by_cases hlk : k < 8
        · have HST := Lib.hid (show crcN (8 - (k + 1)) (crcS a) = crcN 8 x from by rw [← HCN.out, show 8 - k = (8 - (k + 1)) + 1 from by omega]; rfl)
          have HLT := Lib.hid (crcS_lt ha)
          by_cases hodd : a % 2 = 1
          · have HV := Lib.hid (show bits .xor .u32 ((a : Int) / 2) 3988292384 = ((crcS a : Nat) : Int) from by
              have := u32_xor_nat (a / 2) 3988292384 (by omega) (by decide)
              unfold crcS
              rw [if_pos hodd]
              rw [show ((a : Int) / 2) = ((a / 2 : Nat) : Int) from by omega]
              exact this)
            have hoi : (a : Int) % 2 = 1 := by omega
            clear hodd
            go_wp2_with fail
            go_roundw
            case rel => exact ⟨k + 1, crcS a, by omega, by go_num, congrArg (Value.int .u32) HV.out, HLT.out, HST.out, trivial⟩
            case measure => simp [intOf]; omega
          · have HV := Lib.hid (show ((a : Int) / 2) = ((crcS a : Nat) : Int) from by unfold crcS; rw [if_neg hodd]; omega)
            have hoi : ((a : Int) % 2 == 1) = false := by simp; omega
            have hoi2 : ¬ ((a : Int) % 2 = 1) := by omega
            clear hodd
            go_wp2_with fail
            go_roundw
            case rel => exact ⟨k + 1, crcS a, by omega, by go_num, congrArg (Value.int .u32) HV.out, HLT.out, HST.out, trivial⟩
            case measure => simp [intOf]; omega
        · obtain rfl : k = 8 := by omega
          have HE := Lib.hid (show a = sumF 4294967295 (bs.take (i + 1)) from by rw [HN.out, ← HCN.out]; rfl)
          clear HCN
          go_wp2_with fail
          go_roundw
          case rel => exact ⟨i + 1, by omega, by go_num, by rw [← HE.out], trivial⟩
          case measure => simp [intOf]; omega
    · obtain rfl : i = bs.length := by omega
      rw [List.take_length]
      have HR := Lib.hid (show bits .xor .u32 ((sumF 4294967295 bs : Nat) : Int) 4294967295 = ((sumB bs : Nat) : Int) from u32_xor_nat (sumF 4294967295 bs) 4294967295 (sumF_lt (by decide) bs) (by decide))
      generalize sumF 4294967295 bs = s at *
      go_wp2_with fail
      go_ret
      exact ⟨congrArg (fun z => Ending.returned (Value.int .u32 z)) HR.out, rfl⟩

set_option maxRecDepth 100000 in
set_option maxHeartbeats 400000 in
theorem four3_any (n : Nat) (w : World) (h : n < 4294967296) :
    Calls Tryz.prog 67 #[.int .u32 n] w fun e w' => ∃ v, e = .returned v ∧ Own w' w.heap.size 5 1 v (bc (four n)) ∧ Ext w w' := by
  go_enter Tryz.func67, Tryz.ntmps67
  have HV := Lib.hid (show bc (four n) = [.int .u8 ((n : Int) / 16777216), .int .u8 ((n : Int) / 65536 % 256), .int .u8 ((n : Int) / 256 % 256), .int .u8 ((n : Int) % 256)] from by
    have e1 : (((UInt8.ofNat (n / 16777216)).toNat : Nat) : Int) = (n : Int) / 16777216 := by rw [UInt8.toNat_ofNat']; omega
    have e2 : (((UInt8.ofNat (n / 65536)).toNat : Nat) : Int) = (n : Int) / 65536 % 256 := by rw [UInt8.toNat_ofNat']; omega
    have e3 : (((UInt8.ofNat (n / 256)).toNat : Nat) : Int) = (n : Int) / 256 % 256 := by rw [UInt8.toNat_ofNat']; omega
    have e4 : (((UInt8.ofNat n).toNat : Nat) : Int) = (n : Int) % 256 := by rw [UInt8.toNat_ofNat']; omega
    unfold bc four
    simp only [List.map_cons, List.map_nil]
    rw [e1, e2, e3, e4])
  have hX := Own.lit w (Nat.le_refl _) 5 1 4 #[.int .u8 ((n : Int) / 16777216), .int .u8 ((n : Int) / 65536 % 256), .int .u8 ((n : Int) / 256 % 256), .int .u8 ((n : Int) % 256)] rfl (by decide) (by decide)
  have HX := Lib.hid (show Own (w.alloc (.cells #[.int .u8 ((n : Int) / 16777216), .int .u8 ((n : Int) / 65536 % 256), .int .u8 ((n : Int) / 256 % 256), .int .u8 ((n : Int) % 256)] 5)) w.heap.size 5 1 (.slice (some ⟨w.heap.size, 0, none⟩) 4 4) (bc (four n)) from by rw [HV.out]; exact hX)
  clear hX
  go_wp2_with fail
  go_ret
  exact ⟨_, rfl, HX.out, Ext.alloc _ _⟩

end Go.Proofs.YtmmeofiocbfamaaGreatDoor
namespace Go.Proofs.YtmmeofiocbfamaaGreatDoor
open Go Go.RowKit

set_option maxRecDepth 100000 in
set_option maxHeartbeats 1000000 in
theorem seal3_any (v : Value) (bs : List UInt8) (w : World) (h : Sl (· < w.heap.size) w 1 v (bc bs)) (hl : bs.length ≤ 4000000000) :
    Calls Tryz.prog 37 #[v] w fun e w' => ∃ v', e = .returned v' ∧ Own w' w.heap.size 5 1 v' (bc (sealB bs)) ∧ Ext w w' := by
  have HS := Lib.hid h
  have HL := Lib.hid hl
  have HP1 := Lib.hid (four3_any bs.length w (by omega))
  obtain ⟨ao, c, rfl, hlc, hcm, -, -⟩ := Sl.bytes h
  clear h
  have e1 : (bs.length : Int) % 4294967296 = (bs.length : Int) := by omega
  go_enter Tryz.func37, Tryz.ntmps37
  go_wp2_with fail
  refine HP1.out.mono ?_
  rintro e w1 ⟨v1, rfl, ho1, hb1⟩
  have HO1 := Lib.hid ho1
  have HX1 := Lib.hid (show Ext w w1 from hb1)
  have HSM := Lib.hid (sum3_any (S := (· < w.heap.size)) _ bs w1 (HS.out.same (Same.below hb1)))
  obtain ⟨ao1, n1, c1, rfl, -, -, -⟩ := ho1.sl.len
  clear ho1 hb1 HP1 e1
  go_wp2_with fail
  refine HSM.out.mono ?_
  rintro e w2 ⟨rfl, rfl⟩
  have HP2 := Lib.hid (four3_any (sumB bs) w2 (sumB_lt bs))
  clear HSM
  go_wp2_with fail
  refine HP2.out.mono ?_
  rintro e w3 ⟨v3, rfl, ho3, hb3⟩
  have HX3 := Lib.hid (show Ext w w3 from HX1.out.trans hb3)
  have HS3 := Lib.hid (HS.out.same (Same.below HX3.out))
  have HO3 := Lib.hid ho3
  have HO13 := Lib.hid (HO1.out.below hb3)
  obtain ⟨ao3, n3, c3, rfl, -, -, -⟩ := ho3.sl.len
  clear ho3 hb3 HP2
  go_wp2_with (at_builtin; first | (refine wpList_own bytesT rfl (.tmp 6) (.tmp 9) rfl rfl HO13.out rfl HO3.out.sl (bc_one _) (by rw [bc_length, bc_length]; simp [four_length]) (by rw [bc_length, bc_length]; simp [four_length]) HX3.out.size ?_; intro v4 w4 hown4 hb4 _; have HO4 := Lib.hid (show Own w4 w.heap.size 5 1 v4 (bc (four bs.length ++ four (sumB bs))) from by rw [← bc_append] at hown4; exact hown4); have HX4 := Lib.hid (show Ext w w4 from Below.trans HX3.out hb4); have HS4 := Lib.hid (HS.out.same (Same.below HX4.out)); obtain ⟨ao4, n4, c4, rfl, -, -, -⟩ := hown4.sl.len; clear hown4 hb4) | go_must (refine wpList_own bytesT rfl (.tmp 10) (.tmp 11) rfl rfl HO4.out rfl HS4.out (bc_one _) (by have := HL.out; rw [bc_length, bc_length]; simp [four_length]; omega) (by have := HL.out; rw [bc_length, bc_length]; simp [four_length]; omega) HX4.out.size ?_; intro v5 w5 hown5 hb5 _; have HF := Lib.hid (show Own w5 w.heap.size 5 1 v5 (bc (sealB bs)) from by rw [← bc_append] at hown5; unfold sealB; simpa using hown5); have HX5 := Lib.hid (show Ext w w5 from Below.trans HX4.out hb5); obtain ⟨ao5, n5, c5, rfl, -, -, -⟩ := hown5.sl.len; clear hown5 hb5))
  go_ret
  exact ⟨_, rfl, HF.out, HX5.out⟩

end Go.Proofs.YtmmeofiocbfamaaGreatDoor
namespace Go.Proofs.YtmmeofiocbfamaaGreatDoor
open Go Go.RowKit

set_option maxRecDepth 100000 in
set_option maxHeartbeats 400000 in
theorem refPutO_any (b : Value) (xs : List UInt8) (q : Nat) (w : World) (hb : Sl (· < w.heap.size) w 1 b (bc xs)) (hx : xs.length ≤ 8000000000) (hq : U64 q) :
    Calls Tryz.prog 35 #[b, .int .u64 q] w (fun e w' => ∃ v, e = .returned v ∧ Own w' w.heap.size 5 1 v (bc (xs ++ putB q)) ∧ Below w.heap.size w w') := by
  have hlen := hq.len
  have HX : Hid (bc (xs ++ putB q) = bc xs ++ bc (putB q)) := bc_append _ _
  have hone := bc_one xs
  have hxl := bc_length xs
  generalize bc xs = cs at *
  have hcn : cs.length ≤ 8000000000 := by omega
  have happ0 : App (w.alloc (.cells #[] 5)) w.heap.size 5 1 (.slice (some ⟨w.heap.size, 0, none⟩) 0 0) [] := .inr ⟨_, 0, rfl, rfl, Nat.zero_le _, (fun h => by cases h), fun h => absurd rfl h⟩
  have hb1 := hb.same (w' := w.alloc (.cells #[] 5)) (fun k hk => Below.heap_alloc w _ k hk)
  have HL := Lib.hid hxl
  clear hxl hb
  go_enter Tryz.func35, Tryz.ntmps35
  go_wp2_with (at_builtin; refine wpList_app bytesT rfl (.tmp 6) (.tmp 7) rfl rfl happ0 rfl hb1 hone (by simp; omega) (by simp; omega) (by simp) ?_; intro v1 w1 happ1 hbel1 _)
  have hbel1 : Below w.heap.size w w1 := ((Below.refl _ _).alloc (Nat.le_refl _) _).trans hbel1
  clear hb1 happ0 hone
  go_loopw [5, 1] (fun bb vv wr => ∃ (r : Nat) (ys : List Value), vv = .int .u64 r ∧ U64 r ∧ ys ++ bc (putB r) = cs ++ bc (putB q) ∧ App wr w.heap.size 5 1 bb ys ∧ Below w.heap.size w wr) (fun _ vv _ => (intOf vv).toNat)
  case atStart => exact ⟨q, cs, rfl, hq, rfl, happ1, hbel1⟩
  case round =>
    obtain ⟨r, ys, rfl, hu, hys, happ, hbel⟩ := hrel
    have hw : IntKind.u64.wrap ((r : Int) / 128) = (r : Int) / 128 := hu.wrapDiv 128
    have hyl : ys.length ≤ 8000000010 := by
      have := congrArg List.length hys
      simp only [List.length_append, bc_length] at this
      omega
    have HY := Lib.hid hys
    have hbs := hbel.size
    clear hys
    by_cases hr : r < 128
    all_goals
      go_wp2_with (first | (at_builtin; refine wpList_appO_lit bytesT rfl (.tmp 11) (.tmp 16) rfl rfl happ rfl rfl (by simp [Value.oneCell']) (by simp) (by simp; omega) (by simp; omega) hbs ?_; intro v1 w1 happ1 hb1 _) | (at_builtin; refine wpList_appO_lit bytesT rfl (.tmp 20) (.tmp 23) rfl rfl happ rfl rfl (by simp [Value.oneCell']) (by simp) (by simp; omega) (by simp; omega) hbs ?_; intro v1 w1 happ1 hb1 _))
    · go_ret
      rw [HX.out, ← HY.out, putB_small hr]
      rw [← ofNat_toNat r (by omega)] at happ1
      exact ⟨_, rfl, by rw [show bc [UInt8.ofNat r] = [Value.int .u8 ((UInt8.ofNat r).toNat : Int)] from rfl]; exact happ1, hbel.trans hb1⟩
    · go_roundw
      case rel =>
        rw [show ((r : Int) % 128 + 128) = ((r % 128 + 128 : Nat) : Int) from by omega, ← ofNat_toNat (r % 128 + 128) (by omega)] at happ1
        exact ⟨r / 128, _, by go_num, hu.div 128, by rw [← HY.out, bc_putB_big (show 128 ≤ r by omega), List.append_assoc]; rfl, Own.app happ1, hbel.trans hb1⟩
      case measure => simp [intOf]; omega

set_option maxRecDepth 100000 in
set_option maxHeartbeats 400000 in
theorem refPutTextO_any (b : Value) (xs : List UInt8) (s : ByteArray) (w : World) (hb : Sl (· < w.heap.size) w 1 b (bc xs)) (hx : xs.length ≤ 7000000000) (hs : s.size ≤ 10000000) :
    Calls Tryz.prog 38 #[b, .string s] w (fun e w' => ∃ v, e = .returned v ∧ Own w' w.heap.size 5 1 v (bc (xs ++ putT s.data.toList)) ∧ Below w.heap.size w w') := by
  have hU : U64 s.size := by unfold U64; omega
  have hw : IntKind.u64.wrap (s.size : Int) = s.size := hU.wrap
  have HP := Lib.hid (refPutO_any b xs s.size w hb (by omega) hU)
  have hl := hU.len
  go_enter Tryz.func38, Tryz.ntmps38
  go_wp2_with fail
  refine HP.out.mono ?_
  rintro e w1 ⟨v, rfl, happ, hb1⟩
  have hbs := hb1.size
  have hcl := bc_length (xs ++ putB s.size)
  rw [List.length_append] at hcl
  go_wp2_with (at_builtin; refine wpList_ownO_str Tryz.underlying24 Tryz.underlying9 bytesInfo rfl (.tmp 9) (.tmp 10) rfl rfl happ rfl (by omega) hbs ?_; intro v2 w2 happ2 hb2 _)
  go_ret
  refine ⟨_, rfl, ?_, hb1.trans hb2⟩
  rw [show bc (xs ++ putT s.data.toList) = bc (xs ++ putB s.size) ++ Lib.strCells s from by rw [putT, size_data, ← List.append_assoc, bc_append (xs ++ putB s.size)]; rfl]
  exact happ2

end Go.Proofs.YtmmeofiocbfamaaGreatDoor
namespace Go.Proofs.YtmmeofiocbfamaaGreatDoor
open Go Go.RowKit

set_option maxRecDepth 100000 in
set_option maxHeartbeats 400000 in
theorem four13_any (n : Nat) (w : World) (h : n < 4294967296) :
    Calls Tryz.prog 65 #[.int .i64 n] w fun e w' => e = .returned (.slice (some ⟨w.heap.size, 0, none⟩) 4 4) ∧ Own w' w.heap.size 5 1 (.slice (some ⟨w.heap.size, 0, none⟩) 4 4) (bc (four n)) ∧ Ext w w' := by
  go_enter Tryz.func65, Tryz.ntmps65
  have HV := Lib.hid (show bc (four n) = [.int .u8 ((n : Int) / 16777216), .int .u8 ((n : Int) / 65536 % 256), .int .u8 ((n : Int) / 256 % 256), .int .u8 ((n : Int) % 256)] from by
    have e1 : (((UInt8.ofNat (n / 16777216)).toNat : Nat) : Int) = (n : Int) / 16777216 := by rw [UInt8.toNat_ofNat']; omega
    have e2 : (((UInt8.ofNat (n / 65536)).toNat : Nat) : Int) = (n : Int) / 65536 % 256 := by rw [UInt8.toNat_ofNat']; omega
    have e3 : (((UInt8.ofNat (n / 256)).toNat : Nat) : Int) = (n : Int) / 256 % 256 := by rw [UInt8.toNat_ofNat']; omega
    have e4 : (((UInt8.ofNat n).toNat : Nat) : Int) = (n : Int) % 256 := by rw [UInt8.toNat_ofNat']; omega
    unfold bc four
    simp only [List.map_cons, List.map_nil]
    rw [e1, e2, e3, e4])
  have hX := Own.lit w (Nat.le_refl _) 5 1 4 #[.int .u8 ((n : Int) / 16777216), .int .u8 ((n : Int) / 65536 % 256), .int .u8 ((n : Int) / 256 % 256), .int .u8 ((n : Int) % 256)] rfl (by decide) (by decide)
  have HX := Lib.hid (show Own (w.alloc (.cells #[.int .u8 ((n : Int) / 16777216), .int .u8 ((n : Int) / 65536 % 256), .int .u8 ((n : Int) / 256 % 256), .int .u8 ((n : Int) % 256)] 5)) w.heap.size 5 1 (.slice (some ⟨w.heap.size, 0, none⟩) 4 4) (bc (four n)) from by rw [HV.out]; exact hX)
  clear hX
  go_wp2_with fail
  go_ret
  exact ⟨rfl, HX.out, Ext.alloc _ _⟩

set_option maxRecDepth 100000 in
set_option maxHeartbeats 400000 in
theorem common13_any (s t : ByteArray) (w : World) (hs : s.size ≤ 1000000000) (ht : t.size ≤ 1000000000) :
    Calls Tryz.prog 66 #[.string s, .string t] w fun e w' => e = .returned (.int .i64 (comm s.data.toList t.data.toList)) ∧ Ext w w' := by
  have HC := Lib.hid (show ∀ i, i ≤ comm s.data.toList t.data.toList → (h1 : i < s.size) → (h2 : i < t.size) → if s[i] = t[i] then i + 1 ≤ comm s.data.toList t.data.toList else comm s.data.toList t.data.toList = i from fun i hi h1 h2 => by
    have := comm_step s.data.toList t.data.toList i hi (by simpa using h1) (by simpa using h2)
    simpa [ByteArray.getElem_eq_getElem_data] using this)
  have HL := Lib.hid (show comm s.data.toList t.data.toList ≤ s.size ∧ comm s.data.toList t.data.toList ≤ t.size from by have := comm_le s.data.toList t.data.toList; simpa using this)
  generalize comm s.data.toList t.data.toList = cm at *
  go_enter Tryz.func66, Tryz.ntmps66
  go_wp2_with fail
  go_loopw [5] (fun iv wr => ∃ i : Nat, i ≤ cm ∧ iv = .int .i64 i ∧ Ext w wr) (fun iv _ => cm - (intOf iv).toNat)
  case atStart => exact ⟨0, by omega, rfl, Ext.refl _⟩
  case round =>
    obtain ⟨i, hi, rfl, hx⟩ := hrel
    have HX := Lib.hid hx
    clear hx
    go_wp2_with fail
    obtain ⟨wd, hwd⟩ : ∃ wd, wd = wr.drew := ⟨_, rfl⟩
    have HXd := Lib.hid (show Ext w wd from by rw [hwd]; exact HX.out.trans (Ext.drew wr))
    refine region_walkN (Ext wd) (by rw [← hwd]; exact Ext.refl _) (by kernel_rfl) (by kernel_rfl) (fun _ _ d _ _ h => by cases d <;> exact h) ?_
    rw [← hwd]
    clear hwd
    by_cases hi1 : i < s.size
    · by_cases hi2 : i < t.size
      · have hc := HC.out i hi hi1 hi2
        by_cases he : s[i] = t[i]
        · rw [if_pos he] at hc
          have HCM := Lib.hid hc
          clear hc
          have hen : s[i].toNat = t[i].toNat := by rw [he]
          ((refine WalkN.take 0 _ ?_ (by simp only [List.getElem?_toArray, List.getElem?_cons_zero]; rfl) (by kernel_rfl) (by kernel_rfl) (by rfl) (fun W hW => ?_) ?_; rotate_left; · (go_simp; try with_reducible rfl)); simp only [Act.put, List.setIfInBounds_toArray, List.set_cons_zero, List.set_cons_succ]); ((refine WalkN.take 1 _ ?_ (by simp only [List.getElem?_toArray, List.getElem?_cons_succ, List.getElem?_cons_zero]; rfl) (by kernel_rfl) (by kernel_rfl) (by rfl) (fun W hW => ?_) ?_; rotate_left; · (go_simp; try with_reducible rfl)); simp only [Act.put, List.setIfInBounds_toArray, List.set_cons_zero, List.set_cons_succ]); ((refine WalkN.take 2 _ ?_ (by simp only [List.getElem?_toArray, List.getElem?_cons_succ, List.getElem?_cons_zero]; rfl) (by kernel_rfl) (by kernel_rfl) (by rfl) (fun W hW => ?_) ?_; rotate_left; · (go_simp; try with_reducible rfl)); simp only [Act.put, List.setIfInBounds_toArray, List.set_cons_zero, List.set_cons_succ]); ((refine WalkN.take 3 _ ?_ (by simp only [List.getElem?_toArray, List.getElem?_cons_succ, List.getElem?_cons_zero]; rfl) (by kernel_rfl) (by kernel_rfl) (by rfl) (fun W hW => ?_) ?_; rotate_left; · (go_simp; try with_reducible rfl)); simp only [Act.put, List.setIfInBounds_toArray, List.set_cons_zero, List.set_cons_succ]); ((refine WalkN.take 4 _ ?_ (by simp only [List.getElem?_toArray, List.getElem?_cons_succ, List.getElem?_cons_zero]; rfl) (by kernel_rfl) (by kernel_rfl) (by rfl) (fun W hW => ?_) ?_; rotate_left; · (go_simp; try with_reducible rfl)); simp only [Act.put, List.setIfInBounds_toArray, List.set_cons_zero, List.set_cons_succ]); ((refine WalkN.take 5 _ ?_ (by simp only [List.getElem?_toArray, List.getElem?_cons_succ, List.getElem?_cons_zero]; rfl) (by kernel_rfl) (by kernel_rfl) (by rfl) (fun W hW => ?_) ?_; rotate_left; · (go_simp; try with_reducible rfl)); simp only [Act.put, List.setIfInBounds_toArray, List.set_cons_zero, List.set_cons_succ]); ((refine WalkN.take 6 _ ?_ (by simp only [List.getElem?_toArray, List.getElem?_cons_succ, List.getElem?_cons_zero]; rfl) (by kernel_rfl) (by kernel_rfl) (by rfl) (fun W hW => ?_) ?_; rotate_left; · (go_simp; try with_reducible rfl)); simp only [Act.put, List.setIfInBounds_toArray, List.set_cons_zero, List.set_cons_succ]); ((refine WalkN.take 7 _ ?_ (by simp only [List.getElem?_toArray, List.getElem?_cons_succ, List.getElem?_cons_zero]; rfl) (by kernel_rfl) (by kernel_rfl) (by rfl) (fun W hW => ?_) ?_; rotate_left; · (go_simp; try with_reducible rfl)); simp only [Act.put, List.setIfInBounds_toArray, List.set_cons_zero, List.set_cons_succ]); ((refine WalkN.take 8 _ ?_ (by simp only [List.getElem?_toArray, List.getElem?_cons_succ, List.getElem?_cons_zero]; rfl) (by kernel_rfl) (by kernel_rfl) (by rfl) (fun W hW => ?_) ?_; rotate_left; · (go_simp; try with_reducible rfl)); simp only [Act.put, List.setIfInBounds_toArray, List.set_cons_zero, List.set_cons_succ]); ((refine WalkN.take 9 _ ?_ (by simp only [List.getElem?_toArray, List.getElem?_cons_succ, List.getElem?_cons_zero]; rfl) (by kernel_rfl) (by kernel_rfl) (by rfl) (fun W hW => ?_) ?_; rotate_left; · (go_simp; try with_reducible rfl)); simp only [Act.put, List.setIfInBounds_toArray, List.set_cons_zero, List.set_cons_succ]); ((refine WalkN.take 10 _ ?_ (by simp only [List.getElem?_toArray, List.getElem?_cons_succ, List.getElem?_cons_zero]; rfl) (by kernel_rfl) (by kernel_rfl) (by rfl) (fun W hW => ?_) ?_; rotate_left; · (go_simp; try with_reducible rfl)); simp only [Act.put, List.setIfInBounds_toArray, List.set_cons_zero, List.set_cons_succ]); ((refine WalkN.take 11 _ ?_ (by simp only [List.getElem?_toArray, List.getElem?_cons_succ, List.getElem?_cons_zero]; rfl) (by kernel_rfl) (by kernel_rfl) (by rfl) (fun W hW => ?_) ?_; rotate_left; · (go_simp; try with_reducible rfl)); simp only [Act.put, List.setIfInBounds_toArray, List.set_cons_zero, List.set_cons_succ]); ((refine WalkN.take 12 _ ?_ (by simp only [List.getElem?_toArray, List.getElem?_cons_succ, List.getElem?_cons_zero]; rfl) (by kernel_rfl) (by kernel_rfl) (by rfl) (fun W hW => ?_) ?_; rotate_left; · (go_simp; try with_reducible rfl)); simp only [Act.put, List.setIfInBounds_toArray, List.set_cons_zero, List.set_cons_succ]); ((refine WalkN.take 13 _ ?_ (by simp only [List.getElem?_toArray, List.getElem?_cons_succ, List.getElem?_cons_zero]; rfl) (by kernel_rfl) (by kernel_rfl) (by rfl) (fun W hW => ?_) ?_; rotate_left; · (go_simp; try with_reducible rfl)); simp only [Act.put, List.setIfInBounds_toArray, List.set_cons_zero, List.set_cons_succ]); ((refine WalkN.take 14 _ ?_ (by simp only [List.getElem?_toArray, List.getElem?_cons_succ, List.getElem?_cons_zero]; rfl) (by kernel_rfl) (by kernel_rfl) (by rfl) (fun W hW => ?_) ?_; rotate_left; · (go_simp; try with_reducible rfl)); simp only [Act.put, List.setIfInBounds_toArray, List.set_cons_zero, List.set_cons_succ]); ((refine WalkN.take 15 _ ?_ (by simp only [List.getElem?_toArray, List.getElem?_cons_succ, List.getElem?_cons_zero]; rfl) (by kernel_rfl) (by kernel_rfl) (by rfl) (fun W hW => ?_) ?_; rotate_left; · (go_simp; try with_reducible rfl)); simp only [Act.put, List.setIfInBounds_toArray, List.set_cons_zero, List.set_cons_succ]); ((refine WalkN.take 16 _ ?_ (by simp only [List.getElem?_toArray, List.getElem?_cons_succ, List.getElem?_cons_zero]; rfl) (by kernel_rfl) (by kernel_rfl) (by rfl) (fun W hW => ?_) ?_; rotate_left; · (go_simp; try with_reducible rfl)); simp only [Act.put, List.setIfInBounds_toArray, List.set_cons_zero, List.set_cons_succ]); ((refine WalkN.take 17 _ ?_ (by simp only [List.getElem?_toArray, List.getElem?_cons_succ, List.getElem?_cons_zero]; rfl) (by kernel_rfl) (by kernel_rfl) (by rfl) (fun W hW => ?_) ?_; rotate_left; · (go_simp; try with_reducible rfl)); simp only [Act.put, List.setIfInBounds_toArray, List.set_cons_zero, List.set_cons_succ]); ((refine WalkN.take 18 _ ?_ (by simp only [List.getElem?_toArray, List.getElem?_cons_succ, List.getElem?_cons_zero]; rfl) (by kernel_rfl) (by kernel_rfl) (by rfl) (fun W hW => ?_) ?_; rotate_left; · (go_simp; try with_reducible rfl)); simp only [Act.put, List.setIfInBounds_toArray, List.set_cons_zero, List.set_cons_succ])
          refine WalkN.done (by kernel_rfl) ?_
          go_wp2_with fail
          exact ⟨⟨i + 1, HCM.out, by go_num, HXd.out⟩, by have := HCM.out; simp [intOf]; omega⟩
        · rw [if_neg he] at hc
          have hen : ¬ ((s[i].toNat : Int) = (t[i].toNat : Int)) := fun e => he (UInt8.toNat_inj.1 (by omega))
          have heb : ((s[i].toNat : Int) == (t[i].toNat : Int)) = false := by simpa using hen
          obtain rfl : cm = i := hc
          clear he
          ((refine WalkN.take 0 _ ?_ (by simp only [List.getElem?_toArray, List.getElem?_cons_zero]; rfl) (by kernel_rfl) (by kernel_rfl) (by rfl) (fun W hW => ?_) ?_; rotate_left; · (go_simp; try with_reducible rfl)); simp only [Act.put, List.setIfInBounds_toArray, List.set_cons_zero, List.set_cons_succ]); ((refine WalkN.take 1 _ ?_ (by simp only [List.getElem?_toArray, List.getElem?_cons_succ, List.getElem?_cons_zero]; rfl) (by kernel_rfl) (by kernel_rfl) (by rfl) (fun W hW => ?_) ?_; rotate_left; · (go_simp; try with_reducible rfl)); simp only [Act.put, List.setIfInBounds_toArray, List.set_cons_zero, List.set_cons_succ]); ((refine WalkN.take 2 _ ?_ (by simp only [List.getElem?_toArray, List.getElem?_cons_succ, List.getElem?_cons_zero]; rfl) (by kernel_rfl) (by kernel_rfl) (by rfl) (fun W hW => ?_) ?_; rotate_left; · (go_simp; try with_reducible rfl)); simp only [Act.put, List.setIfInBounds_toArray, List.set_cons_zero, List.set_cons_succ]); ((refine WalkN.take 3 _ ?_ (by simp only [List.getElem?_toArray, List.getElem?_cons_succ, List.getElem?_cons_zero]; rfl) (by kernel_rfl) (by kernel_rfl) (by rfl) (fun W hW => ?_) ?_; rotate_left; · (go_simp; try with_reducible rfl)); simp only [Act.put, List.setIfInBounds_toArray, List.set_cons_zero, List.set_cons_succ]); ((refine WalkN.take 4 _ ?_ (by simp only [List.getElem?_toArray, List.getElem?_cons_succ, List.getElem?_cons_zero]; rfl) (by kernel_rfl) (by kernel_rfl) (by rfl) (fun W hW => ?_) ?_; rotate_left; · (go_simp; try with_reducible rfl)); simp only [Act.put, List.setIfInBounds_toArray, List.set_cons_zero, List.set_cons_succ]); ((refine WalkN.take 5 _ ?_ (by simp only [List.getElem?_toArray, List.getElem?_cons_succ, List.getElem?_cons_zero]; rfl) (by kernel_rfl) (by kernel_rfl) (by rfl) (fun W hW => ?_) ?_; rotate_left; · (go_simp; try with_reducible rfl)); simp only [Act.put, List.setIfInBounds_toArray, List.set_cons_zero, List.set_cons_succ]); ((refine WalkN.take 6 _ ?_ (by simp only [List.getElem?_toArray, List.getElem?_cons_succ, List.getElem?_cons_zero]; rfl) (by kernel_rfl) (by kernel_rfl) (by rfl) (fun W hW => ?_) ?_; rotate_left; · (go_simp; try with_reducible rfl)); simp only [Act.put, List.setIfInBounds_toArray, List.set_cons_zero, List.set_cons_succ]); ((refine WalkN.take 7 _ ?_ (by simp only [List.getElem?_toArray, List.getElem?_cons_succ, List.getElem?_cons_zero]; rfl) (by kernel_rfl) (by kernel_rfl) (by rfl) (fun W hW => ?_) ?_; rotate_left; · (go_simp; try with_reducible rfl)); simp only [Act.put, List.setIfInBounds_toArray, List.set_cons_zero, List.set_cons_succ]); ((refine WalkN.take 8 _ ?_ (by simp only [List.getElem?_toArray, List.getElem?_cons_succ, List.getElem?_cons_zero]; rfl) (by kernel_rfl) (by kernel_rfl) (by rfl) (fun W hW => ?_) ?_; rotate_left; · (go_simp; try with_reducible rfl)); simp only [Act.put, List.setIfInBounds_toArray, List.set_cons_zero, List.set_cons_succ]); ((refine WalkN.take 9 _ ?_ (by simp only [List.getElem?_toArray, List.getElem?_cons_succ, List.getElem?_cons_zero]; rfl) (by kernel_rfl) (by kernel_rfl) (by rfl) (fun W hW => ?_) ?_; rotate_left; · (go_simp; try with_reducible rfl)); simp only [Act.put, List.setIfInBounds_toArray, List.set_cons_zero, List.set_cons_succ]); ((refine WalkN.take 10 _ ?_ (by simp only [List.getElem?_toArray, List.getElem?_cons_succ, List.getElem?_cons_zero]; rfl) (by kernel_rfl) (by kernel_rfl) (by rfl) (fun W hW => ?_) ?_; rotate_left; · (go_simp; try with_reducible rfl)); simp only [Act.put, List.setIfInBounds_toArray, List.set_cons_zero, List.set_cons_succ]); ((refine WalkN.take 11 _ ?_ (by simp only [List.getElem?_toArray, List.getElem?_cons_succ, List.getElem?_cons_zero]; rfl) (by kernel_rfl) (by kernel_rfl) (by rfl) (fun W hW => ?_) ?_; rotate_left; · (go_simp; try with_reducible rfl)); simp only [Act.put, List.setIfInBounds_toArray, List.set_cons_zero, List.set_cons_succ]); ((refine WalkN.take 12 _ ?_ (by simp only [List.getElem?_toArray, List.getElem?_cons_succ, List.getElem?_cons_zero]; rfl) (by kernel_rfl) (by kernel_rfl) (by rfl) (fun W hW => ?_) ?_; rotate_left; · (go_simp; try with_reducible rfl)); simp only [Act.put, List.setIfInBounds_toArray, List.set_cons_zero, List.set_cons_succ]); ((refine WalkN.take 13 _ ?_ (by simp only [List.getElem?_toArray, List.getElem?_cons_succ, List.getElem?_cons_zero]; rfl) (by kernel_rfl) (by kernel_rfl) (by rfl) (fun W hW => ?_) ?_; rotate_left; · (go_simp; try with_reducible rfl)); simp only [Act.put, List.setIfInBounds_toArray, List.set_cons_zero, List.set_cons_succ]); ((refine WalkN.take 14 _ ?_ (by simp only [List.getElem?_toArray, List.getElem?_cons_succ, List.getElem?_cons_zero]; rfl) (by kernel_rfl) (by kernel_rfl) (by rfl) (fun W hW => ?_) ?_; rotate_left; · (go_simp; try with_reducible rfl)); simp only [Act.put, List.setIfInBounds_toArray, List.set_cons_zero, List.set_cons_succ]); ((refine WalkN.take 15 _ ?_ (by simp only [List.getElem?_toArray, List.getElem?_cons_succ, List.getElem?_cons_zero]; rfl) (by kernel_rfl) (by kernel_rfl) (by rfl) (fun W hW => ?_) ?_; rotate_left; · (go_simp; try with_reducible rfl)); simp only [Act.put, List.setIfInBounds_toArray, List.set_cons_zero, List.set_cons_succ]); ((refine WalkN.take 16 _ ?_ (by simp only [List.getElem?_toArray, List.getElem?_cons_succ, List.getElem?_cons_zero]; rfl) (by kernel_rfl) (by kernel_rfl) (by rfl) (fun W hW => ?_) ?_; rotate_left; · (go_simp; try with_reducible rfl)); simp only [Act.put, List.setIfInBounds_toArray, List.set_cons_zero, List.set_cons_succ]); ((refine WalkN.take 17 _ ?_ (by simp only [List.getElem?_toArray, List.getElem?_cons_succ, List.getElem?_cons_zero]; rfl) (by kernel_rfl) (by kernel_rfl) (by rfl) (fun W hW => ?_) ?_; rotate_left; · (go_simp; try with_reducible rfl)); simp only [Act.put, List.setIfInBounds_toArray, List.set_cons_zero, List.set_cons_succ]); ((refine WalkN.take 18 _ ?_ (by simp only [List.getElem?_toArray, List.getElem?_cons_succ, List.getElem?_cons_zero]; rfl) (by kernel_rfl) (by kernel_rfl) (by rfl) (fun W hW => ?_) ?_; rotate_left; · (go_simp; try with_reducible rfl)); simp only [Act.put, List.setIfInBounds_toArray, List.set_cons_zero, List.set_cons_succ])
          refine WalkN.done (by kernel_rfl) ?_
          go_wp2_with fail
          go_ret
          exact ⟨rfl, HXd.out⟩
      · obtain rfl : cm = i := by have := HL.out; omega
        ((refine WalkN.take 0 _ ?_ (by simp only [List.getElem?_toArray, List.getElem?_cons_zero]; rfl) (by kernel_rfl) (by kernel_rfl) (by rfl) (fun W hW => ?_) ?_; rotate_left; · (go_simp; try with_reducible rfl)); simp only [Act.put, List.setIfInBounds_toArray, List.set_cons_zero, List.set_cons_succ]); ((refine WalkN.take 1 _ ?_ (by simp only [List.getElem?_toArray, List.getElem?_cons_succ, List.getElem?_cons_zero]; rfl) (by kernel_rfl) (by kernel_rfl) (by rfl) (fun W hW => ?_) ?_; rotate_left; · (go_simp; try with_reducible rfl)); simp only [Act.put, List.setIfInBounds_toArray, List.set_cons_zero, List.set_cons_succ]); ((refine WalkN.take 2 _ ?_ (by simp only [List.getElem?_toArray, List.getElem?_cons_succ, List.getElem?_cons_zero]; rfl) (by kernel_rfl) (by kernel_rfl) (by rfl) (fun W hW => ?_) ?_; rotate_left; · (go_simp; try with_reducible rfl)); simp only [Act.put, List.setIfInBounds_toArray, List.set_cons_zero, List.set_cons_succ]); ((refine WalkN.take 3 _ ?_ (by simp only [List.getElem?_toArray, List.getElem?_cons_succ, List.getElem?_cons_zero]; rfl) (by kernel_rfl) (by kernel_rfl) (by rfl) (fun W hW => ?_) ?_; rotate_left; · (go_simp; try with_reducible rfl)); simp only [Act.put, List.setIfInBounds_toArray, List.set_cons_zero, List.set_cons_succ]); ((refine WalkN.take 4 _ ?_ (by simp only [List.getElem?_toArray, List.getElem?_cons_succ, List.getElem?_cons_zero]; rfl) (by kernel_rfl) (by kernel_rfl) (by rfl) (fun W hW => ?_) ?_; rotate_left; · (go_simp; try with_reducible rfl)); simp only [Act.put, List.setIfInBounds_toArray, List.set_cons_zero, List.set_cons_succ]); ((refine WalkN.take 5 _ ?_ (by simp only [List.getElem?_toArray, List.getElem?_cons_succ, List.getElem?_cons_zero]; rfl) (by kernel_rfl) (by kernel_rfl) (by rfl) (fun W hW => ?_) ?_; rotate_left; · (go_simp; try with_reducible rfl)); simp only [Act.put, List.setIfInBounds_toArray, List.set_cons_zero, List.set_cons_succ]); ((refine WalkN.take 6 _ ?_ (by simp only [List.getElem?_toArray, List.getElem?_cons_succ, List.getElem?_cons_zero]; rfl) (by kernel_rfl) (by kernel_rfl) (by rfl) (fun W hW => ?_) ?_; rotate_left; · (go_simp; try with_reducible rfl)); simp only [Act.put, List.setIfInBounds_toArray, List.set_cons_zero, List.set_cons_succ]); ((refine WalkN.take 7 _ ?_ (by simp only [List.getElem?_toArray, List.getElem?_cons_succ, List.getElem?_cons_zero]; rfl) (by kernel_rfl) (by kernel_rfl) (by rfl) (fun W hW => ?_) ?_; rotate_left; · (go_simp; try with_reducible rfl)); simp only [Act.put, List.setIfInBounds_toArray, List.set_cons_zero, List.set_cons_succ]); ((refine WalkN.take 8 _ ?_ (by simp only [List.getElem?_toArray, List.getElem?_cons_succ, List.getElem?_cons_zero]; rfl) (by kernel_rfl) (by kernel_rfl) (by rfl) (fun W hW => ?_) ?_; rotate_left; · (go_simp; try with_reducible rfl)); simp only [Act.put, List.setIfInBounds_toArray, List.set_cons_zero, List.set_cons_succ]); ((refine WalkN.take 9 _ ?_ (by simp only [List.getElem?_toArray, List.getElem?_cons_succ, List.getElem?_cons_zero]; rfl) (by kernel_rfl) (by kernel_rfl) (by rfl) (fun W hW => ?_) ?_; rotate_left; · (go_simp; try with_reducible rfl)); simp only [Act.put, List.setIfInBounds_toArray, List.set_cons_zero, List.set_cons_succ]); ((refine WalkN.take 10 _ ?_ (by simp only [List.getElem?_toArray, List.getElem?_cons_succ, List.getElem?_cons_zero]; rfl) (by kernel_rfl) (by kernel_rfl) (by rfl) (fun W hW => ?_) ?_; rotate_left; · (go_simp; try with_reducible rfl)); simp only [Act.put, List.setIfInBounds_toArray, List.set_cons_zero, List.set_cons_succ])
        (refine WalkN.skip 11 _ (by simp only [List.getElem?_toArray, List.getElem?_cons_succ, List.getElem?_cons_zero]; rfl) (by kernel_rfl) (by kernel_rfl) (by rfl) ?_; simp only [Act.put, List.setIfInBounds_toArray, List.set_cons_zero, List.set_cons_succ]); (refine WalkN.skip 12 _ (by simp only [List.getElem?_toArray, List.getElem?_cons_succ, List.getElem?_cons_zero]; rfl) (by kernel_rfl) (by kernel_rfl) (by rfl) ?_; simp only [Act.put, List.setIfInBounds_toArray, List.set_cons_zero, List.set_cons_succ]); (refine WalkN.skip 13 _ (by simp only [List.getElem?_toArray, List.getElem?_cons_succ, List.getElem?_cons_zero]; rfl) (by kernel_rfl) (by kernel_rfl) (by rfl) ?_; simp only [Act.put, List.setIfInBounds_toArray, List.set_cons_zero, List.set_cons_succ]); (refine WalkN.skip 14 _ (by simp only [List.getElem?_toArray, List.getElem?_cons_succ, List.getElem?_cons_zero]; rfl) (by kernel_rfl) (by kernel_rfl) (by rfl) ?_; simp only [Act.put, List.setIfInBounds_toArray, List.set_cons_zero, List.set_cons_succ]); (refine WalkN.skip 15 _ (by simp only [List.getElem?_toArray, List.getElem?_cons_succ, List.getElem?_cons_zero]; rfl) (by kernel_rfl) (by kernel_rfl) (by rfl) ?_; simp only [Act.put, List.setIfInBounds_toArray, List.set_cons_zero, List.set_cons_succ]); (refine WalkN.skip 16 _ (by simp only [List.getElem?_toArray, List.getElem?_cons_succ, List.getElem?_cons_zero]; rfl) (by kernel_rfl) (by kernel_rfl) (by rfl) ?_; simp only [Act.put, List.setIfInBounds_toArray, List.set_cons_zero, List.set_cons_succ]); (refine WalkN.skip 17 _ (by simp only [List.getElem?_toArray, List.getElem?_cons_succ, List.getElem?_cons_zero]; rfl) (by kernel_rfl) (by kernel_rfl) (by rfl) ?_; simp only [Act.put, List.setIfInBounds_toArray, List.set_cons_zero, List.set_cons_succ])
        ((refine WalkN.take 18 _ ?_ (by simp only [List.getElem?_toArray, List.getElem?_cons_succ, List.getElem?_cons_zero]; rfl) (by kernel_rfl) (by kernel_rfl) (by rfl) (fun W hW => ?_) ?_; rotate_left; · (go_simp; try with_reducible rfl)); simp only [Act.put, List.setIfInBounds_toArray, List.set_cons_zero, List.set_cons_succ])
        refine WalkN.done (by kernel_rfl) ?_
        go_wp2_with fail
        go_ret
        exact ⟨rfl, HXd.out⟩
    · obtain rfl : cm = i := by have := HL.out; omega
      ((refine WalkN.take 0 _ ?_ (by simp only [List.getElem?_toArray, List.getElem?_cons_zero]; rfl) (by kernel_rfl) (by kernel_rfl) (by rfl) (fun W hW => ?_) ?_; rotate_left; · (go_simp; try with_reducible rfl)); simp only [Act.put, List.setIfInBounds_toArray, List.set_cons_zero, List.set_cons_succ]); ((refine WalkN.take 1 _ ?_ (by simp only [List.getElem?_toArray, List.getElem?_cons_succ, List.getElem?_cons_zero]; rfl) (by kernel_rfl) (by kernel_rfl) (by rfl) (fun W hW => ?_) ?_; rotate_left; · (go_simp; try with_reducible rfl)); simp only [Act.put, List.setIfInBounds_toArray, List.set_cons_zero, List.set_cons_succ]); ((refine WalkN.take 2 _ ?_ (by simp only [List.getElem?_toArray, List.getElem?_cons_succ, List.getElem?_cons_zero]; rfl) (by kernel_rfl) (by kernel_rfl) (by rfl) (fun W hW => ?_) ?_; rotate_left; · (go_simp; try with_reducible rfl)); simp only [Act.put, List.setIfInBounds_toArray, List.set_cons_zero, List.set_cons_succ]); ((refine WalkN.take 3 _ ?_ (by simp only [List.getElem?_toArray, List.getElem?_cons_succ, List.getElem?_cons_zero]; rfl) (by kernel_rfl) (by kernel_rfl) (by rfl) (fun W hW => ?_) ?_; rotate_left; · (go_simp; try with_reducible rfl)); simp only [Act.put, List.setIfInBounds_toArray, List.set_cons_zero, List.set_cons_succ]); ((refine WalkN.take 4 _ ?_ (by simp only [List.getElem?_toArray, List.getElem?_cons_succ, List.getElem?_cons_zero]; rfl) (by kernel_rfl) (by kernel_rfl) (by rfl) (fun W hW => ?_) ?_; rotate_left; · (go_simp; try with_reducible rfl)); simp only [Act.put, List.setIfInBounds_toArray, List.set_cons_zero, List.set_cons_succ])
      (refine WalkN.skip 5 _ (by simp only [List.getElem?_toArray, List.getElem?_cons_succ, List.getElem?_cons_zero]; rfl) (by kernel_rfl) (by kernel_rfl) (by rfl) ?_; simp only [Act.put, List.setIfInBounds_toArray, List.set_cons_zero, List.set_cons_succ]); (refine WalkN.skip 6 _ (by simp only [List.getElem?_toArray, List.getElem?_cons_succ, List.getElem?_cons_zero]; rfl) (by kernel_rfl) (by kernel_rfl) (by rfl) ?_; simp only [Act.put, List.setIfInBounds_toArray, List.set_cons_zero, List.set_cons_succ]); (refine WalkN.skip 7 _ (by simp only [List.getElem?_toArray, List.getElem?_cons_succ, List.getElem?_cons_zero]; rfl) (by kernel_rfl) (by kernel_rfl) (by rfl) ?_; simp only [Act.put, List.setIfInBounds_toArray, List.set_cons_zero, List.set_cons_succ]); (refine WalkN.skip 8 _ (by simp only [List.getElem?_toArray, List.getElem?_cons_succ, List.getElem?_cons_zero]; rfl) (by kernel_rfl) (by kernel_rfl) (by rfl) ?_; simp only [Act.put, List.setIfInBounds_toArray, List.set_cons_zero, List.set_cons_succ])
      ((refine WalkN.take 9 _ ?_ (by simp only [List.getElem?_toArray, List.getElem?_cons_succ, List.getElem?_cons_zero]; rfl) (by kernel_rfl) (by kernel_rfl) (by rfl) (fun W hW => ?_) ?_; rotate_left; · (go_simp; try with_reducible rfl)); simp only [Act.put, List.setIfInBounds_toArray, List.set_cons_zero, List.set_cons_succ]); ((refine WalkN.take 10 _ ?_ (by simp only [List.getElem?_toArray, List.getElem?_cons_succ, List.getElem?_cons_zero]; rfl) (by kernel_rfl) (by kernel_rfl) (by rfl) (fun W hW => ?_) ?_; rotate_left; · (go_simp; try with_reducible rfl)); simp only [Act.put, List.setIfInBounds_toArray, List.set_cons_zero, List.set_cons_succ])
      (refine WalkN.skip 11 _ (by simp only [List.getElem?_toArray, List.getElem?_cons_succ, List.getElem?_cons_zero]; rfl) (by kernel_rfl) (by kernel_rfl) (by rfl) ?_; simp only [Act.put, List.setIfInBounds_toArray, List.set_cons_zero, List.set_cons_succ]); (refine WalkN.skip 12 _ (by simp only [List.getElem?_toArray, List.getElem?_cons_succ, List.getElem?_cons_zero]; rfl) (by kernel_rfl) (by kernel_rfl) (by rfl) ?_; simp only [Act.put, List.setIfInBounds_toArray, List.set_cons_zero, List.set_cons_succ]); (refine WalkN.skip 13 _ (by simp only [List.getElem?_toArray, List.getElem?_cons_succ, List.getElem?_cons_zero]; rfl) (by kernel_rfl) (by kernel_rfl) (by rfl) ?_; simp only [Act.put, List.setIfInBounds_toArray, List.set_cons_zero, List.set_cons_succ]); (refine WalkN.skip 14 _ (by simp only [List.getElem?_toArray, List.getElem?_cons_succ, List.getElem?_cons_zero]; rfl) (by kernel_rfl) (by kernel_rfl) (by rfl) ?_; simp only [Act.put, List.setIfInBounds_toArray, List.set_cons_zero, List.set_cons_succ]); (refine WalkN.skip 15 _ (by simp only [List.getElem?_toArray, List.getElem?_cons_succ, List.getElem?_cons_zero]; rfl) (by kernel_rfl) (by kernel_rfl) (by rfl) ?_; simp only [Act.put, List.setIfInBounds_toArray, List.set_cons_zero, List.set_cons_succ]); (refine WalkN.skip 16 _ (by simp only [List.getElem?_toArray, List.getElem?_cons_succ, List.getElem?_cons_zero]; rfl) (by kernel_rfl) (by kernel_rfl) (by rfl) ?_; simp only [Act.put, List.setIfInBounds_toArray, List.set_cons_zero, List.set_cons_succ]); (refine WalkN.skip 17 _ (by simp only [List.getElem?_toArray, List.getElem?_cons_succ, List.getElem?_cons_zero]; rfl) (by kernel_rfl) (by kernel_rfl) (by rfl) ?_; simp only [Act.put, List.setIfInBounds_toArray, List.set_cons_zero, List.set_cons_succ])
      ((refine WalkN.take 18 _ ?_ (by simp only [List.getElem?_toArray, List.getElem?_cons_succ, List.getElem?_cons_zero]; rfl) (by kernel_rfl) (by kernel_rfl) (by rfl) (fun W hW => ?_) ?_; rotate_left; · (go_simp; try with_reducible rfl)); simp only [Act.put, List.setIfInBounds_toArray, List.set_cons_zero, List.set_cons_succ])
      refine WalkN.done (by kernel_rfl) ?_
      go_wp2_with fail
      go_ret
      exact ⟨rfl, HXd.out⟩

end Go.Proofs.YtmmeofiocbfamaaGreatDoor
