/- The walk of sentrylaw02.fixed: the calls whose answers the document fixes. The walks of codec.PutText, sentryref02.PutText and codec.GetText. frame's Sum. frame's put and get. No condition: lemmas. -/
import Derived.Lib.BufferRead
import Derived.Test.YtmmeofiocbfamaaGreatDoorZ4
import Derived.Test.YtmmeofiocbfamaaGreatDoorZ3
namespace Go.Proofs.YtmmeofiocbfamaaGreatDoor
open Go Go.RowKit

/-- 'string(b)' of a slice that reads as bytes. -/
theorem str_sl {S : Nat → Prop} {w : World} {v : Value} {l : List UInt8} (h : Sl S w 1 v (bc l)) : (convert 24 9 v).run Tryz.prog w = .ok (.string ⟨l.toArray⟩) w := by
  obtain ⟨ao, n, c, rfl, hn, hnc, hc, hnone, hcell⟩ := h
  rw [bc_length] at hn
  obtain rfl : n = l.length := by omega
  cases ao with
  | none =>
    obtain rfl : c = 0 := hnone rfl
    obtain rfl : l = [] := List.eq_nil_of_length_eq_zero (by omega)
    exact Lib.run_convert_nil_bytes (P := Tryz.prog) w 24 9 5 0 Tryz.underlying24 Tryz.underlying5 Tryz.underlying9
  | some a =>
    refine run_convert_bytes_back (P := Tryz.prog) w 24 9 5 a c l Tryz.underlying24 Tryz.underlying5 Tryz.underlying9 (fun j hj => ?_)
    obtain ⟨b, off, hbo, _, hcc⟩ := hcell (fun e => by have := congrArg List.length e; simp [bc_length] at this; subst this; exact absurd hj (by simp))
    cases hbo
    rw [Addr.add_lit]
    exact hcc j _ (by simp [bc, hj])

theorem Below.step {B : Nat} {w0 W w1 : World} (h : Below B w0 W) (hb : Below W.heap.size W w1) (hB : B ≤ w0.heap.size) : Below B w0 w1 := h.trans (hb.mono (Nat.le_trans hB h.size))

end Go.Proofs.YtmmeofiocbfamaaGreatDoor
namespace Go.Proofs.YtmmeofiocbfamaaGreatDoor
open Go Go.RowKit

theorem bytesInfo : (Tryz.prog.info? 5).map (fun i => (i.zero, i.size, i.bytes)) = some (some (.int .u8 0), 1, 1) := by kernel_rfl

/-- P2.1: a text as bytes: its length, its bytes. -/
def putT (s : List UInt8) : List UInt8 := putB s.length ++ s

theorem size_data (s : ByteArray) : s.data.toList.length = s.size := Array.length_toList

set_option maxRecDepth 100000 in
set_option maxHeartbeats 400000 in
theorem putText_any (b : Value) (xs : List UInt8) (s : ByteArray) (w : World) (hb : Sl (· < w.heap.size) w 1 b (bc xs)) (hx : xs.length ≤ 10000000) (hs : s.size ≤ 10000000) :
    Calls Tryz.prog 60 #[b, .string s] w (RetApp w 5 1 (bc (xs ++ putT s.data.toList))) := by
  have hU : U64 s.size := by unfold U64; omega
  have hw : IntKind.u64.wrap (s.size : Int) = s.size := hU.wrap
  have HP := Lib.hid (put_any b xs s.size w hb (by omega) hU)
  have hl := hU.len
  go_enter Tryz.func60, Tryz.ntmps60
  go_wp2_with fail
  refine HP.out.mono ?_
  rintro e w1 ⟨v, rfl, happ, hb1⟩
  have hbs := hb1.size
  have hcl := bc_length (xs ++ putB s.size)
  rw [List.length_append] at hcl
  go_wp2_with (at_builtin; refine wpList_app_str Tryz.underlying24 Tryz.underlying9 bytesInfo rfl (.tmp 9) (.tmp 10) rfl rfl happ rfl (by omega) hbs ?_; intro v2 w2 happ2 hb2 _)
  go_ret
  refine ⟨_, rfl, ?_, hb1.trans hb2⟩
  rw [show bc (xs ++ putT s.data.toList) = bc (xs ++ putB s.size) ++ Lib.strCells s from by rw [putT, size_data, ← List.append_assoc, bc_append (xs ++ putB s.size)]; rfl]
  exact happ2

set_option maxRecDepth 100000 in
set_option maxHeartbeats 400000 in
theorem refPutText_any (b : Value) (xs : List UInt8) (s : ByteArray) (w : World) (hb : Sl (· < w.heap.size) w 1 b (bc xs)) (hx : xs.length ≤ 10000000) (hs : s.size ≤ 10000000) :
    Calls Tryz.prog 38 #[b, .string s] w (RetApp w 5 1 (bc (xs ++ putT s.data.toList))) := by
  have hU : U64 s.size := by unfold U64; omega
  have hw : IntKind.u64.wrap (s.size : Int) = s.size := hU.wrap
  have HP := Lib.hid (refPut_any b xs s.size w hb (by omega) hU)
  have hl := hU.len
  go_enter Tryz.func38, Tryz.ntmps38
  go_wp2_with fail
  refine HP.out.mono ?_
  rintro e w1 ⟨v, rfl, happ, hb1⟩
  have hbs := hb1.size
  have hcl := bc_length (xs ++ putB s.size)
  rw [List.length_append] at hcl
  go_wp2_with (at_builtin; refine wpList_app_str Tryz.underlying24 Tryz.underlying9 bytesInfo rfl (.tmp 9) (.tmp 10) rfl rfl happ rfl (by omega) hbs ?_; intro v2 w2 happ2 hb2 _)
  go_ret
  refine ⟨_, rfl, ?_, hb1.trans hb2⟩
  rw [show bc (xs ++ putT s.data.toList) = bc (xs ++ putB s.size) ++ Lib.strCells s from by rw [putT, size_data, ← List.append_assoc, bc_append (xs ++ putB s.size)]; rfl]
  exact happ2

/-- P2.1: the text that bytes begin with: text, length, error. -/
def getT (bs : List UInt8) : List UInt8 × Nat × Nat :=
  if (getG bs 0 0).2.2 ≠ 0 then ([], 0, (getG bs 0 0).2.2)
  else if (getG bs 0 0).1 > bs.length - (getG bs 0 0).2.1 then ([], 0, 7)
  else ((bs.drop (getG bs 0 0).2.1).take (getG bs 0 0).1, (getG bs 0 0).2.1 + (getG bs 0 0).1, 0)

theorem getG_facts : ∀ (bs : List UInt8) (i v : Nat), (getG bs i v).2.2 = 0 ∧ i < (getG bs i v).2.1 ∧ (getG bs i v).2.1 ≤ i + bs.length ∨ (getG bs i v).2.2 = 7 ∨ (getG bs i v).2.2 = 9
  | [], _, _ => by simp [getG]
  | c :: r, i, v => by
    unfold getG
    split
    · simp
    · split
      · simp
      · rcases getG_facts r (i + 1) (v + c.toNat % 128 * 2 ^ (7 * i)) with ⟨h1, h2, h3⟩ | h
        · refine .inl ⟨h1, by omega, ?_⟩
          rw [List.length_cons]
          omega
        · exact .inr h

/-- GetText's answer. -/
def RetGetT (r : List UInt8 × Nat × Nat) (w : World) (e : Ending) (w' : World) : Prop := e = .returned (.tuple #[.string ⟨r.1.toArray⟩, .int .i64 r.2.1, .int .i64 r.2.2]) ∧ w = w'
theorem RetGetT.mk' {s : ByteArray} {b c : Int} {r : List UInt8 × Nat × Nat} {w : World} (x : List UInt8) (y z : Nat) (h : r = (x, y, z)) (h1 : s = ⟨x.toArray⟩) (h2 : b = y) (h3 : c = z) : RetGetT r w (.returned (.tuple #[.string s, .int .i64 b, .int .i64 c])) w := by
  subst h h1 h2 h3
  exact ⟨rfl, rfl⟩

set_option maxRecDepth 100000 in
set_option maxHeartbeats 400000 in
theorem getText_any (x : Value) (bs : List UInt8) (w : World) (S : Nat → Prop) (hb : Sl S w 1 x (bc bs)) (hx : bs.length ≤ 1000000000) :
    Calls Tryz.prog 73 #[x] w (RetGetT (getT bs) w) := by
  have HG := Lib.hid (get_any x bs w S hb hx)
  have hf := getG_facts bs 0 0
  have hT : getT bs = if (getG bs 0 0).2.2 ≠ 0 then ([], 0, (getG bs 0 0).2.2) else if (getG bs 0 0).1 > bs.length - (getG bs 0 0).2.1 then ([], 0, 7) else ((bs.drop (getG bs 0 0).2.1).take (getG bs 0 0).1, (getG bs 0 0).2.1 + (getG bs 0 0).1, 0) := rfl
  generalize getG bs 0 0 = r at *
  obtain ⟨v, n, er⟩ := r
  dsimp only at hf hT
  have HB := Lib.hid hb
  obtain ⟨ao, m, c, rfl, hm, hmc, hc⟩ := hb.len
  rw [bc_length] at hm
  obtain rfl : m = bs.length := by omega
  have HT := Lib.hid hT
  clear hT hb hm
  by_cases he : er = 0
  · subst he
    have hn : n ≤ bs.length ∧ 0 < n := by rcases hf with h | h | h <;> omega
    clear hf
    have hw1 : IntKind.u64.wrap ((bs.length : Int) - n) = (bs.length : Int) - n := by
      have := U64.wrap (q := bs.length - n) (by unfold U64; omega)
      rwa [show ((bs.length - n : Nat) : Int) = (bs.length : Int) - n from by omega] at this
    by_cases hv : v ≤ bs.length - n
    · have hv2 : (v : Int) ≤ (bs.length : Int) - n := by omega
      have hw2 : IntKind.i64.wrap (v : Int) = v := IntWalk.i64_in _ (by omega)
      have hcv : ∀ ao', (¬ c = n → ao' = Option.map (fun x => x.add n) ao) → (convert 24 9 (.slice ao' v (c - n))).run Tryz.prog w = .ok (.string ⟨((bs.drop n).take v).toArray⟩) w := fun ao' h => by
        have := HB.out.window n (n + v) (by omega) (by omega) h
        rw [Nat.add_sub_cancel_left] at this
        refine str_sl (S := S) ?_
        rwa [show bc ((bs.drop n).take v) = ((bc bs).drop n).take v from by simp [bc]]
      have HC := Lib.hid hcv
      clear hcv
      by_cases hcn : c = n
      · obtain rfl : v = 0 := by omega
        obtain rfl : n = c := by omega
        have hcv := HC.out ao (fun h => absurd rfl h)
        rw [Nat.sub_self] at hcv
        go_enter Tryz.func73, Tryz.ntmps73
        go_wp2_with fail
        refine HG.out.mono ?_
        rintro e w1 ⟨rfl, rfl⟩
        go_wp2_with fail
        go_ret3
        exact RetGetT.mk' [] n 0 (by rw [HT.out, if_neg (by simp), if_neg (by omega)]; simp) (by simp) (by omega) rfl
      · have hcv := HC.out _ (fun _ => rfl)
        go_enter Tryz.func73, Tryz.ntmps73
        go_wp2_with fail
        refine HG.out.mono ?_
        rintro e w1 ⟨rfl, rfl⟩
        go_wp2_with fail
        go_ret3
        exact RetGetT.mk' ((bs.drop n).take v) (n + v) 0 (by rw [HT.out, if_neg (by simp), if_neg (by omega)]) rfl (by omega) rfl
    · have hv2 : (bs.length : Int) - n < v := by omega
      go_enter Tryz.func73, Tryz.ntmps73
      go_wp2_with fail
      refine HG.out.mono ?_
      rintro e w1 ⟨rfl, rfl⟩
      go_wp2_with fail
      go_ret3
      exact RetGetT.mk' [] 0 7 (by rw [HT.out, if_neg (by simp), if_pos (by omega)]) rfl rfl rfl
  · have h1 : ((er : Int) != 0) = true := by rw [bne_iff_ne]; omega
    go_enter Tryz.func73, Tryz.ntmps73
    go_wp2_with fail
    refine HG.out.mono ?_
    rintro e w1 ⟨rfl, rfl⟩
    go_wp2_with fail
    go_ret3
    exact RetGetT.mk' [] 0 er (by rw [HT.out, if_pos he]) rfl rfl rfl

end Go.Proofs.YtmmeofiocbfamaaGreatDoor
namespace Go.Proofs.YtmmeofiocbfamaaGreatDoor
open Go Go.RowKit

theorem Sl.bytes {S : Nat → Prop} {w : World} {v : Value} {bs : List UInt8} (h : Sl S w 1 v (bc bs)) : ∃ ao c, v = .slice ao bs.length c ∧ bs.length ≤ c ∧ c ≤ 9223372036854775807 ∧ (ao = none → c = 0) ∧
    (0 < bs.length → ∃ b off, ao = some ⟨b, off, none⟩ ∧ S b ∧ ∀ j (hj : j < bs.length), w.cell? ⟨b, off + j, none⟩ = some (.int .u8 bs[j].toNat)) := by
  obtain ⟨ao, n, c, rfl, hn, hnc, hc, hnone, hcell⟩ := h
  rw [bc_length] at hn
  obtain rfl : n = bs.length := by omega
  refine ⟨ao, c, rfl, hnc, by have e : maxLen = 9223372036854775807 := rfl; omega, hnone, fun h0 => ?_⟩
  obtain ⟨b, off, rfl, hb, hcc⟩ := hcell (by intro e; have := congrArg List.length e; rw [bc_length, List.length_nil] at this; omega)
  exact ⟨b, off, rfl, hb, fun j hj => hcc j _ (by simp [bc, hj])⟩
theorem sumF_snoc (s : Nat) {l : List UInt8} {i : Nat} (h : i < l.length) : sumF s (l.take (i + 1)) = crcN 8 (sumF s (l.take i) ^^^ l[i].toNat) := by
  unfold sumF
  rw [List.take_succ_eq_append_getElem h, List.foldl_append]
  rfl
theorem xor_lt8 (a b : Nat) (ha : a < 256) (hb : b < 256) : a ^^^ b < 256 := Nat.xor_lt_two_pow (n := 8) ha hb

set_option maxRecDepth 100000 in
set_option maxHeartbeats 1000000 in
theorem sum_any {S : Nat → Prop} (v : Value) (bs : List UInt8) (w : World) (hS : ∀ b, S b → b < w.heap.size) (h : Sl S w 1 v (bc bs)) :
    Calls Tryz.prog 58 #[v] w fun e w' => e = .returned (.int .u32 (sumB bs)) ∧ Ext w w' := by
  obtain ⟨ao, c, rfl, hlc, hcm, -, hcell⟩ := Sl.bytes h
  have HC := Lib.hid hcell
  have HT := Lib.hid (table_any w)
  have HSS := Lib.hid hS
  have HZ := Lib.hid (zero_of_info zero115).1
  have HSZ := Lib.hid (show (Tryz.prog.info? 121).map (·.size) = some (tabC 256).size from by rw [tabC_size (Nat.le_refl _)]; exact (zero_of_info zero115).2)
  clear hcell h hS
  go_enter Tryz.func58, Tryz.ntmps58
  go_wp2_with fail
  refine HT.out.mono ?_
  rintro e w1 ⟨rfl, hb1⟩
  have hz := HZ.out
  have HX1 := Lib.hid hb1
  clear hb1 HT
  go_wp2_with (refine wpList_store_row rfl 121 (.tmp 3) (.tmp 7) rfl w1.heap.size (tabC 256) rfl rfl 121 (Array.replicate 256 (.int .u32 0)) (heap_alloc_last w1 _) HSZ.out (by rw [tabC_size (Nat.le_refl _), Array.size_replicate]) (tabC_one 256) ?_)
  clear hz
  rw [World.setRow_alloc_new]
  obtain ⟨w2, hw2⟩ : ∃ x, x = w1.alloc (.cells (tabC 256) 121) := ⟨_, rfl⟩
  have HB := Lib.hid (show Blk w2 w1.heap.size (tabC 256) 121 from by rw [hw2]; exact Blk.made _ _ _)
  have HX := Lib.hid (show Ext w w2 from HX1.out.trans (by rw [hw2]; exact Ext.alloc _ _))
  rw [← hw2]
  clear hw2 HX1
  go_wp2_with fail
  go_loopw [4, 10] (fun sv iv wr => ∃ i : Nat, i ≤ bs.length ∧ iv = .int .i64 i ∧ sv = .int .u32 (sumF 4294967295 (bs.take i)) ∧ wr = w2) (fun _ iv _ => bs.length - (intOf iv).toNat)
  case atStart => exact ⟨0, by omega, rfl, rfl, rfl⟩
  case round =>
    obtain ⟨i, hi, rfl, rfl, rfl⟩ := hrel
    by_cases hlt : i < bs.length
    · obtain ⟨b, off, rfl, hb, hcc⟩ := HC.out (by omega)
      have d0 := HX.out.cell (a := ⟨b, off + i, none⟩) (hcc i hlt)
      have HN := Lib.hid (sumF_snoc 4294967295 hlt)
      have hc256 := (bs[i]).toNat_lt
      have hs := sumF_lt (show 4294967295 < 2 ^ 32 by decide) (bs.take i)
      generalize bs[i].toNat = cn at *
      generalize sumF 4294967295 (bs.take i) = s at *
      have hk := xor_lt8 (s % 256) cn (Nat.mod_lt _ (by decide)) (by omega)
      have HE := Lib.hid (u8_xor_nat (s % 256) cn (Nat.mod_lt _ (by decide)) (by omega))
      have HV := Lib.hid (u32_xor_nat (s / 256) (crcN 8 (s % 256 ^^^ cn)) (by omega) (crcN_lt 8 (by omega)))
      rw [← crc_table] at HV
      have t1 := (HB.out.cells (s % 256 ^^^ cn)).trans (tabC_at hk)
      have e1 : (s : Int) % 256 = ((s % 256 : Nat) : Int) := by omega
      have e2 : bits .xor .u8 ((s : Int) % 256) (cn : Int) = ((s % 256 ^^^ cn : Nat) : Int) := by rw [e1]; exact HE.out
      generalize hkk : s % 256 ^^^ cn = k at *
      have hk0 : (0 : Int) ≤ (k : Int) := by omega
      have hk1 : (k : Int) < 256 := by omega
      clear e1 HE hkk
      have HR := Lib.hid (show bits .xor .u32 ((s : Int) / 256) ((crcN 8 k : Nat) : Int) = ((sumF 4294967295 (bs.take (i + 1)) : Nat) : Int) from by rw [show ((s : Int) / 256) = ((s / 256 : Nat) : Int) from by omega, HV.out, HN.out])
      go_wp2_with fail
      go_roundw
      case rel => exact ⟨i + 1, by omega, by go_num, congrArg (Value.int .u32) HR.out, trivial⟩
      case measure => simp [intOf]; omega
    · obtain rfl : i = bs.length := by omega
      rw [List.take_length]
      have HR := Lib.hid (show bits .xor .u32 IntKind.u32.max ((sumF 4294967295 bs : Nat) : Int) = ((sumB bs : Nat) : Int) from by
        have := u32_xor_nat 4294967295 (sumF 4294967295 bs) (by decide) (sumF_lt (by decide) bs)
        rw [Nat.xor_comm] at this
        exact this)
      go_wp2_with fail
      go_ret
      exact ⟨congrArg (fun z => Ending.returned (Value.int .u32 z)) HR.out, HX.out⟩

end Go.Proofs.YtmmeofiocbfamaaGreatDoor
namespace Go.Proofs.YtmmeofiocbfamaaGreatDoor
open Go Go.RowKit

theorem four_bc (v : Nat) : bc (four v) = [.int .u8 ((v / 16777216 : Nat) % 256 : Nat), .int .u8 ((v / 65536 : Nat) % 256 : Nat), .int .u8 ((v / 256 : Nat) % 256 : Nat), .int .u8 (v % 256 : Nat)] := by
  unfold four bc
  simp
theorem four_eq {q : Nat} (h : q < 4294967296) : bc (four q) = [.int .u8 ((q : Int) / 16777216), .int .u8 ((q : Int) / 65536 % 256), .int .u8 ((q : Int) / 256 % 256), .int .u8 ((q : Int) % 256)] := by
  rw [four_bc]
  have a : (((q / 16777216 : Nat) % 256 : Nat) : Int) = (q : Int) / 16777216 := by omega
  have b : (((q / 65536 : Nat) % 256 : Nat) : Int) = (q : Int) / 65536 % 256 := by omega
  have c : (((q / 256 : Nat) % 256 : Nat) : Int) = (q : Int) / 256 % 256 := by omega
  have d : ((q % 256 : Nat) : Int) = (q : Int) % 256 := by omega
  rw [a, b, c, d]

set_option maxRecDepth 100000 in
set_option maxHeartbeats 1000000 in
theorem put_frame {B : Nat} (b : Value) (xs : List UInt8) (q : Nat) (w : World) (hB : B ≤ w.heap.size) (hb : Own w B 5 1 b (bc xs)) (hx : xs.length ≤ 100000000) (hq : q < 4294967296) :
    Calls Tryz.prog 57 #[b, .int .u32 q] w fun e w' => ∃ v, e = .returned v ∧ Own w' B 5 1 v (bc (xs ++ four q)) ∧ Below B w w' := by
  have HO := Lib.hid hb
  have HL := Lib.hid hx
  have HBW := Lib.hid hB
  obtain ⟨ao, n, c, rfl, -, -, -⟩ := hb.sl.len
  clear hb hx
  go_enter Tryz.func57, Tryz.ntmps57
  go_wp2_with (at_builtin; go_must (refine wpList_own_lit bytesT rfl (.tmp 5) (.tmp 17) rfl rfl HO.out rfl rfl (by simp [Value.oneCell']) (by have := HL.out; rw [bc_length]; simp; omega) (by have := HL.out; rw [bc_length]; simp; omega) HBW.out ?_; intro v5 w5 hown5 hb5 _))
  have HF := Lib.hid (show Own w5 B 5 1 v5 (bc (xs ++ four q)) from by rw [bc_append, four_eq hq]; exact hown5)
  have HB5 := Lib.hid hb5
  obtain ⟨ao5, n5, c5, rfl, -, -, -⟩ := hown5.sl.len
  clear hown5 hb5
  go_ret
  exact ⟨_, rfl, HF.out, HB5.out⟩

theorem or4 (x0 x1 x2 x3 : Nat) (h0 : x0 < 2 ^ 8) (h1 : x1 < 2 ^ 8) (h2 : x2 < 2 ^ 8) (h3 : x3 < 2 ^ 8) :
    bits .or .u32 (bits .or .u32 (bits .or .u32 (IntKind.u32.wrap (IntKind.u32.wrap (x0 : Int) * 16777216)) (IntKind.u32.wrap (IntKind.u32.wrap (x1 : Int) * 65536))) (IntKind.u32.wrap (IntKind.u32.wrap (x2 : Int) * 256))) (IntKind.u32.wrap (x3 : Int)) = ((x0 * 16777216 + x1 * 65536 + x2 * 256 + x3 : Nat) : Int) := by
  have e0 : IntKind.u32.wrap (IntKind.u32.wrap (x0 : Int) * 16777216) = ((x0 * 16777216 : Nat) : Int) := by rw [IntKind.wrap_u32', IntKind.wrap_u32']; omega
  have e1 : IntKind.u32.wrap (IntKind.u32.wrap (x1 : Int) * 65536) = ((x1 * 65536 : Nat) : Int) := by rw [IntKind.wrap_u32', IntKind.wrap_u32']; omega
  have e2 : IntKind.u32.wrap (IntKind.u32.wrap (x2 : Int) * 256) = ((x2 * 256 : Nat) : Int) := by rw [IntKind.wrap_u32', IntKind.wrap_u32']; omega
  have e3 : IntKind.u32.wrap (x3 : Int) = ((x3 : Nat) : Int) := by rw [IntKind.wrap_u32']; omega
  rw [e0, e1, e2, e3, u32_or_nat _ _ (by omega) (by omega), nat_join 24 _ _ (by omega) (by omega), u32_or_nat _ _ (by omega) (by omega), nat_join 16 _ _ (by omega) (by omega), u32_or_nat _ _ (by omega) (by omega), nat_join 8 _ _ (by omega) (by omega)]

set_option maxRecDepth 100000 in
set_option maxHeartbeats 1000000 in
theorem get_frame {S : Nat → Prop} (v : Value) (bs : List UInt8) (w : World) (h : Sl S w 1 v (bc bs)) (h4 : 4 ≤ bs.length) :
    Calls Tryz.prog 87 #[v] w fun e w' => e = .returned (.int .u32 (get4 bs)) ∧ Ext w w' := by
  obtain ⟨ao, c, rfl, hlc, hcm, -, hcell⟩ := Sl.bytes h
  obtain ⟨b, off, rfl, hb, hcc⟩ := hcell (by omega)
  obtain ⟨b0, b1, b2, b3, rest, rfl⟩ : ∃ b0 b1 b2 b3 rest, bs = b0 :: b1 :: b2 :: b3 :: rest := by
    match bs, h4 with
    | b0 :: b1 :: b2 :: b3 :: rest, _ => exact ⟨b0, b1, b2, b3, rest, rfl⟩
  have c0 := hcc 0 (by simp)
  have c1 := hcc 1 (by simp)
  have c2 := hcc 2 (by simp)
  have c3 := hcc 3 (by simp)
  simp only [List.getElem_cons_zero, List.getElem_cons_succ, Nat.add_zero] at c0 c1 c2 c3
  have HL := Lib.hid (show get4 (b0 :: b1 :: b2 :: b3 :: rest) = b0.toNat * 16777216 + b1.toNat * 65536 + b2.toNat * 256 + b3.toNat from rfl)
  have h0 := b0.toNat_lt
  have h1 := b1.toNat_lt
  have h2 := b2.toNat_lt
  have h3 := b3.toNat_lt
  generalize (b0 :: b1 :: b2 :: b3 :: rest) = bs at *
  generalize b0.toNat = x0 at *
  generalize b1.toNat = x1 at *
  generalize b2.toNat = x2 at *
  generalize b3.toNat = x3 at *
  clear hcc hcell h hb
  have l0 : 0 < bs.length := by omega
  have l1 : (1 : Int) < (bs.length : Int) := by omega
  have l2 : (2 : Int) < (bs.length : Int) := by omega
  have l3 : (3 : Int) < (bs.length : Int) := by omega
  go_enter Tryz.func87, Tryz.ntmps87
  go_wp2_with fail
  obtain ⟨wd, hwd⟩ : ∃ wd, wd = w.drew := ⟨_, rfl⟩
  have HX := Lib.hid (show Ext w wd from by rw [hwd]; exact Ext.drew w)
  refine region_walkN (Ext wd) (by rw [← hwd]; exact Ext.refl _) (by kernel_rfl) (by kernel_rfl) (fun _ _ d _ _ h => by cases d <;> exact h) ?_
  rw [← hwd]
  have g0 : ∀ W, Ext wd W → W.cell? ⟨b, off, none⟩ = some (.int .u8 x0) := fun W h => (HX.out.trans h).cell (a := ⟨b, off, none⟩) c0
  have g1 : ∀ W, Ext wd W → W.cell? ⟨b, off + 1, none⟩ = some (.int .u8 x1) := fun W h => (HX.out.trans h).cell (a := ⟨b, off + 1, none⟩) c1
  have g2 : ∀ W, Ext wd W → W.cell? ⟨b, off + 2, none⟩ = some (.int .u8 x2) := fun W h => (HX.out.trans h).cell (a := ⟨b, off + 2, none⟩) c2
  have g3 : ∀ W, Ext wd W → W.cell? ⟨b, off + 3, none⟩ = some (.int .u8 x3) := fun W h => (HX.out.trans h).cell (a := ⟨b, off + 3, none⟩) c3
  clear hwd c0 c1 c2 c3
  ((refine WalkN.take 0 _ ?_ (by simp only [List.getElem?_toArray, List.getElem?_cons_zero]; rfl) (by kernel_rfl) (by kernel_rfl) (by rfl) (fun W hW => ?_) ?_; rotate_left; · (go_simp; try with_reducible rfl)); simp only [Act.put, List.setIfInBounds_toArray, List.set_cons_zero, List.set_cons_succ]); ((refine WalkN.take 1 _ ?_ (by simp only [List.getElem?_toArray, List.getElem?_cons_succ, List.getElem?_cons_zero]; rfl) (by kernel_rfl) (by kernel_rfl) (by rfl) (fun W hW => ?_) ?_; rotate_left; · (go_simp; try with_reducible rfl)); simp only [Act.put, List.setIfInBounds_toArray, List.set_cons_zero, List.set_cons_succ]); ((refine WalkN.take 2 _ ?_ (by simp only [List.getElem?_toArray, List.getElem?_cons_succ, List.getElem?_cons_zero]; rfl) (by kernel_rfl) (by kernel_rfl) (by rfl) (fun W hW => ?_) ?_; rotate_left; · (go_simp; try with_reducible rfl)); simp only [Act.put, List.setIfInBounds_toArray, List.set_cons_zero, List.set_cons_succ]); ((refine WalkN.take 3 _ ?_ (by simp only [List.getElem?_toArray, List.getElem?_cons_succ, List.getElem?_cons_zero]; rfl) (by kernel_rfl) (by kernel_rfl) (by rfl) (fun W hW => ?_) ?_; rotate_left; · (go_simp; try with_reducible rfl)); simp only [Act.put, List.setIfInBounds_toArray, List.set_cons_zero, List.set_cons_succ]); ((refine WalkN.take 4 _ ?_ (by simp only [List.getElem?_toArray, List.getElem?_cons_succ, List.getElem?_cons_zero]; rfl) (by kernel_rfl) (by kernel_rfl) (by rfl) (fun W hW => ?_) ?_; rotate_left; · (go_simp; try with_reducible rfl)); simp only [Act.put, List.setIfInBounds_toArray, List.set_cons_zero, List.set_cons_succ]); ((refine WalkN.take 5 _ ?_ (by simp only [List.getElem?_toArray, List.getElem?_cons_succ, List.getElem?_cons_zero]; rfl) (by kernel_rfl) (by kernel_rfl) (by rfl) (fun W hW => ?_) ?_; rotate_left; · (go_simp; try with_reducible rfl)); simp only [Act.put, List.setIfInBounds_toArray, List.set_cons_zero, List.set_cons_succ]); ((refine WalkN.take 6 _ ?_ (by simp only [List.getElem?_toArray, List.getElem?_cons_succ, List.getElem?_cons_zero]; rfl) (by kernel_rfl) (by kernel_rfl) (by rfl) (fun W hW => ?_) ?_; rotate_left; · (go_simp; try with_reducible rfl)); simp only [Act.put, List.setIfInBounds_toArray, List.set_cons_zero, List.set_cons_succ]); ((refine WalkN.take 7 _ ?_ (by simp only [List.getElem?_toArray, List.getElem?_cons_succ, List.getElem?_cons_zero]; rfl) (by kernel_rfl) (by kernel_rfl) (by rfl) (fun W hW => ?_) ?_; rotate_left; · (go_simp; try with_reducible rfl)); simp only [Act.put, List.setIfInBounds_toArray, List.set_cons_zero, List.set_cons_succ]); ((refine WalkN.take 8 _ ?_ (by simp only [List.getElem?_toArray, List.getElem?_cons_succ, List.getElem?_cons_zero]; rfl) (by kernel_rfl) (by kernel_rfl) (by rfl) (fun W hW => ?_) ?_; rotate_left; · (go_simp; try with_reducible rfl)); simp only [Act.put, List.setIfInBounds_toArray, List.set_cons_zero, List.set_cons_succ]); ((refine WalkN.take 9 _ ?_ (by simp only [List.getElem?_toArray, List.getElem?_cons_succ, List.getElem?_cons_zero]; rfl) (by kernel_rfl) (by kernel_rfl) (by rfl) (fun W hW => ?_) ?_; rotate_left; · (go_simp; try with_reducible rfl)); simp only [Act.put, List.setIfInBounds_toArray, List.set_cons_zero, List.set_cons_succ]); ((refine WalkN.take 10 _ ?_ (by simp only [List.getElem?_toArray, List.getElem?_cons_succ, List.getElem?_cons_zero]; rfl) (by kernel_rfl) (by kernel_rfl) (by rfl) (fun W hW => ?_) ?_; rotate_left; · (go_simp; try with_reducible rfl)); simp only [Act.put, List.setIfInBounds_toArray, List.set_cons_zero, List.set_cons_succ]); ((refine WalkN.take 11 _ ?_ (by simp only [List.getElem?_toArray, List.getElem?_cons_succ, List.getElem?_cons_zero]; rfl) (by kernel_rfl) (by kernel_rfl) (by rfl) (fun W hW => ?_) ?_; rotate_left; · (go_simp; try with_reducible rfl)); simp only [Act.put, List.setIfInBounds_toArray, List.set_cons_zero, List.set_cons_succ]); ((refine WalkN.take 12 _ ?_ (by simp only [List.getElem?_toArray, List.getElem?_cons_succ, List.getElem?_cons_zero]; rfl) (by kernel_rfl) (by kernel_rfl) (by rfl) (fun W hW => ?_) ?_; rotate_left; · (go_simp; try with_reducible rfl)); simp only [Act.put, List.setIfInBounds_toArray, List.set_cons_zero, List.set_cons_succ]); ((refine WalkN.take 13 _ ?_ (by simp only [List.getElem?_toArray, List.getElem?_cons_succ, List.getElem?_cons_zero]; rfl) (by kernel_rfl) (by kernel_rfl) (by rfl) (fun W hW => ?_) ?_; rotate_left; · (go_simp; try with_reducible rfl)); simp only [Act.put, List.setIfInBounds_toArray, List.set_cons_zero, List.set_cons_succ]); ((refine WalkN.take 14 _ ?_ (by simp only [List.getElem?_toArray, List.getElem?_cons_succ, List.getElem?_cons_zero]; rfl) (by kernel_rfl) (by kernel_rfl) (by rfl) (fun W hW => ?_) ?_; rotate_left; · (go_simp; try with_reducible rfl)); simp only [Act.put, List.setIfInBounds_toArray, List.set_cons_zero, List.set_cons_succ]); ((refine WalkN.take 15 _ ?_ (by simp only [List.getElem?_toArray, List.getElem?_cons_succ, List.getElem?_cons_zero]; rfl) (by kernel_rfl) (by kernel_rfl) (by rfl) (fun W hW => ?_) ?_; rotate_left; · (go_simp; try with_reducible rfl)); simp only [Act.put, List.setIfInBounds_toArray, List.set_cons_zero, List.set_cons_succ]); ((refine WalkN.take 16 _ ?_ (by simp only [List.getElem?_toArray, List.getElem?_cons_succ, List.getElem?_cons_zero]; rfl) (by kernel_rfl) (by kernel_rfl) (by rfl) (fun W hW => ?_) ?_; rotate_left; · (go_simp; try with_reducible rfl)); simp only [Act.put, List.setIfInBounds_toArray, List.set_cons_zero, List.set_cons_succ]); ((refine WalkN.take 17 _ ?_ (by simp only [List.getElem?_toArray, List.getElem?_cons_succ, List.getElem?_cons_zero]; rfl) (by kernel_rfl) (by kernel_rfl) (by rfl) (fun W hW => ?_) ?_; rotate_left; · (go_simp; try with_reducible rfl)); simp only [Act.put, List.setIfInBounds_toArray, List.set_cons_zero, List.set_cons_succ]); ((refine WalkN.take 18 _ ?_ (by simp only [List.getElem?_toArray, List.getElem?_cons_succ, List.getElem?_cons_zero]; rfl) (by kernel_rfl) (by kernel_rfl) (by rfl) (fun W hW => ?_) ?_; rotate_left; · (go_simp; try with_reducible rfl)); simp only [Act.put, List.setIfInBounds_toArray, List.set_cons_zero, List.set_cons_succ]); ((refine WalkN.take 19 _ ?_ (by simp only [List.getElem?_toArray, List.getElem?_cons_succ, List.getElem?_cons_zero]; rfl) (by kernel_rfl) (by kernel_rfl) (by rfl) (fun W hW => ?_) ?_; rotate_left; · (go_simp; try with_reducible rfl)); simp only [Act.put, List.setIfInBounds_toArray, List.set_cons_zero, List.set_cons_succ]); ((refine WalkN.take 20 _ ?_ (by simp only [List.getElem?_toArray, List.getElem?_cons_succ, List.getElem?_cons_zero]; rfl) (by kernel_rfl) (by kernel_rfl) (by rfl) (fun W hW => ?_) ?_; rotate_left; · (go_simp; try with_reducible rfl)); simp only [Act.put, List.setIfInBounds_toArray, List.set_cons_zero, List.set_cons_succ]); ((refine WalkN.take 21 _ ?_ (by simp only [List.getElem?_toArray, List.getElem?_cons_succ, List.getElem?_cons_zero]; rfl) (by kernel_rfl) (by kernel_rfl) (by rfl) (fun W hW => ?_) ?_; rotate_left; · (go_simp; try with_reducible rfl)); simp only [Act.put, List.setIfInBounds_toArray, List.set_cons_zero, List.set_cons_succ]); ((refine WalkN.take 22 _ ?_ (by simp only [List.getElem?_toArray, List.getElem?_cons_succ, List.getElem?_cons_zero]; rfl) (by kernel_rfl) (by kernel_rfl) (by rfl) (fun W hW => ?_) ?_; rotate_left; · (go_simp; try with_reducible rfl)); simp only [Act.put, List.setIfInBounds_toArray, List.set_cons_zero, List.set_cons_succ])
  refine WalkN.done (by kernel_rfl) ?_
  clear g0 g1 g2 g3
  have HV := Lib.hid (or4 x0 x1 x2 x3 h0 h1 h2 h3)
  go_wp2_with fail
  go_ret
  exact ⟨congrArg (fun z => Ending.returned (Value.int .u32 z)) (by rw [HL.out]; exact HV.out), HX.out⟩

end Go.Proofs.YtmmeofiocbfamaaGreatDoor
