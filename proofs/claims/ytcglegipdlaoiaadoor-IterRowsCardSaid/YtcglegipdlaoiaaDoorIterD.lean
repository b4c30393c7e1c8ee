/- The walks of iter.Get, iter.Past and iter.Scan. No condition: lemmas. -/
import Derived.Test.YtcglegipdlaoiaaDoorIterC
namespace Go.Proofs.YtcglegipdlaoiaaDoor
open Go Go.RowKit

set_option maxRecDepth 100000 in
set_option maxHeartbeats 1600000 in
theorem get_any (x : Value) (rows : List (List ByteArray)) (key : ByteArray) (rev : Nat) (w : World) (henv : Env w) (hx : Srcs w x rows) (hok : SrcOk rows) (hr : U64 rev) (hk : key.size ≤ 10000000) :
    Calls Tryd.prog 10 #[x, .string key, .int .u64 rev] w (RetV (ansV (getAns key (ansOf (bestL rows (innerA (key, rev, true)))))) w) := by
  obtain ⟨w0, hw0⟩ : ∃ w0, w0 = w.alloc (.cells #[.string ⟨#[]⟩, .int .u64 0, .bool false] 29) := ⟨_, rfl⟩
  have hb0 : Below w.heap.size w w0 := by rw [hw0]; exact (Below.refl _ _).alloc (Nat.le_refl _) _
  have hB0 : Blk w0 w.heap.size #[.string ⟨#[]⟩, .int .u64 0, .bool false] 29 := by rw [hw0]; exact Blk.made w _ _
  have HI := Lib.hid (inner_any key rev true w0 hr (henv.below hb0) (by omega))
  have hx0 := hx.up hb0
  have henv0 := henv.below hb0
  have e1 := ByteArray.toList_eq key
  unfold entV at HI
  rw [hw0] at HI
  clear henv hx
  go_enter Tryd.func10, Tryd.ntmps10
  go_wp2_with fail
  refine HI.out.mono ?_
  rintro e w1 ⟨rfl, hb1⟩
  rw [← hw0] at hb1
  have hx1 := hx0.up hb1
  have HN := Lib.hid (next_any x rows (innerA (key, rev, true)) w1 (henv0.below hb1) hx1 hok)
  have hB1 := hB0.below hb1
  have hb01 : Below w.heap.size w w1 := hb0.trans (hb1.mono hb0.size)
  clear HI hw0 hb0 hB0 hx0 hx1 hb1
  go_wp2_with fail
  refine HN.out.mono ?_
  rintro e w2 ⟨rfl, hb2⟩
  have hB2 := hB1.below hb2
  have hb02 : Below w.heap.size w w2 := hb01.trans (hb2.mono hb01.size)
  clear HN hB1 hb01
  have hz := hB2.lt
  generalize ansOf (bestL rows (innerA (key, rev, true))) = a at *
  obtain ⟨⟨ek, er, ed⟩, ok, n⟩ := a
  unfold ansV
  dsimp only
  have e2 := ByteArray.toList_eq ek
  have hb03 : Below w.heap.size w (w2.alloc (.cells #[.string ek, .int .u64 er, .bool ed] 29)) := hb02.alloc hb02.size _
  have hc := hB2.cells
  have hf := hB2.free
  cases ok with
  | false =>
    have HG := Lib.hid (show getAns key ((ek, er, ed), false, n) = (zeroE, false, n) from rfl)
    go_wp2_with fail
    refine bodyPost_ret (v := ansV (zeroE, false, n)) (by simp [results, Tryd.results10, go_sem, ansV, zeroE, hc, hz]; rfl) rfl ⟨by rw [HG.out], ?_⟩
    exact (setAt (setAt (setAt hb02))).alloc (by have := hb02.size; simp; omega) _
  | true =>
    by_cases he : ek = key
    · have hbq : (ek.data.toList == key.data.toList) = true := by rw [he]; simp
      have HG := Lib.hid (show getAns key ((ek, er, ed), true, n) = ((ek, er, ed), true, 0) from by unfold getAns; rw [if_neg (by simp [he])])
      clear he
      go_wp2_with fail
      refine bodyPost_ret (v := ansV ((ek, er, ed), true, 0)) (by simp [results, Tryd.results10, go_sem, ansV, hc, hz]) rfl ⟨by rw [HG.out], ?_⟩
      exact (setAt (setAt (setAt hb02))).alloc (by have := hb02.size; simp; omega) _
    · have hbq := ba_beq he
      have HG := Lib.hid (show getAns key ((ek, er, ed), true, n) = (zeroE, false, n) from by unfold getAns; rw [if_pos (.inr he)])
      clear he
      go_wp2_with fail
      refine bodyPost_ret (v := ansV (zeroE, false, n)) (by simp [results, Tryd.results10, go_sem, ansV, zeroE, hc, hz]; rfl) rfl ⟨by rw [HG.out], ?_⟩
      exact (setAt (setAt (setAt hb02))).alloc (by have := hb02.size; simp; omega) _

theorem past_str (k : List UInt8) : (⟨(innerB k 0 false).toArray⟩ : ByteArray).extract 0 ((⟨(innerB k 0 false).toArray⟩ : ByteArray).size - 10) ++ ⟨#[2]⟩ = ⟨(esc k ++ [0, 2]).toArray⟩ := by
  have hl : (⟨(innerB k 0 false).toArray⟩ : ByteArray).size = (esc k).length + 11 := by
    show (innerB k 0 false).toArray.size = _
    simp [innerB, be8]
  apply ByteArray.ext
  rw [← Array.toList_inj, hl]
  rw [ByteArray.data_append, Array.toList_append, Lib.extract_data]
  show List.take _ (List.drop 0 (innerB k 0 false)) ++ [2] = esc k ++ [0, 2]
  unfold innerB
  rw [List.drop_zero]
  rw [show (esc k).length + 11 - 10 - 0 = (esc k).length + 1 from by omega]
  rw [show esc k ++ [0, 1] ++ (be8 (flip64 0) ++ [if false = true then 0 else 1]) = esc k ++ (0 :: 1 :: (be8 (flip64 0) ++ [if false = true then 0 else 1])) from by simp]
  rw [List.take_append, List.take_of_length_le (by omega), show (esc k).length + 1 - (esc k).length = 1 from by omega]
  simp

set_option maxRecDepth 100000 in
set_option maxHeartbeats 800000 in
theorem past_any (key : ByteArray) (w : World) (henv : Env w) (hk : key.size ≤ 10000000) : Calls Tryd.prog 25 #[.string key] w (RetV (.string (pastA key)) w) := by
  have HI := Lib.hid (inner_any key 0 false w (by unfold U64; omega) henv (by omega))
  have HP := Lib.hid (past_str key.data.toList)
  have hsz : 11 ≤ (⟨(innerB key.data.toList 0 false).toArray⟩ : ByteArray).size ∧ (⟨(innerB key.data.toList 0 false).toArray⟩ : ByteArray).size ≤ 100000000 := by
    have h1 := esc_length key.data.toList
    have h2 : key.data.toList.length = key.size := Array.length_toList
    have : (⟨(innerB key.data.toList 0 false).toArray⟩ : ByteArray).size = (esc key.data.toList).length + 11 := by
      show (innerB key.data.toList 0 false).toArray.size = _
      simp [innerB, be8]
    omega
  unfold entV at HI
  go_enter Tryd.func25, Tryd.ntmps25
  go_wp2_with fail
  refine HI.out.mono ?_
  rintro e w1 ⟨rfl, hb1⟩
  obtain ⟨h1, h2⟩ := hsz
  clear HI
  generalize (⟨(innerB key.data.toList 0 false).toArray⟩ : ByteArray) = s at *
  go_wp2_with fail
  go_ret
  exact ⟨congrArg (fun s => Ending.returned (Value.string s)) HP.out, hb1⟩

end Go.Proofs.YtcglegipdlaoiaaDoor
