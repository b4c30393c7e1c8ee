/- The walk of iter.next. No condition: lemmas. -/
import Derived.Test.YtcglegipdlaoiaaDoorIterB
import Derived.Test.YtcglegipdlaoiaaDoorCodecF
namespace Go.Proofs.YtcglegipdlaoiaaDoor
open Go Go.RowKit

def ansV (a : Ans) : Value := .tuple #[.agg #[.string a.1.1, .int .u64 a.1.2.1, .bool a.1.2.2], .bool a.2.1, .int .i64 a.2.2]

/-- The best of some rows. -/
def bestO (rows : List (List ByteArray)) (k : ByteArray) (i : Nat) : Option ByteArray := bestL (rows.take i) k
theorem bestO_succ {rows : List (List ByteArray)} {k : ByteArray} {i : Nat} (hi : i < rows.length) : bestO rows k (i + 1) = better (bestO rows k i) (seekL rows[i] k) := by
  unfold bestO bestL
  rw [List.take_succ_eq_append_getElem hi, List.foldl_append]
  rfl

/-- What the sources are. -/
structure SrcOk (rows : List (List ByteArray)) : Prop where
  up : ∀ r ∈ rows, Up r
  len : ∀ r ∈ rows, r.length ≤ 1000000
  key : ∀ r ∈ rows, ∀ k ∈ r, k.size ≤ 10000000

theorem seek_method (a : Option Addr) (n c : Nat) (w : World) : (method 216 48 (.slice a n c) "Seek").run Tryd.prog w = .ok (17, .slice a n c) w := by kernel_rfl

set_option maxRecDepth 100000 in
set_option maxHeartbeats 1600000 in
theorem next_any (x : Value) (rows : List (List ByteArray)) (k : ByteArray) (w : World) (henv : Env w) (hx : Srcs w x rows) (hok : SrcOk rows) :
    Calls Tryd.prog 21 #[x, .string k] w (RetV (ansV (ansOf (bestL rows k))) w) := by
  obtain ⟨w0, hw0⟩ : ∃ w0, w0 = w.alloc (.cells #[.string ⟨#[]⟩, .int .u64 0, .bool false] 29) := ⟨_, rfl⟩
  have hb0 : Below w.heap.size w w0 := by rw [hw0]; exact (Below.refl _ _).alloc (Nat.le_refl _) _
  have hx0 := hx.up hb0
  obtain ⟨ao, c, rfl, hac, hcm, hacell⟩ := hx0.get
  have HAC := Lib.hid hacell
  have HOK := Lib.hid hok
  have hm := seek_method
  clear hacell hx hx0 hok
  go_enter Tryd.func21, Tryd.ntmps21
  go_wp2
  go_loop [7, 8, 18] (fun bb ss ii => ∃ i : Nat, i ≤ rows.length ∧ ii = .int .i64 i ∧ bb = .string ((bestO rows k i).getD ⟨#[]⟩) ∧ ss = .bool (bestO rows k i).isSome) (fun _ _ ii => rows.length - (intOf ii).toNat)
  case atStart => exact ⟨0, by omega, rfl, rfl, rfl⟩
  case round =>
    obtain ⟨i, hi, rfl, rfl, rfl⟩ := hrel
    by_cases hlt : i < rows.length
    · obtain ⟨b, off, rfl, hbb, hc⟩ := HAC.out (by omega)
      obtain ⟨u, hci, hu⟩ := hc i hlt
      have HN := Lib.hid (bestO_succ (k := k) hlt)
      have hrm := List.getElem_mem hlt
      have hrU := HOK.out.up _ hrm
      have hrl := HOK.out.len _ hrm
      rw [hw0] at hci hu
      clear hc hrm
      generalize rows[i] = row at *
      generalize bestO rows k i = o at *
      rcases hu with ⟨rfl, rfl⟩ | ⟨sv, rfl, hrow⟩
      · have HN2 := Lib.hid (show bestO rows k (i + 1) = o from by rw [HN.out]; rfl)
        clear HN hrU hrl
        go_wp2_with fail
        go_round
        case rel => exact ⟨i + 1, by omega, by go_num, by rw [HN2.out], by rw [HN2.out]⟩
        case measure => simp [intOf]; omega
      · have HS := Lib.hid (seek_any sv row k _ hrow hrl hrU)
        obtain ⟨ro, rn, rc, rfl, _, _, _⟩ := hrow.len
        generalize seekL row k = p at *
        clear hrow hrU
        cases p with
        | none =>
          have HN2 := Lib.hid (show bestO rows k (i + 1) = o from HN.out)
          go_wp2_with fail
          refine HS.out.mono ?_
          rintro e w1 ⟨rfl, rfl⟩
          unfold seekV
          go_wp2_with fail
          go_round
          case rel => exact ⟨i + 1, by omega, by go_num, by rw [HN2.out], by rw [HN2.out]⟩
          case measure => simp [intOf]; omega
        | some y =>
          cases o with
          | none =>
            have HN2 := Lib.hid (show bestO rows k (i + 1) = some y from HN.out)
            go_wp2_with fail
            refine HS.out.mono ?_
            rintro e w1 ⟨rfl, rfl⟩
            unfold seekV
            go_wp2_with fail
            go_round
            case rel => exact ⟨i + 1, by omega, by go_num, by rw [HN2.out]; rfl, by rw [HN2.out]; rfl⟩
            case measure => simp [intOf]; omega
          | some z =>
            have e1 := ByteArray.toList_eq y
            have e2 := ByteArray.toList_eq z
            cases hyz : ltS y z with
            | true =>
              have HN2 := Lib.hid (show bestO rows k (i + 1) = some y from by rw [HN.out]; show (if ltS y z = true then some y else some z) = some y; rw [hyz]; rfl)
              unfold ltS at hyz
              rw [e1, e2] at hyz
              go_wp2_with fail
              refine HS.out.mono ?_
              rintro e w1 ⟨rfl, rfl⟩
              unfold seekV
              go_wp2_with fail
              go_round
              case rel => exact ⟨i + 1, by omega, by go_num, by rw [HN2.out]; rfl, by rw [HN2.out]; rfl⟩
              case measure => simp [intOf]; omega
            | false =>
              have HN2 := Lib.hid (show bestO rows k (i + 1) = some z from by rw [HN.out]; show (if ltS y z = true then some y else some z) = some z; rw [hyz]; rfl)
              unfold ltS at hyz
              rw [e1, e2] at hyz
              go_wp2_with fail
              refine HS.out.mono ?_
              rintro e w1 ⟨rfl, rfl⟩
              unfold seekV
              go_wp2_with fail
              go_round
              case rel => exact ⟨i + 1, by omega, by go_num, by rw [HN2.out]; rfl, by rw [HN2.out]; rfl⟩
              case measure => simp [intOf]; omega
    · obtain rfl : i = rows.length := by omega
      have HBO := Lib.hid (show bestL rows k = bestO rows k rows.length from by unfold bestO; rw [List.take_length])
      have HME : ∀ y, bestO rows k rows.length = some y → y.size ≤ 10000000 := fun y hy => by
        have := best_all HOK.out.up k
        rw [HBO.out, hy] at this
        obtain ⟨r, hr, hyr⟩ := (all_mem rows y).1 (seek_mem this.symm).1
        exact HOK.out.key r hr y hyr
      have HME := Lib.hid HME
      have hB0 : Blk w0 w.heap.size #[.string ⟨#[]⟩, .int .u64 0, .bool false] 29 := by rw [hw0]; exact Blk.made w _ _
      generalize bestO rows k rows.length = o at *
      cases o with
      | none =>
        go_wp2_with fail
        refine bodyPost_ret (v := ansV (ansOf none)) (by simp [results, Tryd.results21, go_sem, ansV, ansOf, zeroE]; rfl) rfl ⟨by rw [HBO.out], ?_⟩
        repeat (first | exact (Below.refl _ _).alloc (Nat.le_refl _) _ | apply setAt)
      | some y =>
        have hys := HME.out y rfl
        have HO := Lib.hid (outer_any y w0 (henv.below hb0) (by omega))
        rw [hw0] at HO
        clear HME
        go_wp2_with fail
        refine HO.out.mono ?_
        rintro e w1 ⟨rfl, hb1⟩
        rw [outV_deco]
        have hB1 := (hw0 ▸ hB0).below hb1
        have hb01 : Below w.heap.size w w1 := by rw [hw0] at hb0; exact hb0.trans (hb1.mono hb0.size)
        have HA := Lib.hid (show ansOf (some y) = match deco y with | some x => (x, true, 0) | none => (zeroE, false, 9) from rfl)
        have hc := hB1.cells
        have hf := hB1.free
        have hz := hB1.lt
        generalize deco y = d at *
        cases d with
        | none =>
          go_wp2_with fail
          refine bodyPost_ret (v := ansV (zeroE, false, 9)) (by simp [results, Tryd.results21, go_sem, ansV, zeroE, hc, hz]) rfl ⟨by rw [HBO.out, HA.out], ?_⟩
          exact (setAt (setAt (setAt hb01))).alloc (by have := hb01.size; simp; omega) _
        | some e =>
          obtain ⟨ek, er, ed⟩ := e
          go_wp2_with fail
          refine bodyPost_ret (v := ansV ((ek, er, ed), true, 0)) (by simp [results, Tryd.results21, go_sem, ansV, hc, hz]) rfl ⟨by rw [HBO.out, HA.out], ?_⟩
          exact (setAt (setAt (setAt hb01))).alloc (by have := hb01.size; simp; omega) _

end Go.Proofs.YtcglegipdlaoiaaDoor
