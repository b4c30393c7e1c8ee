/- The walks of the document's GetText, and of its reader of edits. No condition: lemmas. -/
import Derived.Test.YtkllfdfipkcddaaDecE
namespace Go.Proofs.Ytkllfdfipkcddaa
open Go Go.RowKit

set_option maxRecDepth 100000 in
set_option maxHeartbeats 800000 in
theorem refGetText_any (x : Value) (s rest : List UInt8) (w : World) (S : Nat → Prop) (hb : Sl S w 1 x (bc (putT s ++ rest))) (hs : s.length ≤ 10000000) (hx : (putT s ++ rest).length ≤ 1000000000) :
    Calls Try.prog 53 #[x] w (RetGetT (s, (putT s).length, 0) w) := by
  have hsp : putT s ++ rest = putB s.length ++ (s ++ rest) := by simp [putT]
  have hlp : (putT s).length = (putB s.length).length + s.length := by simp [putT]
  have hds : ((putT s ++ rest).drop (putB s.length).length).take s.length = s := by rw [hsp, List.drop_left, List.take_left]
  have hb' := hb
  rw [hsp] at hb'
  have HG := Lib.hid (refGet_any x s.length (s ++ rest) w S hb' (by unfold U64; omega) (by rw [← hsp]; exact hx))
  have hl0 := U64.len (q := s.length) (by unfold U64; omega)
  have hbl : (putT s ++ rest).length = (putB s.length).length + s.length + rest.length := by rw [List.length_append, hlp]
  clear hb' hsp
  obtain ⟨ao, m, c, rfl, hm, hmc, hc⟩ := hb.len
  rw [bc_length] at hm
  have HB := Lib.hid hb
  have HDS := Lib.hid hds
  have HLP := Lib.hid hlp
  clear hb hds hlp
  generalize putT s ++ rest = bs at *
  generalize (putB s.length).length = n at *
  generalize hv : s.length = v at *
  have HV := Lib.hid hv
  clear hv
  obtain rfl : m = bs.length := by omega
  have hw1 : IntKind.u64.wrap ((bs.length : Int) - n) = (bs.length : Int) - n := by
    have := U64.wrap (q := bs.length - n) (by unfold U64; omega)
    rwa [show ((bs.length - n : Nat) : Int) = (bs.length : Int) - n from by omega] at this
  have hv2 : (v : Int) ≤ (bs.length : Int) - n := by omega
  have hw2 : IntKind.i64.wrap (v : Int) = v := IntWalk.i64_in _ (by omega)
  have hcv : ∀ ao', (¬ c = n → ao' = Option.map (fun x => x.add n) ao) → (convert 40 9 (.slice ao' v (c - n))).run Try.prog w = .ok (.string ⟨s.toArray⟩) w := fun ao' h => by
    have := HB.out.window n (n + v) (by omega) (by omega) h
    rw [Nat.add_sub_cancel_left] at this
    have hy := HDS.out
    refine str_sl (S := S) ?_
    rwa [show ((bc bs).drop n).take v = bc s from by rw [← hy]; simp [bc]] at this
  have HC := Lib.hid hcv
  clear hcv hbl hm
  by_cases hcn : c = n
  · obtain rfl : v = 0 := by omega
    obtain rfl : n = c := by omega
    have hcv := HC.out ao (fun h => absurd rfl h)
    rw [Nat.sub_self] at hcv
    go_enter Try.func53, Try.ntmps53
    go_wp2_with fail
    refine HG.out.mono ?_
    rintro e w1 ⟨rfl, rfl⟩
    go_wp2_with fail
    go_ret3
    exact RetGetT.mk' s n 0 (by rw [HLP.out]; rfl) rfl (by omega) rfl
  · have hcv := HC.out _ (fun _ => rfl)
    go_enter Try.func53, Try.ntmps53
    go_wp2_with fail
    refine HG.out.mono ?_
    rintro e w1 ⟨rfl, rfl⟩
    go_wp2_with fail
    go_ret3
    exact RetGetT.mk' s (n + v) 0 (by rw [HLP.out]) rfl (by omega) rfl

set_option maxRecDepth 100000 in
set_option maxHeartbeats 800000 in
theorem refNumber_any (rb q : Nat) (rest : List UInt8) (w : World) (h : Rd w rb 68 (putB q ++ rest)) (hq : U64 q) (hl : (putB q ++ rest).length ≤ 1000000) :
    Calls Try.prog 38 #[.pointer (some ⟨rb, 0, none⟩)] w (fun e w' => e = .returned (.int .u64 q) ∧ RdTo rb 68 w w' rest) := by
  obtain ⟨v, hB, hS⟩ := h
  have HG := Lib.hid (refGet_any v q rest w _ hS hq (by omega))
  obtain ⟨ao, m, c, rfl, hm, hmc, hc⟩ := hS.len
  rw [bc_length] at hm
  have hn : (putB q).length ≤ m := by rw [List.length_append] at hm; omega
  have hfin : ∀ ao', (¬ c = (putB q).length → ao' = Option.map (fun x => x.add (putB q).length) ao) → RdTo rb 68 w (w.setCell ⟨rb, 0, none⟩ (.slice ao' (m - (putB q).length) (c - (putB q).length))) rest := fun ao' h => by
    have hb := Blk.set_to hB 0 (.slice ao' (m - (putB q).length) (c - (putB q).length)) rfl
    have hk : Kept (· ≠ rb) w (w.setCell ⟨rb, 0, none⟩ (.slice ao' (m - (putB q).length) (c - (putB q).length))) := (Kept.refl _ w).set (by simp) _
    have hcs := cut_slice hS (putB q).length hn h
    rw [List.drop_left] at hcs
    exact ⟨⟨_, hb, hcs.same fun b hb => hk.block b (by have : b < rb := hb; omega)⟩, hk⟩
  have HF := Lib.hid hfin
  have hBc := hB.cells
  have hBf := hB.free
  clear hfin hS hB hm
  generalize (putB q).length = n at *
  go_enter Try.func38, Try.ntmps38
  go_wp2_with fail
  refine HG.out.mono ?_
  rintro e w1 ⟨rfl, rfl⟩
  go_wp2
  · go_ret
    have := HF.out ao fun h => by omega
    rw [show c - n = 0 from by omega] at this
    exact ⟨rfl, this⟩
  · go_ret
    exact ⟨rfl, HF.out _ fun _ => rfl⟩

set_option maxRecDepth 100000 in
set_option maxHeartbeats 800000 in
theorem refSmall_any (rb : Nat) (q : Int) (rest : List UInt8) (w : World) (h : Rd w rb 68 (putB q.toNat ++ rest)) (hq : In62 q) (hl : (putB q.toNat ++ rest).length ≤ 1000000) :
    Calls Try.prog 39 #[.pointer (some ⟨rb, 0, none⟩)] w (fun e w' => e = .returned (.int .i64 q) ∧ RdTo rb 68 w w' rest) := by
  obtain ⟨n, rfl⟩ : ∃ n : Nat, q = n := ⟨q.toNat, by unfold In62 at hq; omega⟩
  rw [Int.toNat_natCast] at *
  have HN := Lib.hid (refNumber_any rb n rest w h (by unfold In62 at hq; unfold U64; omega) hl)
  have hs : (n : Int) < 4611686018427387904 := by unfold In62 at hq; omega
  have hw : IntKind.i64.wrap (n : Int) = n := IntWalk.i64_in _ (by unfold In62 at hq; omega)
  clear h hq hl
  generalize (n : Int) = z at *
  go_enter Try.func39, Try.ntmps39
  go_wp2_with fail
  refine HN.out.mono ?_
  rintro e w1 ⟨rfl, hr⟩
  go_wp2
  go_ret
  exact ⟨rfl, hr⟩

set_option maxRecDepth 100000 in
set_option maxHeartbeats 800000 in
theorem refText_any (rb : Nat) (t : ByteArray) (rest : List UInt8) (w : World) (h : Rd w rb 68 (putT t.data.toList ++ rest)) (hl : (putT t.data.toList ++ rest).length ≤ 1000000) :
    Calls Try.prog 40 #[.pointer (some ⟨rb, 0, none⟩)] w (fun e w' => e = .returned (.string t) ∧ RdTo rb 68 w w' rest) := by
  obtain ⟨v, hB, hS⟩ := h
  have HG := Lib.hid (refGetText_any v _ rest w _ hS (by rw [putT, List.append_assoc] at hl; simp only [List.length_append] at hl; omega) (by omega))
  obtain ⟨ao, m, c, rfl, hm, hmc, hc⟩ := hS.len
  rw [bc_length] at hm
  have hn : (putT t.data.toList).length ≤ m := by rw [List.length_append] at hm; omega
  have hfin : ∀ ao', (¬ c = (putT t.data.toList).length → ao' = Option.map (fun x => x.add (putT t.data.toList).length) ao) → RdTo rb 68 w (w.setCell ⟨rb, 0, none⟩ (.slice ao' (m - (putT t.data.toList).length) (c - (putT t.data.toList).length))) rest := fun ao' h => by
    have hb := Blk.set_to hB 0 (.slice ao' (m - (putT t.data.toList).length) (c - (putT t.data.toList).length)) rfl
    have hk : Kept (· ≠ rb) w (w.setCell ⟨rb, 0, none⟩ (.slice ao' (m - (putT t.data.toList).length) (c - (putT t.data.toList).length))) := (Kept.refl _ w).set (by simp) _
    have hcs := cut_slice hS (putT t.data.toList).length hn h
    rw [List.drop_left] at hcs
    exact ⟨⟨_, hb, hcs.same fun b hb => hk.block b (by have : b < rb := hb; omega)⟩, hk⟩
  have HF := Lib.hid hfin
  have hBc := hB.cells
  have hBf := hB.free
  clear hfin hS hB hm
  generalize (putT t.data.toList).length = n at *
  go_enter Try.func40, Try.ntmps40
  go_wp2_with fail
  refine HG.out.mono ?_
  rintro e w1 ⟨rfl, rfl⟩
  go_wp2
  · go_ret
    have := HF.out ao fun h => by omega
    rw [show c - n = 0 from by omega] at this
    exact ⟨rfl, this⟩
  · go_ret
    exact ⟨rfl, HF.out _ fun _ => rfl⟩

end Go.Proofs.Ytkllfdfipkcddaa
