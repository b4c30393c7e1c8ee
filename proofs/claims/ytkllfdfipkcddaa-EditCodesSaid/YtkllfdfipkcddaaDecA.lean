/- The walks of edit's reader (took, number, small, text), of bytes that are whole. No condition: lemmas. -/
import Derived.Test.YtkllfdfipkcddaaEditU
import Derived.Test.YtkllfdfipkcddaaRegionL
namespace Go.Proofs.Ytkllfdfipkcddaa
open Go Go.RowKit

/-- A reader: what is left lies in blocks from before it, no fault. -/
def Rd (w : World) (rb : Nat) (ty : TypeId) (bs : List UInt8) : Prop := ∃ v, Blk w rb #[v, .int .i64 0] ty ∧ Sl (· < rb) w 1 v (bc bs)

theorem Rd.same {w w' : World} {rb : Nat} {ty : TypeId} {bs : List UInt8} (h : Rd w rb ty bs) (hk : ∀ b, b ≤ rb → w'.heap[b]? = w.heap[b]?) : Rd w' rb ty bs := by
  obtain ⟨v, hB, hS⟩ := h
  exact ⟨v, (hk rb (Nat.le_refl _)).trans hB, hS.same fun b hb => hk b (Nat.le_of_lt hb)⟩

/-- What a call of the reader's leaves. -/
def RdTo (rb : Nat) (ty : TypeId) (w w' : World) (bs : List UInt8) : Prop := Rd w' rb ty bs ∧ Kept (· ≠ rb) w w'

theorem getT_puT (s more : List UInt8) (hs : s.length ≤ 10000000) : getT (putT s ++ more) = (s, (putT s).length, 0) := by
  have hg := getG_put s.length (by unfold U64; omega) (s ++ more)
  unfold getT putT
  rw [List.append_assoc, hg]
  dsimp only
  rw [if_neg (by simp), if_neg (by simp)]
  simp [List.length_append]

theorem cut_slice {w : World} {S : Nat → Prop} {ao : Option Addr} {n c : Nat} {bs : List UInt8} (h : Sl S w 1 (.slice ao n c) (bc bs)) (k : Nat) (hk : k ≤ n) {ao' : Option Addr} (hao : ¬ c = k → ao' = Option.map (fun x => x.add k) ao) :
    Sl S w 1 (.slice ao' (n - k) (c - k)) (bc (bs.drop k)) := by
  have h1 : bc (bs.drop k) = (bc bs).drop k := by simp [bc]
  rw [h1]
  by_cases hc : c = k
  · subst hc
    obtain ⟨ao1, n1, c1, hv, h2, h3, h4, h5, h6⟩ := h
    cases hv
    obtain rfl : n = c := by omega
    refine ⟨ao', n - n, n - n, rfl, by rw [List.length_drop]; omega, Nat.le_refl _, by omega, fun _ => by omega, fun hne => absurd ?_ hne⟩
    exact List.drop_eq_nil_of_le (by omega)
  · rw [hao hc]
    exact h.drop k hk

set_option maxRecDepth 100000 in
set_option maxHeartbeats 800000 in
theorem took_any (rb n : Nat) (bs : List UInt8) (w : World) (h : Rd w rb 60 bs) (hn : n ≤ bs.length) :
    Calls Try.prog 37 #[.pointer (some ⟨rb, 0, none⟩), .int .i64 n, .int .i64 0] w (fun e w' => e = .returned (.bool true) ∧ RdTo rb 60 w w' (bs.drop n)) := by
  obtain ⟨v, hB, hS⟩ := h
  obtain ⟨ao, m, c, rfl, hm, hmc, hc⟩ := hS.len
  rw [bc_length] at hm
  obtain rfl : m = bs.length := by omega
  have hBc := hB.cells
  have hBf := hB.free
  have hfin : ∀ ao', (¬ c = n → ao' = Option.map (fun x => x.add n) ao) → RdTo rb 60 w ((w.setCell ⟨rb, 1, none⟩ (.int .i64 0)).setCell ⟨rb, 0, none⟩ (.slice ao' (bs.length - n) (c - n))) (bs.drop n) := fun ao' h => by
    have hb := Blk.set_to (Blk.set_to hB 1 (.int .i64 0) rfl) 0 (.slice ao' (bs.length - n) (c - n)) rfl
    have hk : Kept (· ≠ rb) w ((w.setCell ⟨rb, 1, none⟩ (.int .i64 0)).setCell ⟨rb, 0, none⟩ (.slice ao' (bs.length - n) (c - n))) := ((Kept.refl _ w).set (by simp) _).set (by simp) _
    exact ⟨⟨_, hb, (cut_slice hS n (by omega) h).same fun b hb => hk.block b (by have : b < rb := hb; omega)⟩, hk⟩
  have HF := Lib.hid hfin
  clear hfin hS hB hm
  go_enter Try.func37, Try.ntmps37
  go_wp2
  · go_ret
    have := HF.out ao fun h => by omega
    rw [show c - n = 0 from by omega] at this
    exact ⟨rfl, this⟩
  · go_ret
    exact ⟨rfl, HF.out _ fun _ => rfl⟩

set_option maxRecDepth 100000 in
set_option maxHeartbeats 800000 in
theorem number_any (rb q : Nat) (rest : List UInt8) (w : World) (h : Rd w rb 60 (putB q ++ rest)) (hq : U64 q) (hl : (putB q ++ rest).length ≤ 1000000) :
    Calls Try.prog 36 #[.pointer (some ⟨rb, 0, none⟩)] w (fun e w' => e = .returned (.int .u64 q) ∧ RdTo rb 60 w w' rest) := by
  have HT := took_any rb (putB q).length (putB q ++ rest) w h (by simp)
  rw [List.drop_left] at HT
  obtain ⟨v, hB, hS⟩ := h
  have HG := get_any v _ w _ hS (by omega)
  rw [getG_put q hq rest] at HG
  obtain ⟨ao, m, c, rfl, hm, hmc, hc⟩ := hS.len
  have hBc := hB.cells
  have HT := Lib.hid HT
  have HG := Lib.hid HG
  clear hS hB hm
  go_enter Try.func36, Try.ntmps36
  go_wp2_with fail
  refine HG.out.mono ?_
  rintro e w1 ⟨rfl, rfl⟩
  go_wp2_with fail
  refine HT.out.mono ?_
  rintro e w2 ⟨rfl, hr⟩
  go_wp2
  go_ret
  exact ⟨rfl, hr⟩

set_option maxRecDepth 100000 in
set_option maxHeartbeats 800000 in
theorem small_any (rb : Nat) (q : Int) (rest : List UInt8) (w : World) (h : Rd w rb 60 (putB q.toNat ++ rest)) (hq : In62 q) (hl : (putB q.toNat ++ rest).length ≤ 1000000) :
    Calls Try.prog 31 #[.pointer (some ⟨rb, 0, none⟩)] w (fun e w' => e = .returned (.int .i64 q) ∧ RdTo rb 60 w w' rest) := by
  obtain ⟨n, rfl⟩ : ∃ n : Nat, q = n := ⟨q.toNat, by unfold In62 at hq; omega⟩
  rw [Int.toNat_natCast] at *
  have HN := Lib.hid (number_any rb n rest w h (by unfold In62 at hq; unfold U64; omega) hl)
  have hs : (n : Int) / 4611686018427387904 = 0 := by unfold In62 at hq; omega
  have hw : IntKind.i64.wrap (n : Int) = n := IntWalk.i64_in _ (by unfold In62 at hq; omega)
  clear h hq
  go_enter Try.func31, Try.ntmps31
  go_wp2_with fail
  refine HN.out.mono ?_
  rintro e w1 ⟨rfl, hr⟩
  go_wp2
  go_ret
  exact ⟨rfl, hr⟩

set_option maxRecDepth 100000 in
set_option maxHeartbeats 800000 in
theorem text_any (rb : Nat) (t : ByteArray) (rest : List UInt8) (w : World) (h : Rd w rb 60 (putT t.data.toList ++ rest)) (hl : (putT t.data.toList ++ rest).length ≤ 1000000) :
    Calls Try.prog 32 #[.pointer (some ⟨rb, 0, none⟩)] w (fun e w' => e = .returned (.string t) ∧ RdTo rb 60 w w' rest) := by
  have HT := took_any rb (putT t.data.toList).length (putT t.data.toList ++ rest) w h (by simp)
  rw [List.drop_left] at HT
  obtain ⟨v, hB, hS⟩ := h
  have HG := getText_any v _ w _ hS (by omega)
  rw [getT_puT _ rest (by rw [putT, List.append_assoc] at hl; simp only [List.length_append] at hl; omega)] at HG
  obtain ⟨ao, m, c, rfl, hm, hmc, hc⟩ := hS.len
  have hBc := hB.cells
  have HT := Lib.hid HT
  have HG := Lib.hid HG
  clear hS hB hm
  go_enter Try.func32, Try.ntmps32
  go_wp2_with fail
  refine HG.out.mono ?_
  rintro e w1 ⟨rfl, rfl⟩
  go_wp2_with fail
  refine HT.out.mono ?_
  rintro e w2 ⟨rfl, hr⟩
  go_wp2
  go_ret
  exact ⟨rfl, hr⟩

end Go.Proofs.Ytkllfdfipkcddaa
