/- The walks of codec.PutText, sentryref02.PutText and codec.GetText, apart from the codec's claims. No condition: lemmas. -/
import Derived.Test.YtkllfdfipkcddaaCodecB
import Derived.Test.YtkllfdfipkcddaaKept
import Derived.Lib.BufferRead
namespace Go.Proofs.Ytkllfdfipkcddaa
open Go Go.RowKit

/-- 'string(b)' of a slice that reads as bytes. -/
theorem str_sl {S : Nat → Prop} {w : World} {v : Value} {l : List UInt8} (h : Sl S w 1 v (bc l)) : (convert 40 9 v).run Try.prog w = .ok (.string ⟨l.toArray⟩) w := by
  obtain ⟨ao, n, c, rfl, hn, hnc, hc, hnone, hcell⟩ := h
  rw [bc_length] at hn
  obtain rfl : n = l.length := by omega
  cases ao with
  | none =>
    obtain rfl : c = 0 := hnone rfl
    obtain rfl : l = [] := List.eq_nil_of_length_eq_zero (by omega)
    exact Lib.run_convert_nil_bytes (P := Try.prog) w 40 9 5 0 Try.underlying40 Try.underlying5 Try.underlying9
  | some a =>
    refine run_convert_bytes_back (P := Try.prog) w 40 9 5 a c l Try.underlying40 Try.underlying5 Try.underlying9 (fun j hj => ?_)
    obtain ⟨b, off, hbo, _, hcc⟩ := hcell (fun e => by have := congrArg List.length e; simp [bc_length] at this; subst this; exact absurd hj (by simp))
    cases hbo
    rw [Addr.add_lit]
    exact hcc j _ (by simp [bc, hj])

theorem bytesInfo : (Try.prog.info? 5).map (fun i => (i.zero, i.size, i.bytes)) = some (some (.int .u8 0), 1, 1) := by kernel_rfl

/-- P2.1: a text as bytes: its length, its bytes. -/
def putT (s : List UInt8) : List UInt8 := putB s.length ++ s

theorem size_data (s : ByteArray) : s.data.toList.length = s.size := Array.length_toList

set_option maxRecDepth 100000 in
set_option maxHeartbeats 400000 in
theorem putText_any (b : Value) (xs : List UInt8) (s : ByteArray) (w : World) (hb : Sl (· < w.heap.size) w 1 b (bc xs)) (hx : xs.length ≤ 10000000) (hs : s.size ≤ 10000000) :
    Calls Try.prog 27 #[b, .string s] w (RetApp w 5 1 (bc (xs ++ putT s.data.toList))) := by
  have hU : U64 s.size := by unfold U64; omega
  have hw : IntKind.u64.wrap (s.size : Int) = s.size := hU.wrap
  have HP := Lib.hid (put_any b xs s.size w hb (by omega) hU)
  have hl := hU.len
  go_enter Try.func27, Try.ntmps27
  go_wp2_with fail
  refine HP.out.mono ?_
  rintro e w1 ⟨v, rfl, happ, hb1⟩
  have hbs := hb1.size
  have hcl := bc_length (xs ++ putB s.size)
  rw [List.length_append] at hcl
  go_wp2_with (at_builtin; refine wpList_app_str Try.underlying40 Try.underlying9 bytesInfo rfl (.tmp 9) (.tmp 10) rfl rfl happ rfl (by omega) hbs ?_; intro v2 w2 happ2 hb2 _)
  go_ret
  refine ⟨_, rfl, ?_, hb1.trans hb2⟩
  rw [show bc (xs ++ putT s.data.toList) = bc (xs ++ putB s.size) ++ Lib.strCells s from by rw [putT, size_data, ← List.append_assoc, bc_append (xs ++ putB s.size)]; rfl]
  exact happ2

set_option maxRecDepth 100000 in
set_option maxHeartbeats 400000 in
theorem refPutText_any (b : Value) (xs : List UInt8) (s : ByteArray) (w : World) (hb : Sl (· < w.heap.size) w 1 b (bc xs)) (hx : xs.length ≤ 10000000) (hs : s.size ≤ 10000000) :
    Calls Try.prog 30 #[b, .string s] w (RetApp w 5 1 (bc (xs ++ putT s.data.toList))) := by
  have hU : U64 s.size := by unfold U64; omega
  have hw : IntKind.u64.wrap (s.size : Int) = s.size := hU.wrap
  have HP := Lib.hid (refPut_any b xs s.size w hb (by omega) hU)
  have hl := hU.len
  go_enter Try.func30, Try.ntmps30
  go_wp2_with fail
  refine HP.out.mono ?_
  rintro e w1 ⟨v, rfl, happ, hb1⟩
  have hbs := hb1.size
  have hcl := bc_length (xs ++ putB s.size)
  rw [List.length_append] at hcl
  go_wp2_with (at_builtin; refine wpList_app_str Try.underlying40 Try.underlying9 bytesInfo rfl (.tmp 9) (.tmp 10) rfl rfl happ rfl (by omega) hbs ?_; intro v2 w2 happ2 hb2 _)
  go_ret
  refine ⟨_, rfl, ?_, hb1.trans hb2⟩
  rw [show bc (xs ++ putT s.data.toList) = bc (xs ++ putB s.size) ++ Lib.strCells s from by rw [putT, size_data, ← List.append_assoc, bc_append (xs ++ putB s.size)]; rfl]
  exact happ2

/-- P2.1: the text that bytes begin with: text, length, error. -/
def getT (bs : List UInt8) : List UInt8 × Nat × Nat :=
  if (getG bs 0 0).2.2 ≠ 0 then ([], 0, (getG bs 0 0).2.2)
  else if (getG bs 0 0).1 > bs.length - (getG bs 0 0).2.1 then ([], 0, 7)
  else ((bs.drop (getG bs 0 0).2.1).take (getG bs 0 0).1, (getG bs 0 0).2.1 + (getG bs 0 0).1, 0)

theorem getG_facts : ∀ (bs : List UInt8) (i v : Nat), (getG bs i v).2.2 = 0 ∧ i < (getG bs i v).2.1 ∧ (getG bs i v).2.1 ≤ i + bs.length ∨ (getG bs i v).2.2 = 7 ∨ (getG bs i v).2.2 = 9
  | [], _, _ => by simp [getG]
  | c :: r, i, v => by
    unfold getG
    split
    · simp
    · split
      · simp
      · rcases getG_facts r (i + 1) (v + c.toNat % 128 * 2 ^ (7 * i)) with ⟨h1, h2, h3⟩ | h
        · refine .inl ⟨h1, by omega, ?_⟩
          rw [List.length_cons]
          omega
        · exact .inr h

/-- GetText's answer. -/
def RetGetT (r : List UInt8 × Nat × Nat) (w : World) (e : Ending) (w' : World) : Prop := e = .returned (.tuple #[.string ⟨r.1.toArray⟩, .int .i64 r.2.1, .int .i64 r.2.2]) ∧ w = w'
theorem RetGetT.mk' {s : ByteArray} {b c : Int} {r : List UInt8 × Nat × Nat} {w : World} (x : List UInt8) (y z : Nat) (h : r = (x, y, z)) (h1 : s = ⟨x.toArray⟩) (h2 : b = y) (h3 : c = z) : RetGetT r w (.returned (.tuple #[.string s, .int .i64 b, .int .i64 c])) w := by
  subst h h1 h2 h3
  exact ⟨rfl, rfl⟩

set_option maxRecDepth 100000 in
set_option maxHeartbeats 400000 in
theorem getText_any (x : Value) (bs : List UInt8) (w : World) (S : Nat → Prop) (hb : Sl S w 1 x (bc bs)) (hx : bs.length ≤ 1000000000) :
    Calls Try.prog 50 #[x] w (RetGetT (getT bs) w) := by
  have HG := Lib.hid (get_any x bs w S hb hx)
  have hf := getG_facts bs 0 0
  have hT : getT bs = if (getG bs 0 0).2.2 ≠ 0 then ([], 0, (getG bs 0 0).2.2) else if (getG bs 0 0).1 > bs.length - (getG bs 0 0).2.1 then ([], 0, 7) else ((bs.drop (getG bs 0 0).2.1).take (getG bs 0 0).1, (getG bs 0 0).2.1 + (getG bs 0 0).1, 0) := rfl
  generalize getG bs 0 0 = r at *
  obtain ⟨v, n, er⟩ := r
  dsimp only at hf hT
  have HB := Lib.hid hb
  obtain ⟨ao, m, c, rfl, hm, hmc, hc⟩ := hb.len
  rw [bc_length] at hm
  obtain rfl : m = bs.length := by omega
  have HT := Lib.hid hT
  clear hT hb hm
  by_cases he : er = 0
  · subst he
    have hn : n ≤ bs.length ∧ 0 < n := by rcases hf with h | h | h <;> omega
    clear hf
    have hw1 : IntKind.u64.wrap ((bs.length : Int) - n) = (bs.length : Int) - n := by
      have := U64.wrap (q := bs.length - n) (by unfold U64; omega)
      rwa [show ((bs.length - n : Nat) : Int) = (bs.length : Int) - n from by omega] at this
    by_cases hv : v ≤ bs.length - n
    · have hv2 : (v : Int) ≤ (bs.length : Int) - n := by omega
      have hw2 : IntKind.i64.wrap (v : Int) = v := IntWalk.i64_in _ (by omega)
      have hcv : ∀ ao', (¬ c = n → ao' = Option.map (fun x => x.add n) ao) → (convert 40 9 (.slice ao' v (c - n))).run Try.prog w = .ok (.string ⟨((bs.drop n).take v).toArray⟩) w := fun ao' h => by
        have := HB.out.window n (n + v) (by omega) (by omega) h
        rw [Nat.add_sub_cancel_left] at this
        refine str_sl (S := S) ?_
        rwa [show bc ((bs.drop n).take v) = ((bc bs).drop n).take v from by simp [bc]]
      have HC := Lib.hid hcv
      clear hcv
      by_cases hcn : c = n
      · obtain rfl : v = 0 := by omega
        obtain rfl : n = c := by omega
        have hcv := HC.out ao (fun h => absurd rfl h)
        rw [Nat.sub_self] at hcv
        go_enter Try.func50, Try.ntmps50
        go_wp2_with fail
        refine HG.out.mono ?_
        rintro e w1 ⟨rfl, rfl⟩
        go_wp2_with fail
        go_ret3
        exact RetGetT.mk' [] n 0 (by rw [HT.out, if_neg (by simp), if_neg (by omega)]; simp) (by simp) (by omega) rfl
      · have hcv := HC.out _ (fun _ => rfl)
        go_enter Try.func50, Try.ntmps50
        go_wp2_with fail
        refine HG.out.mono ?_
        rintro e w1 ⟨rfl, rfl⟩
        go_wp2_with fail
        go_ret3
        exact RetGetT.mk' ((bs.drop n).take v) (n + v) 0 (by rw [HT.out, if_neg (by simp), if_neg (by omega)]) rfl (by omega) rfl
    · have hv2 : (bs.length : Int) - n < v := by omega
      go_enter Try.func50, Try.ntmps50
      go_wp2_with fail
      refine HG.out.mono ?_
      rintro e w1 ⟨rfl, rfl⟩
      go_wp2_with fail
      go_ret3
      exact RetGetT.mk' [] 0 7 (by rw [HT.out, if_neg (by simp), if_pos (by omega)]) rfl rfl rfl
  · have h1 : ((er : Int) != 0) = true := by rw [bne_iff_ne]; omega
    go_enter Try.func50, Try.ntmps50
    go_wp2_with fail
    refine HG.out.mono ?_
    rintro e w1 ⟨rfl, rfl⟩
    go_wp2_with fail
    go_ret3
    exact RetGetT.mk' [] 0 er (by rw [HT.out, if_pos he]) rfl rfl rfl

/-- Bytes don't lie in a block that holds a slice. -/
theorem Sl.off {S : Nat → Prop} {w : World} {v : Value} {l : List UInt8} {g n c : Nat} {ao : Option Addr} {ty : TypeId} (h : Sl S w 1 v (bc l)) (hB : Blk w g #[.slice ao n c] ty) : Sl (fun b => S b ∧ b ≠ g) w 1 v (bc l) := by
  obtain ⟨ao', n', c', rfl, h1, h2, h3, h4, h5⟩ := h
  refine ⟨ao', n', c', rfl, h1, h2, h3, h4, fun hne => ?_⟩
  obtain ⟨b, off, rfl, hb, hc⟩ := h5 hne
  refine ⟨b, off, rfl, ⟨hb, ?_⟩, hc⟩
  rintro rfl
  cases l with
  | nil => exact absurd rfl hne
  | cons x xs =>
    have h6 := hc 0 (.int .u8 x.toNat) rfl
    rw [hB.cells] at h6
    cases off with
    | zero => simp at h6
    | succ k => simp at h6

end Go.Proofs.Ytkllfdfipkcddaa
