/- The walks of sentryref02.Put and codec.Get; what Get tells of what Put wrote. No condition: lemmas. -/
import Derived.Test.YtkllfdfipkcddaaCodecA
import Derived.Laws.BitsAllLaws
namespace Go.Proofs.Ytkllfdfipkcddaa
open Go Go.RowKit

set_option maxRecDepth 100000 in
set_option maxHeartbeats 400000 in
theorem refPut_any (b : Value) (xs : List UInt8) (q : Nat) (w : World) (hb : Sl (· < w.heap.size) w 1 b (bc xs)) (hx : xs.length ≤ 100000000) (hq : U64 q) :
    Calls Try.prog 29 #[b, .int .u64 q] w (RetApp w 5 1 (bc (xs ++ putB q))) := by
  have hlen := hq.len
  have HX : Hid (bc (xs ++ putB q) = bc xs ++ bc (putB q)) := bc_append _ _
  have hone := bc_one xs
  have hxl := bc_length xs
  generalize bc xs = cs at *
  have hcn : cs.length ≤ 100000000 := by omega
  have happ0 : App (w.alloc (.cells #[] 5)) w.heap.size 5 1 (.slice (some ⟨w.heap.size, 0, none⟩) 0 0) [] := .inr ⟨_, 0, rfl, rfl, Nat.zero_le _, (fun h => by cases h), fun h => absurd rfl h⟩
  have hb1 := hb.same (w' := w.alloc (.cells #[] 5)) (fun k hk => Below.heap_alloc w _ k hk)
  have HL := Lib.hid hxl
  clear hxl hb
  go_enter Try.func29, Try.ntmps29
  go_wp2_with (at_builtin; refine wpList_app bytesT rfl (.tmp 6) (.tmp 7) rfl rfl happ0 rfl hb1 hone (by simp; omega) (by simp; omega) (by simp) ?_; intro v1 w1 happ1 hbel1 _)
  have hbel1 : Below w.heap.size w w1 := ((Below.refl _ _).alloc (Nat.le_refl _) _).trans hbel1
  clear hb1 happ0 hone
  go_loopw [5, 1] (fun bb vv wr => ∃ (r : Nat) (ys : List Value), vv = .int .u64 r ∧ U64 r ∧ ys ++ bc (putB r) = cs ++ bc (putB q) ∧ App wr w.heap.size 5 1 bb ys ∧ Below w.heap.size w wr) (fun _ vv _ => (intOf vv).toNat)
  case atStart => exact ⟨q, cs, rfl, hq, rfl, happ1, hbel1⟩
  case round =>
    obtain ⟨r, ys, rfl, hu, hys, happ, hbel⟩ := hrel
    have hw : IntKind.u64.wrap ((r : Int) / 128) = (r : Int) / 128 := hu.wrapDiv 128
    have hyl : ys.length ≤ 100000010 := by
      have := congrArg List.length hys
      simp only [List.length_append, bc_length] at this
      omega
    have HY := Lib.hid hys
    have hbs := hbel.size
    clear hys
    by_cases hr : r < 128
    all_goals
      go_wp2_with (first | (at_builtin; refine wpList_app_lit bytesT rfl (.tmp 11) (.tmp 16) rfl rfl happ rfl rfl (by simp [Value.oneCell']) (by simp; omega) (by simp; omega) hbs ?_; intro v1 w1 happ1 hb1 _) | (at_builtin; refine wpList_app_lit bytesT rfl (.tmp 20) (.tmp 23) rfl rfl happ rfl rfl (by simp [Value.oneCell']) (by simp; omega) (by simp; omega) hbs ?_; intro v1 w1 happ1 hb1 _))
    · go_ret
      rw [HX.out, ← HY.out, putB_small hr]
      rw [← ofNat_toNat r (by omega)] at happ1
      exact ⟨_, rfl, by rw [show bc [UInt8.ofNat r] = [Value.int .u8 ((UInt8.ofNat r).toNat : Int)] from rfl]; exact happ1, hbel.trans hb1⟩
    · go_roundw
      case rel =>
        rw [show ((r : Int) % 128 + 128) = ((r % 128 + 128 : Nat) : Int) from by omega, ← ofNat_toNat (r % 128 + 128) (by omega)] at happ1
        exact ⟨r / 128, _, by go_num, hu.div 128, by rw [← HY.out, bc_putB_big (show 128 ≤ r by omega), List.append_assoc]; rfl, happ1, hbel.trans hb1⟩
      case measure => simp [intOf]; omega

/-- P2.1: the number that bytes begin with: number, length, error (i bytes are read, their number is v). -/
def getG : List UInt8 → Nat → Nat → Nat × Nat × Nat
  | [], _, _ => (0, 0, 7)
  | c :: r, i, v => if (i = 9 ∧ 1 < c.toNat) ∨ (c.toNat = 0 ∧ 0 < i) then (0, 0, 9) else if c.toNat < 128 then (v + c.toNat % 128 * 2 ^ (7 * i), i + 1, 0) else getG r (i + 1) (v + c.toNat % 128 * 2 ^ (7 * i))

theorem getG_putB (rest : List UInt8) (k : Nat) : ∀ (q i v : Nat), q < 128 ^ (k + 1) → i + k = 9 → (0 < i → 0 < q) → q * 2 ^ (7 * i) < 2 ^ 64 → getG (putB q ++ rest) i v = (v + q * 2 ^ (7 * i), i + (putB q).length, 0) := by
  induction k with
  | zero =>
    intro q i v h hi hp hb
    have hi9 : i = 9 := by omega
    subst hi9
    have hq : q < 2 := by
      apply Nat.lt_of_not_le
      intro hle
      have := Nat.mul_le_mul_right (2 ^ (7 * 9)) hle
      omega
    rw [putB_small (by omega)]
    have e : (UInt8.ofNat q).toNat = q := by simp; omega
    simp only [List.cons_append, List.nil_append, getG, e, List.length_cons, List.length_nil]
    rw [if_neg (by have := hp (by omega); omega), if_pos (by omega), Nat.mod_eq_of_lt (by omega)]
  | succ k ih =>
    intro q i v h hi hp hb
    by_cases hq : q < 128
    · rw [putB_small hq]
      have e : (UInt8.ofNat q).toNat = q := by simp; omega
      simp only [List.cons_append, List.nil_append, getG, e, List.length_cons, List.length_nil]
      rw [if_neg (by omega), if_pos hq, Nat.mod_eq_of_lt hq]
    · rw [putB_big (by omega)]
      have e : (UInt8.ofNat (q % 128 + 128)).toNat = q % 128 + 128 := by simp; omega
      simp only [List.cons_append, getG, e, List.length_cons]
      have em : (q % 128 + 128) % 128 = q % 128 := by omega
      have hdm := Nat.div_add_mod q 128
      have e2 : q / 128 * 2 ^ (7 * (i + 1)) = 128 * (q / 128) * 2 ^ (7 * i) := by
        rw [show 7 * (i + 1) = 7 * i + 7 from by omega, Nat.pow_add, Nat.mul_comm 128, Nat.mul_assoc, Nat.mul_comm (2 ^ (7 * i))]
      rw [if_neg (by omega), if_neg (by omega), em, ih (q / 128) (i + 1) _ (by rw [Nat.pow_succ] at h; omega) (by omega) (by omega) (by
        rw [e2]
        have := Nat.mul_le_mul_right (2 ^ (7 * i)) (show 128 * (q / 128) ≤ q by omega)
        omega), e2]
      simp only [Prod.mk.injEq, and_true]
      refine ⟨?_, by omega⟩
      have hs : q * 2 ^ (7 * i) = (128 * (q / 128) + q % 128) * 2 ^ (7 * i) := by rw [hdm]
      rw [hs, Nat.add_mul]
      omega

theorem getG_put (q : Nat) (h : U64 q) (rest : List UInt8) : getG (putB q ++ rest) 0 0 = (q, (putB q).length, 0) := by
  have := h.lt
  rw [getG_putB rest 9 q 0 0 (by omega) (by omega) (by omega) (by omega)]
  simp

/-- What the round of Get computes. -/
theorem get_or (v i c : Nat) (hv : v < 2 ^ (7 * i)) (hi : i ≤ 9) (hc : c < 256) (h9 : i = 9 → c ≤ 1) :
    bits BinOp.or IntKind.u64 (v : Int) (IntKind.u64.wrap (IntKind.u64.wrap (bits BinOp.and IntKind.u8 (c : Int) 127) * 2 ^ (7 * i))) = ((v + c % 128 * 2 ^ (7 * i) : Nat) : Int) := by
  have h1 : bits BinOp.and IntKind.u8 (c : Int) 127 = ((c % 128 : Nat) : Int) := by
    rw [show (127 : Int) = ((127 : Nat) : Int) from rfl, u8_and_nat c 127 hc (by decide), nat_mask7]
  have hc128 : c % 128 < 128 := Nat.mod_lt _ (by decide)
  have hpow : 2 ^ (7 * i) ≤ 2 ^ 63 := Nat.pow_le_pow_right (by decide) (by omega)
  have hprod : c % 128 * 2 ^ (7 * i) < 18446744073709551616 ∧ v < 18446744073709551616 := by
    refine ⟨?_, by omega⟩
    by_cases h : i = 9
    · have := h9 h
      subst h
      have := Nat.mul_le_mul_right (2 ^ (7 * 9)) (show c % 128 ≤ 1 by omega)
      omega
    · have h8 : 2 ^ (7 * i) ≤ 2 ^ 56 := Nat.pow_le_pow_right (by decide) (by omega)
      have := Nat.mul_le_mul (show c % 128 ≤ 127 by omega) h8
      omega
  have e1 : IntKind.u64.wrap ((c % 128 : Nat) : Int) = ((c % 128 : Nat) : Int) := by rw [IntKind.wrap_u64]; omega
  have e2 : IntKind.u64.wrap (((c % 128 : Nat) : Int) * 2 ^ (7 * i)) = ((c % 128 * 2 ^ (7 * i) : Nat) : Int) := by
    rw [IntKind.wrap_u64]
    have : (((c % 128 : Nat) : Int) * 2 ^ (7 * i)) = ((c % 128 * 2 ^ (7 * i) : Nat) : Int) := by push_cast; rfl
    rw [this]
    omega
  rw [h1, e1, e2, u64_or_nat _ _ hprod.2 hprod.1, Nat.or_comm, nat_join (7 * i) _ _ (by simp) hv]
  congr 1
  omega

theorem get_bound (v i c : Nat) (hv : v < 2 ^ (7 * i)) : v + c % 128 * 2 ^ (7 * i) < 2 ^ (7 * (i + 1)) := by
  have hc : c % 128 < 128 := Nat.mod_lt _ (by decide)
  have : 2 ^ (7 * (i + 1)) = 128 * 2 ^ (7 * i) := by rw [show 7 * (i + 1) = 7 * i + 7 from by omega, Nat.pow_add]; omega
  have h2 := Nat.mul_le_mul_right (2 ^ (7 * i)) (show c % 128 ≤ 127 by omega)
  omega

/-- Get's answer. -/
def RetGet (r : Nat × Nat × Nat) (w : World) (e : Ending) (w' : World) : Prop := e = .returned (.tuple #[.int .u64 r.1, .int .i64 r.2.1, .int .i64 r.2.2]) ∧ w = w'
theorem RetGet.mk' {a b c : Int} {r : Nat × Nat × Nat} {w : World} (x y z : Nat) (h : r = (x, y, z)) (h1 : a = x) (h2 : b = y) (h3 : c = z) : RetGet r w (.returned (.tuple #[.int .u64 a, .int .i64 b, .int .i64 c])) w := by
  subst h h1 h2 h3
  exact ⟨rfl, rfl⟩

set_option maxRecDepth 100000 in
set_option maxHeartbeats 400000 in
theorem get_any (x : Value) (bs : List UInt8) (w : World) (S : Nat → Prop) (hb : Sl S w 1 x (bc bs)) (hx : bs.length ≤ 1000000000) :
    Calls Try.prog 51 #[x] w (RetGet (getG bs 0 0) w) := by
  obtain ⟨ao, n, cc, rfl, hn, hnc, hc, hnone, hcell⟩ := hb
  rw [bc_length] at hn
  obtain rfl : n = bs.length := by omega
  have hc' : cc ≤ 9223372036854775807 := by unfold maxLen at hc; omega
  clear hn hc hnone
  by_cases hbs : bs = []
  · subst hbs
    simp only [List.length_nil] at *
    go_enter Try.func51, Try.ntmps51
    go_wp2
    refine wp_loop_rounds 1 ?_
    rw [rounds_succ]
    go_wp2
    go_ret3
    exact ⟨rfl, rfl⟩
  · obtain ⟨b, off, rfl, -, hcc⟩ := hcell (by simpa [bc] using hbs)
    have hce : ∀ j (hj : j < bs.length), w.cell? ⟨b, off + j, none⟩ = some (.int .u8 (bs[j].toNat)) := by
      intro j hj
      exact hcc j _ (by simp [bc, hj])
    have HC := Lib.hid hce
    clear hcc hcell hce hbs
    go_enter Try.func51, Try.ntmps51
    go_wp2
    go_loop [5, 10] (fun vv ii => ∃ (v i : Nat), vv = .int .u64 v ∧ ii = .int .i64 i ∧ i ≤ 9 ∧ i ≤ bs.length ∧ getG (bs.drop i) i v = getG bs 0 0 ∧ v < 2 ^ (7 * i)) (fun _ ii => bs.length - (intOf ii).toNat)
    case atStart => exact ⟨0, 0, rfl, rfl, by omega, by omega, rfl, by decide⟩
    case round =>
      obtain ⟨v, i, rfl, rfl, hi, hin, hg, hv⟩ := hrel
      have HG := Lib.hid hg
      have HV := Lib.hid hv
      clear hg hv
      by_cases hlt : i < bs.length
      · have hci := HC.out i hlt
        have hdrop := List.drop_eq_getElem_cons hlt
        have HD := Lib.hid hdrop
        have hc2 : bs[i].toNat < 256 := bs[i].toNat_lt
        have HO := fun (h : i = 9 → bs[i].toNat ≤ 1) => Lib.hid (get_or v i bs[i].toNat HV.out hi hc2 h)
        have HB := Lib.hid (get_bound v i bs[i].toNat HV.out)
        clear hdrop HC
        generalize hcn : bs[i].toNat = c at *
        have HN := Lib.hid hcn
        clear hcn
        go_wp2
        all_goals first
          | (go_ret3; exact RetGet.mk' 0 0 9 (by rw [← HG.out, HD.out, getG, HN.out, if_pos (by omega)]) rfl rfl rfl)
          | (go_ret3; exact RetGet.mk' _ _ 0 (by rw [← HG.out, HD.out, getG, HN.out, if_neg (by omega), if_pos (by omega)]) (HO (by omega)).out (by omega) rfl)
          | (go_ret3; have h0 : c = 0 := by omega
             exact RetGet.mk' _ _ 0 (by rw [← HG.out, HD.out, getG, HN.out, if_neg (by omega), if_pos (by omega)]) (by rw [← (HO (by omega)).out, h0]; rfl) (by omega) rfl)
          | (go_round; case rel => (exact ⟨_, i + 1, congrArg (Value.int .u64) (HO (by omega)).out, by go_num, by omega, by omega, by rw [← HG.out, HD.out, getG, HN.out, if_neg (by omega), if_neg (by omega)], HB.out⟩)
             case measure => (simp [intOf]; omega))
      · go_wp2
        go_ret3
        exact RetGet.mk' 0 0 7 (by rw [← HG.out, List.drop_of_length_le (by omega), getG]) rfl rfl rfl

end Go.Proofs.Ytkllfdfipkcddaa
