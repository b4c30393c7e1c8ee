/- The walk of edit's reader's times, with each of Decode's closures. No condition: lemmas. -/
import Derived.Test.YtkllfdfipkcddaaDecB
namespace Go.Proofs.Ytkllfdfipkcddaa
open Go Go.RowKit

theorem encA_cut {l : List Tab} {i : Nat} (h : i < l.length) : encA (l.drop i) = encT l[i] ++ encA (l.drop (i + 1)) := by
  rw [List.drop_eq_getElem_cons h]
  rfl
theorem putsI_cut {l : List Int} {i : Nat} (h : i < l.length) : putsI (l.drop i) = putB l[i].toNat ++ putsI (l.drop (i + 1)) := by
  rw [List.drop_eq_getElem_cons h]
  rfl

set_option maxRecDepth 100000 in
set_option maxHeartbeats 1600000 in
theorem times1_any (B rb eb sb tb : Nat) (l : List Tab) (drop : List Int) (rest : List UInt8) (av dv fl hd lg nx : Value) (w : World) (h : DSt w B rb eb sb tb [] drop av dv fl hd lg nx)
    (hR : Rd w rb 60 (putB l.length ++ (encA l ++ rest))) (hlr : ∀ t ∈ l, TabR t) (hn : l.length ≤ 1000) (hrest : rest.length ≤ 100000) (hse : sb ≠ eb ∧ tb ≠ eb) :
    Calls Try.prog 33 #[.pointer (some ⟨rb, 0, none⟩), .func (.func 34) #[] #[.pointer (some ⟨eb, 0, none⟩), .pointer (some ⟨sb, 0, none⟩), .pointer (some ⟨tb, 0, none⟩)]] w
      (fun e w' => e = .returned (.tuple #[]) ∧ ∃ av', DSt w' B rb eb sb tb l drop av' dv fl hd lg nx ∧ Rd w' rb 60 rest ∧ Kept (fun b => b < B ∧ b ≠ rb ∧ b ≠ eb) w w') := by
  have hA := encA_len l hlr
  have hlen : (putB l.length ++ (encA l ++ rest)).length ≤ 1000000 := by
    have := U64.len (q := l.length) (by unfold U64; omega)
    simp only [List.length_append]
    omega
  have HN := Lib.hid (number_any rb l.length (encA l ++ rest) w hR (by unfold U64; omega) hlen)
  have HL := Lib.hid hlr
  have HD := Lib.hid h
  clear hR h hlr
  go_enter Try.func33, Try.ntmps33
  go_wp2_with fail
  refine HN.out.mono ?_
  rintro e w1 ⟨rfl, hR1, hk1⟩
  have hd1 := HD.out.kept hk1
  have hrl := hd1.rl
  have hel := hd1.el
  have hK1 : Kept (fun b => b < B ∧ b ≠ rb ∧ b ≠ eb) w w1 := hk1.mono fun b hb => hb.2.1
  clear HD HN hk1
  go_wp2_with fail
  go_loopw [4] (fun ii wr => ∃ i : Nat, i ≤ l.length ∧ ii = .int .u64 ((l.length - i : Nat) : Int) ∧ ∃ av', DSt wr B rb eb sb tb (l.take i) drop av' dv fl hd lg nx ∧ Rd wr rb 60 (encA (l.drop i) ++ rest) ∧ Kept (fun b => b < B ∧ b ≠ rb ∧ b ≠ eb) w wr) (fun ii _ => (intOf ii).toNat)
  case atStart => exact ⟨0, by omega, rfl, av, by simpa using hd1, by simpa using hR1, hK1⟩
  case round =>
    obtain ⟨i, hi, rfl, av', hst, hR, hk⟩ := hrel
    have HR := Lib.hid hR
    obtain ⟨v, hB, hS⟩ := hR
    have hBc := hB.cells
    by_cases hlt : i < l.length
    · have hw : IntKind.u64.wrap (((l.length - i : Nat) : Int) - 1) = ((l.length - (i + 1) : Nat) : Int) := by
        have := U64.wrap (q := l.length - (i + 1)) (by unfold U64; omega)
        rwa [show ((l.length - (i + 1) : Nat) : Int) = ((l.length - i : Nat) : Int) - 1 from by omega] at this ⊢
      have hcut := encA_cut hlt
      have hl2 : (encT l[i] ++ (encA (l.drop (i + 1)) ++ rest)).length ≤ 1000000 := by
        have h1 := encA_len (l.drop i) fun t ht => HL.out t (List.mem_of_mem_drop ht)
        rw [hcut, List.length_append, List.length_drop] at h1
        simp only [List.length_append]
        omega
      have HR2 := HR.out
      rw [hcut, List.append_assoc] at HR2
      have HP := Lib.hid (dec1_any B rb eb sb tb (l.take i) drop l[i] _ av' dv fl hd lg nx wr hst HR2 (HL.out _ (List.getElem_mem hlt)) hl2 (by rw [List.length_take]; omega) hse)
      rw [← List.take_succ_eq_append_getElem hlt] at HP
      have hpos : 0 < ((l.length - i : Nat) : Int) := by omega
      have HI := Lib.hid (show l.length - (i + 1) < l.length - i by omega)
      clear HR2 HR hB hS hcut hl2 hst
      go_wp2_with fail
      refine HP.out.mono ?_
      rintro e w2 ⟨rfl, av2, hst2, hR2, hk2⟩
      go_wp2
      go_roundw
      case rel => exact ⟨i + 1, by omega, rfl, av2, hst2, hR2, hk.trans hk2⟩
      case measure => have := HI.out; simp [intOf]; omega
    · obtain rfl : i = l.length := by omega
      rw [List.take_length] at hst
      rw [List.drop_length] at HR
      have hz : ((l.length - l.length : Nat) : Int) = 0 := by omega
      have HR2 := HR.out
      clear HR hB hS
      go_wp2
      go_end0
      exact ⟨rfl, av', hst, HR2, hk⟩

set_option maxRecDepth 100000 in
set_option maxHeartbeats 1600000 in
theorem times2_any (B rb eb sb tb : Nat) (add : List Tab) (l : List Int) (rest : List UInt8) (av dv fl hd lg nx : Value) (w : World) (h : DSt w B rb eb sb tb add [] av dv fl hd lg nx)
    (hR : Rd w rb 60 (putB l.length ++ (putsI l ++ rest))) (hlr : ∀ n ∈ l, In62 n) (hn : l.length ≤ 1000) (hrest : rest.length ≤ 100000) (hse : sb ≠ eb ∧ tb ≠ eb) :
    Calls Try.prog 33 #[.pointer (some ⟨rb, 0, none⟩), .func (.func 35) #[] #[.pointer (some ⟨eb, 0, none⟩), .pointer (some ⟨sb, 0, none⟩)]] w
      (fun e w' => e = .returned (.tuple #[]) ∧ ∃ dv', DSt w' B rb eb sb tb add l av dv' fl hd lg nx ∧ Rd w' rb 60 rest ∧ Kept (fun b => b < B ∧ b ≠ rb ∧ b ≠ eb) w w') := by
  have hA := putsI_len l hlr
  have hlen : (putB l.length ++ (putsI l ++ rest)).length ≤ 1000000 := by
    have := U64.len (q := l.length) (by unfold U64; omega)
    simp only [List.length_append]
    omega
  have HN := Lib.hid (number_any rb l.length (putsI l ++ rest) w hR (by unfold U64; omega) hlen)
  have HL := Lib.hid hlr
  have HD := Lib.hid h
  clear hR h hlr
  go_enter Try.func33, Try.ntmps33
  go_wp2_with fail
  refine HN.out.mono ?_
  rintro e w1 ⟨rfl, hR1, hk1⟩
  have hd1 := HD.out.kept hk1
  have hrl := hd1.rl
  have hel := hd1.el
  have hK1 : Kept (fun b => b < B ∧ b ≠ rb ∧ b ≠ eb) w w1 := hk1.mono fun b hb => hb.2.1
  clear HD HN hk1
  go_wp2_with fail
  go_loopw [4] (fun ii wr => ∃ i : Nat, i ≤ l.length ∧ ii = .int .u64 ((l.length - i : Nat) : Int) ∧ ∃ dv', DSt wr B rb eb sb tb add (l.take i) av dv' fl hd lg nx ∧ Rd wr rb 60 (putsI (l.drop i) ++ rest) ∧ Kept (fun b => b < B ∧ b ≠ rb ∧ b ≠ eb) w wr) (fun ii _ => (intOf ii).toNat)
  case atStart => exact ⟨0, by omega, rfl, dv, by simpa using hd1, by simpa using hR1, hK1⟩
  case round =>
    obtain ⟨i, hi, rfl, dv', hst, hR, hk⟩ := hrel
    have HR := Lib.hid hR
    obtain ⟨v, hB, hS⟩ := hR
    have hBc := hB.cells
    by_cases hlt : i < l.length
    · have hw : IntKind.u64.wrap (((l.length - i : Nat) : Int) - 1) = ((l.length - (i + 1) : Nat) : Int) := by
        have := U64.wrap (q := l.length - (i + 1)) (by unfold U64; omega)
        rwa [show ((l.length - (i + 1) : Nat) : Int) = ((l.length - i : Nat) : Int) - 1 from by omega] at this ⊢
      have hcut := putsI_cut hlt
      have hl2 : (putB l[i].toNat ++ (putsI (l.drop (i + 1)) ++ rest)).length ≤ 1000000 := by
        have h1 := putsI_len (l.drop i) fun t ht => HL.out t (List.mem_of_mem_drop ht)
        rw [hcut, List.length_append, List.length_drop] at h1
        simp only [List.length_append]
        omega
      have HR2 := HR.out
      rw [hcut, List.append_assoc] at HR2
      have HP := Lib.hid (dec2_any B rb eb sb tb add (l.take i) l[i] _ av dv' fl hd lg nx wr hst HR2 (HL.out _ (List.getElem_mem hlt)) hl2 (by rw [List.length_take]; omega) hse)
      rw [← List.take_succ_eq_append_getElem hlt] at HP
      have hpos : 0 < ((l.length - i : Nat) : Int) := by omega
      have HI := Lib.hid (show l.length - (i + 1) < l.length - i by omega)
      clear HR2 HR hB hS hcut hl2 hst
      go_wp2_with fail
      refine HP.out.mono ?_
      rintro e w2 ⟨rfl, dv2, hst2, hR2, hk2⟩
      go_wp2
      go_roundw
      case rel => exact ⟨i + 1, by omega, rfl, dv2, hst2, hR2, hk.trans hk2⟩
      case measure => have := HI.out; simp [intOf]; omega
    · obtain rfl : i = l.length := by omega
      rw [List.take_length] at hst
      rw [List.drop_length] at HR
      have hz : ((l.length - l.length : Nat) : Int) = 0 := by omega
      have HR2 := HR.out
      clear HR hB hS
      go_wp2
      go_end0
      exact ⟨rfl, dv', hst, HR2, hk⟩

end Go.Proofs.Ytkllfdfipkcddaa
