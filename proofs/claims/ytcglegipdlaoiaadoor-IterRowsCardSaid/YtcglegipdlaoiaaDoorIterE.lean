/- The walk of iter.Scan. No condition: lemmas. -/
import Derived.Test.YtcglegipdlaoiaaDoorIterD
namespace Go.Proofs.YtcglegipdlaoiaaDoor
open Go Go.RowKit

def strOf : Value → ByteArray
  | .string s => s
  | _ => ByteArray.empty

/-- It returns a row of the call's own, and a code. -/
def RetRow (r : List ByteArray × Nat) (w : World) (e : Ending) (w' : World) : Prop := ∃ v, e = .returned (.tuple #[v, .int .i64 r.2]) ∧ Own w' w.heap.size 9 1 v (sc r.1) ∧ Below w.heap.size w w'

section
variable {A : List ByteArray} {tto : ByteArray} {rev : Nat} {most : Int} {n : Nat} {at_ : ByteArray} {out : List ByteArray} {F : List ByteArray × Nat}
theorem scan_stop (h : scanF A tto rev most (n + 1) at_ out = F) (hg : ¬ (most < 1 ∨ (out.length : Int) < most)) : F = (out, 0) := by
  rw [← h, scanF, if_pos hg]
theorem scan_err (h : scanF A tto rev most (n + 1) at_ out = F) (hg : most < 1 ∨ (out.length : Int) < most) (hn : (nextL A at_).2.2 ≠ 0) : F = ([], (nextL A at_).2.2) := by
  rw [← h, scanF, if_neg (not_not_intro hg), if_pos hn]
theorem scan_end (h : scanF A tto rev most (n + 1) at_ out = F) (hg : most < 1 ∨ (out.length : Int) < most) (hn : (nextL A at_).2.2 = 0) (he : (nextL A at_).2.1 = false ∨ (tto.size ≠ 0 ∧ ltS (nextL A at_).1.1 tto = false)) : F = (out, 0) := by
  rw [← h, scanF, if_neg (not_not_intro hg), if_neg (by rw [hn]; simp), if_pos he]
theorem scan_bad (h : scanF A tto rev most (n + 1) at_ out = F) (hg : most < 1 ∨ (out.length : Int) < most) (hn : (nextL A at_).2.2 = 0) (he : ¬ ((nextL A at_).2.1 = false ∨ (tto.size ≠ 0 ∧ ltS (nextL A at_).1.1 tto = false)))
    (hm : (getL A (nextL A at_).1.1 rev).2.2 ≠ 0) : F = ([], (getL A (nextL A at_).1.1 rev).2.2) := by
  rw [← h, scanF, if_neg (not_not_intro hg), if_neg (by rw [hn]; simp), if_neg he, if_pos hm]
theorem scan_goes (h : scanF A tto rev most (n + 1) at_ out = F) (hg : most < 1 ∨ (out.length : Int) < most) (hn : (nextL A at_).2.2 = 0) (he : ¬ ((nextL A at_).2.1 = false ∨ (tto.size ≠ 0 ∧ ltS (nextL A at_).1.1 tto = false)))
    (hm : (getL A (nextL A at_).1.1 rev).2.2 = 0) : scanF A tto rev most n (pastA (nextL A at_).1.1) (if (getL A (nextL A at_).1.1 rev).2.1 = true ∧ (getL A (nextL A at_).1.1 rev).1.2.2 = false then out ++ [(nextL A at_).1.1] else out) = F := by
  rw [← h]
  conv => rhs; rw [scanF, if_neg (not_not_intro hg), if_neg (by rw [hn]; simp), if_neg he, if_neg (by rw [hm]; simp)]
end

/-- What holds at the head of each round. -/
def ScanI (A : List ByteArray) (tto : ByteArray) (rev : Nat) (most : Int) (F : List ByteArray × Nat) (out : List ByteArray) (at_ : ByteArray) : Prop :=
  at_.size ≤ 100000000 ∧ out.length + cnt A at_ ≤ A.length ∧ ∃ n, cnt A at_ < n ∧ scanF A tto rev most n at_ out = F

theorem ScanI.zero (A : List ByteArray) (frm tto : ByteArray) (rev : Nat) (most : Int) (hf : (atA frm).size ≤ 100000000) : ScanI A tto rev most (scanL A frm tto rev most) [] (atA frm) :=
  ⟨hf, by unfold cnt; simpa using List.length_filter_le _ _, A.length + 1, Nat.lt_succ_of_le (List.length_filter_le _ _), rfl⟩

theorem past_size (key : ByteArray) (h : key.size ≤ 10000000) : (pastA key).size ≤ 100000000 := by
  have h1 := esc_length key.data.toList
  have h2 : key.data.toList.length = key.size := Array.length_toList
  show (esc key.data.toList ++ [0, 2]).toArray.size ≤ _
  simp
  omega
theorem at_size (key : ByteArray) (h : key.size ≤ 10000000) : (atA key).size ≤ 100000000 := by
  have h1 := esc_length key.data.toList
  have h2 : key.data.toList.length = key.size := Array.length_toList
  show (innerB key.data.toList _ true).toArray.size ≤ _
  simp [innerB, be8]
  omega

theorem ScanI.step {A : List ByteArray} {tto : ByteArray} {rev : Nat} {most : Int} {F : List ByteArray × Nat} {out : List ByteArray} {at_ : ByteArray} (h : ScanI A tto rev most F out at_)
    (hg : most < 1 ∨ (out.length : Int) < most) (hn : (nextL A at_).2.2 = 0) (ho : (nextL A at_).2.1 = true) (ht : ¬ (tto.size ≠ 0 ∧ ltS (nextL A at_).1.1 tto = false))
    (hm : (getL A (nextL A at_).1.1 rev).2.2 = 0) (hs : (nextL A at_).1.1.size ≤ 10000000) :
    ScanI A tto rev most F (if (getL A (nextL A at_).1.1 rev).2.1 = true ∧ (getL A (nextL A at_).1.1 rev).1.2.2 = false then out ++ [(nextL A at_).1.1] else out) (pastA (nextL A at_).1.1) ∧ cnt A (pastA (nextL A at_).1.1) < cnt A at_ := by
  obtain ⟨_, h1, n, h2, h3⟩ := h
  have hc := cnt_lt ho
  obtain ⟨m, rfl⟩ : ∃ m, n = m + 1 := ⟨n - 1, by omega⟩
  have := scan_goes h3 hg hn (fun h => h.elim (fun h => by rw [ho] at h; cases h) ht) hm
  refine ⟨⟨past_size _ hs, ?_, m, by omega, this⟩, hc⟩
  split
  · simp; omega
  · omega

theorem ba_zero {s : ByteArray} (h : s.size = 0) : s.toList = [] := by
  rw [ByteArray.toList_eq]; exact List.eq_nil_of_length_eq_zero (by rw [Array.length_toList]; exact h)
theorem ba_some {s : ByteArray} (h : s.size ≠ 0) : s.toList.isEmpty = false := by
  rw [ByteArray.toList_eq]
  cases hl : s.data.toList with
  | nil => exact absurd (by have := congrArg List.length hl; rw [Array.length_toList] at this; exact this) h
  | cons a l => rfl
/-- The three ways at a scan's upper end. -/
theorem end_ways (ek tto : ByteArray) : (tto.size ≠ 0 ∧ ltS ek tto = false ∧ tto.toList.isEmpty = false ∧ Op.bytesLess ek.toList tto.toList = false) ∨
    (Hid (¬ (tto.size ≠ 0 ∧ ltS ek tto = false)) ∧ (tto.toList = [] ∨ (tto.toList.isEmpty = false ∧ Op.bytesLess ek.toList tto.toList = true))) := by
  by_cases h0 : tto.size = 0
  · exact .inr ⟨Lib.hid (fun h => h.1 h0), .inl (ba_zero h0)⟩
  · cases h1 : ltS ek tto with
    | true => exact .inr ⟨Lib.hid (by simp), .inr ⟨ba_some h0, h1⟩⟩
    | false => exact .inl ⟨h0, rfl, ba_some h0, h1⟩

set_option maxRecDepth 100000 in
set_option maxHeartbeats 6400000 in
theorem scan_any (x : Value) (rows : List (List ByteArray)) (frm tto : ByteArray) (rev : Nat) (most : Int) (w : World) (henv : Env w) (hx : Srcs w x rows) (hok : SrcOk rows) (hr : U64 rev) (hf : frm.size ≤ 10000000) (hlen : (allL rows).length ≤ 1000000) :
    Calls Tryd.prog 13 #[x, .string frm, .string tto, .int .u64 rev, .int .i64 most] w (RetRow (scanL (allL rows) frm tto rev most) w) := by
  have HI := Lib.hid (inner_any frm 18446744073709551615 true w (by unfold U64; decide) henv (by omega))
  have HA := Lib.hid (show (⟨(innerB frm.data.toList 18446744073709551615 true).toArray⟩ : ByteArray) = atA frm from rfl)
  have HZ := Lib.hid (ScanI.zero (allL rows) frm tto rev most (at_size frm hf))
  have HX := Lib.hid hx
  have HOK := Lib.hid hok
  have HEN := Lib.hid henv
  have HLEN := Lib.hid hlen
  have hall : ∀ at_, ansOf (bestL rows at_) = nextL (allL rows) at_ := fun at_ => by unfold nextL; rw [best_all hok.up]
  have HALL := Lib.hid hall
  have hmem : ∀ at_, (nextL (allL rows) at_).1.1.size ≤ 10000000 := fun at_ => by
    cases h : (nextL (allL rows) at_).2.1 with
    | true =>
      obtain ⟨y, hs, hd⟩ := next_some h
      have := deco_size hd
      obtain ⟨r, hr, hyr⟩ := (all_mem rows y).1 (seek_mem hs).1
      have := hok.key r hr y hyr
      omega
    | false =>
      have : (nextL (allL rows) at_).1 = zeroE := by
        unfold nextL ansOf at *
        cases hs : seekL (allL rows) at_ with
        | none => rfl
        | some y =>
          rw [hs] at h
          dsimp only at *
          cases hd : deco y with
          | none => rfl
          | some e => rw [hd] at h; cases h
      rw [this]
      decide
  have HMEM := Lib.hid hmem
  clear hx hok henv hf hlen hall hmem
  generalize hA : allL rows = A at *
  generalize hF : scanL A frm tto rev most = F at *
  clear hA hF
  unfold entV at HI
  go_enter Tryd.func13, Tryd.ntmps13
  go_wp2_with fail
  refine HI.out.mono ?_
  rintro e w1 ⟨rfl, hb1⟩
  rw [HA.out]
  go_wp2_with fail
  clear HI
  go_loopw [12, 13] (fun vv aa wr => ∃ (out : List ByteArray) (at_ : ByteArray), aa = .string at_ ∧ Own wr w.heap.size 9 1 vv (sc out) ∧ ScanI A tto rev most F out at_ ∧ Below w.heap.size w wr) (fun _ aa _ => cnt A (strOf aa))
  case atStart => exact ⟨[], atA frm, rfl, Own.nil _ _ _ _, HZ.out, hb1⟩
  case round =>
    obtain ⟨out, at_, rfl, hown, hsc, hbel⟩ := hrel
    have HSC := Lib.hid hsc
    obtain ⟨ao, n, c, rfl, hn, _, _⟩ := hown.sl.len
    rw [Nat.mul_one, show (sc out).length = out.length from by simp [sc]] at hn
    subst hn
    obtain ⟨hz1, hz2, n, hz3, hz4⟩ := hsc
    obtain ⟨m, rfl⟩ : ∃ m, n = m + 1 := ⟨n - 1, by omega⟩
    by_cases hg : most < 1 ∨ (out.length : Int) < most
    · have HERR := Lib.hid (fun hn => scan_err hz4 hg hn)
      have HEND := Lib.hid (fun hn he => scan_end hz4 hg hn he)
      have HBAD := Lib.hid (fun hn he hm => scan_bad hz4 hg hn he hm)
      have HSTEP := Lib.hid (fun hn ho ht hm => HSC.out.step hg hn ho ht hm (HMEM.out at_))
      have HNX := Lib.hid (next_any x rows at_ wr (HEN.out.below hbel) (HX.out.up hbel) HOK.out)
      have HGT := Lib.hid (fun key W (hb : Below w.heap.size w W) hk => show Calls Tryd.prog 10 #[x, .string key, .int .u64 rev] W (RetV (ansV (getL A key rev)) W) from by
        have := get_any x rows key rev W (HEN.out.below hb) (HX.out.up hb) HOK.out hr hk
        rw [HALL.out] at this
        exact this)
      have hks := HMEM.out at_
      rw [HALL.out] at HNX
      have hol : (sc out).length ≤ 1000000 := by rw [show (sc out).length = out.length from by simp [sc]]; have := HLEN.out; omega
      have hol2 : out.length ≤ 1000000 := by have := HLEN.out; omega
      have HSN := Lib.hid (fun k => show sc (out ++ [k]) = sc out ++ [.string k] from by simp [sc])
      clear hz2 hz3 hz4
      generalize nextL A at_ = a at *
      obtain ⟨⟨ek, er, ed⟩, ok, cd⟩ := a
      dsimp only at *
      have HOW := Lib.hid hown
      clear hown
      rcases (show most < 1 ∨ ((1 : Int) ≤ most ∧ (out.length : Int) < most) from by omega) with hm1 | ⟨hm0, hm1⟩
      all_goals
        clear hg
        go_wp2_with fail
        refine HNX.out.mono ?_
        rintro e w2 ⟨rfl, hb2⟩
        unfold ansV
        dsimp only
        have hB2 := hbel.trans (hb2.mono hbel.size)
        have hB3 := hB2.alloc hB2.size (.cells #[.string ek, .int .u64 er, .bool ed] 29)
        have hO2 := HOW.out.below hb2
        have hO3 := hO2.below ((Below.refl _ _).alloc (Nat.le_refl _) (.cells #[.string ek, .int .u64 er, .bool ed] 29))
        have HO2 := Lib.hid hO2
        have HO3 := Lib.hid hO3
        have hX3 := (Blk.made w2 #[.string ek, .int .u64 er, .bool ed] 29)
        clear hO2 hO3 HNX hb2
        by_cases hcd : cd = 0
        · subst hcd
          clear HERR
          cases ok with
          | true =>
            rcases end_ways ek tto with ⟨h0, h1, hte, h2⟩ | ⟨HNT, hte | ⟨hte, h2⟩⟩
            · have HF := Lib.hid (HEND.out rfl (.inr ⟨h0, h1⟩))
              clear h0 h1 HEND
              go_wp2_with fail
              go_ret2
              rw [HF.out]
              exact ⟨_, rfl, HO3.out, hB3⟩
            all_goals
              clear HEND
              go_wp2_with fail
              refine (HGT.out ek _ hB3 hks).mono ?_
              rintro e w4 ⟨rfl, hb4⟩
              have hX4 := hX3.below hb4
              have hB4 := hB3.trans (hb4.mono hB3.size)
              have HO4 := Lib.hid (HO3.out.below hb4)
              have HBAD2 := Lib.hid (HBAD.out (by trivial) (by have := HNT.out; simp at this ⊢; exact this))
              have HSTEP2 := Lib.hid (HSTEP.out (by trivial) (by trivial) HNT.out)
              have hxc := hX4.cells
              have hxl := hX4.lt
              clear HBAD HSTEP hX3 hB3 HO3 hb4 HNT HO2 hB2
              generalize getL A ek rev = g at *
              obtain ⟨⟨yk, yr, yd⟩, ok2, cd2⟩ := g
              unfold ansV
              dsimp only at *
              by_cases hcd2 : cd2 = 0
              · subst hcd2
                have HST := Lib.hid (HSTEP2.out (by trivial))
                clear HBAD2 HSTEP2
                have hB5 := hB4.alloc hB4.size (.cells #[.string yk, .int .u64 yr, .bool yd] 29)
                have hO5 := HO4.out.below ((Below.refl _ _).alloc (Nat.le_refl _) (.cells #[.string yk, .int .u64 yr, .bool yd] 29))
                have hX5 := hX4.alloc (.cells #[.string yk, .int .u64 yr, .bool yd] 29)
                have HSZ := Lib.hid (show (w4.alloc (.cells #[.string yk, .int .u64 yr, .bool yd] 29)).heap.size = w4.heap.size + 1 from by simp)
                by_cases hap : ok2 = true ∧ yd = false
                · obtain ⟨rfl, rfl⟩ := hap
                  rw [if_pos ⟨rfl, rfl⟩] at HST
                  have HX5 := Lib.hid hX5
                  have HO5 := Lib.hid hO5
                  clear hX5 hO5 HO4 hX4
                  go_wp2_with (at_builtin; go_must (refine wpList_own_lit strsT rfl (.tmp 72) (.tmp 75) rfl rfl HO5.out (by rw [HSZ.out]; rfl) rfl (by simp [Value.oneCell']) (by simp; omega) (by simp; omega) hB5.size ?_); intro v6 w6 hown6 hb6 hg6; have hyc := (HX5.out.aside HO5.out (by decide) hg6).cells)
                  have hB6 := hB5.trans hb6
                  have hO6 : Own w6 w.heap.size 9 1 v6 (sc (out ++ [ek])) := by rw [HSN.out]; exact hown6
                  have HO6 := Lib.hid hO6
                  clear hown6 hO6 hg6 HX5 HO5 hb6 HSZ hxc
                  refine (past_any ek _ (HEN.out.below hB6) hks).mono ?_
                  rintro e w7 ⟨rfl, hb7⟩
                  go_wp2_with fail
                  go_roundw
                  case rel => exact ⟨_, _, rfl, HO6.out.below hb7, HST.out.1, hB6.trans (hb7.mono hB6.size)⟩
                  case measure => exact HST.out.2
                · rw [if_neg hap] at HST
                  have hbq : (ok2 && !yd) = false := by cases ok2 <;> cases yd <;> simp_all
                  have HO5 := Lib.hid hO5
                  have hyc := hX5.cells
                  clear hX5 hO5 HO4 hX4
                  have hways : (ok2 = false) ∨ (ok2 = true ∧ yd = true) := by cases ok2 <;> cases yd <;> simp_all
                  clear hap hbq
                  rcases hways with rfl | ⟨rfl, rfl⟩
                  all_goals
                    go_wp2_with fail
                    refine (past_any ek _ (HEN.out.below hB5) hks).mono ?_
                    rintro e w7 ⟨rfl, hb7⟩
                    go_wp2_with fail
                    go_roundw
                    case rel => exact ⟨_, _, rfl, HO5.out.below hb7, HST.out.1, hB5.trans (hb7.mono hB5.size)⟩
                    case measure => exact HST.out.2
              · have hcdb : ((cd2 : Int) != 0) = true := by rw [bne_iff_ne]; omega
                have HF := Lib.hid (HBAD2.out hcd2)
                clear HBAD2 HSTEP2
                go_wp2_with fail
                go_ret2
                rw [HF.out]
                exact ⟨_, rfl, Own.nil _ _ _ _, hB4.alloc hB4.size _⟩
          | false =>
            have HF := Lib.hid (HEND.out rfl (.inl rfl))
            go_wp2_with fail
            go_ret2
            rw [HF.out]
            exact ⟨_, rfl, HO3.out, hB3⟩
        · have hcdb : ((cd : Int) != 0) = true := by rw [bne_iff_ne]; omega
          have HF := Lib.hid (HERR.out hcd)
          go_wp2_with fail
          go_ret2
          rw [HF.out]
          exact ⟨_, rfl, Own.nil _ _ _ _, hB3⟩
    · have HF := Lib.hid (scan_stop hz4 hg)
      have HOW := Lib.hid hown
      have hm0 : (1 : Int) ≤ most := by omega
      have hm1 : most ≤ (out.length : Int) := by omega
      clear hg hown
      go_wp2_with fail
      go_ret2
      rw [HF.out]
      exact ⟨_, rfl, HOW.out, hbel⟩

end Go.Proofs.YtcglegipdlaoiaaDoor
