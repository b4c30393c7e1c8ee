/- The walk of sentrylaw31's after. No condition: lemmas. -/
import Derived.Test.YtcbgemnmehoeaaaFltC
import Derived.Test.YtcbgemnmehoeaaaFlatV
namespace Go.Proofs.Ytcbgemnmehoeaaa
open Go Go.RowKit Go.Maps

theorem tuplesT : ElemT Try.prog 41 32 6 96 := ElemT.mk' Try.underlying41 (show _ = some (some (.agg #[.string ByteArray.empty, .string ByteArray.empty, .string ByteArray.empty, .string ByteArray.empty, .string ByteArray.empty, .string ByteArray.empty]), 6, 96) by kernel_rfl) rfl (by decide)
theorem tcs_take (l : List Tup) (k : Nat) : (tcs l).take (k * 6) = tcs (l.take k) := by
  induction k generalizing l with
  | zero => simp [tcs]
  | succ k ih =>
    cases l with
    | nil => simp [tcs]
    | cons a l =>
      rw [List.take_succ_cons, show tcs (a :: l) = tC a ++ tcs l from rfl, show tcs (a :: l.take k) = tC a ++ tcs (l.take k) from rfl, ← ih l]
      rw [show (k + 1) * 6 = 6 + k * 6 from by omega, List.take_append, List.take_of_length_le (by rw [tC_length]; omega), tC_length, Nat.add_sub_cancel_left]
theorem tcs_drop (l : List Tup) (k : Nat) : (tcs l).drop (k * 6) = tcs (l.drop k) := by
  induction k generalizing l with
  | zero => simp [tcs]
  | succ k ih =>
    cases l with
    | nil => simp [tcs]
    | cons a l =>
      rw [List.drop_succ_cons, show tcs (a :: l) = tC a ++ tcs l from rfl, ← ih l]
      rw [show (k + 1) * 6 = 6 + k * 6 from by omega, List.drop_append, List.drop_eq_nil_of_le (by rw [tC_length]; omega), tC_length, Nat.add_sub_cancel_left, List.nil_append]

/-- One act, plainly: what is there behind it, and its answer. -/
def actT (T : List Tup) (a : Act31) : List Tup := if a.1 then T.erase a.2 else addL T a.2
def actN (T : List Tup) (a : Act31) : Int := if a.1 then dropN T a.2 else addN T a.2
def aftS (l : List Act31) : List Tup × Int := l.foldl (fun s a => (actT s.1 a, actN s.1 a)) ([], 0)
theorem aftS_take {l : List Act31} {i : Nat} (hi : i < l.length) : aftS (l.take (i + 1)) = (actT (aftS (l.take i)).1 l[i], actN (aftS (l.take i)).1 l[i]) := by
  unfold aftS
  rw [List.take_succ_eq_append_getElem hi, List.foldl_append]
  rfl
theorem actT_nodup {T : List Tup} (h : T.Nodup) (a : Act31) : (actT T a).Nodup := by
  unfold actT
  split
  · exact h.erase _
  · unfold addL
    split
    · rename_i h2
      simp only [Bool.and_eq_true, decide_eq_true_eq] at h2
      rw [List.nodup_append]
      exact ⟨h, by simp, fun x hx y hy => by obtain rfl := List.mem_singleton.1 hy; rintro rfl; exact h2.2 hx⟩
    · exact h
theorem actT_length (T : List Tup) (a : Act31) : (actT T a).length ≤ T.length + 1 := by
  unfold actT
  split
  · have := List.length_erase_le (a := a.2) (l := T)
    omega
  · exact addL_length T a.2
theorem aftS_nodup (l : List Act31) : ∀ i, (aftS (l.take i)).1.Nodup := by
  intro i
  induction i with
  | zero => simp [aftS]
  | succ i ih =>
    rcases Nat.lt_or_ge i l.length with h | h
    · rw [aftS_take h]
      exact actT_nodup ih _
    · rw [List.take_of_length_le (by omega)]
      rwa [List.take_of_length_le h] at ih
theorem aftS_length (l : List Act31) : ∀ i, (aftS (l.take i)).1.length ≤ i := by
  intro i
  induction i with
  | zero => simp [aftS]
  | succ i ih =>
    rcases Nat.lt_or_ge i l.length with h | h
    · rw [aftS_take h]
      have := actT_length (aftS (l.take i)).1 l[i]
      dsimp only
      omega
    · rw [List.take_of_length_le (by omega)]
      rw [List.take_of_length_le h] at ih
      omega
/-- Where a tuple is, as far as one has looked. -/
def AtI (T : List Tup) (t : Tup) (k : Nat) (v : Value) : Prop := (v = .int .i64 (-1) ∧ t ∉ T.take k) ∨ ∃ m, m < k ∧ v = .int .i64 m ∧ T[m]? = some t
theorem AtI.hit {T : List Tup} {t : Tup} {k : Nat} (hk : k < T.length) (h : T[k] = t) : AtI T t (k + 1) (.int .i64 k) := .inr ⟨k, by omega, rfl, by rw [List.getElem?_eq_getElem hk, h]⟩
theorem AtI.skip {T : List Tup} {t : Tup} {k : Nat} {v : Value} (hk : k < T.length) (h : AtI T t k v) (hn : T[k] ≠ t) : AtI T t (k + 1) v := by
  rcases h with ⟨rfl, h⟩ | ⟨m, hm, rfl, h⟩
  · refine .inl ⟨rfl, ?_⟩
    rw [List.take_succ_eq_append_getElem hk, List.mem_append, List.mem_singleton]
    rintro (h2 | rfl)
    · exact h h2
    · exact hn rfl
  · exact .inr ⟨m, by omega, rfl, h⟩
theorem erase_at {T : List Tup} {t : Tup} {m : Nat} (hn : T.Nodup) (h : T[m]? = some t) : T.erase t = T.take m ++ T.drop (m + 1) := by
  obtain ⟨hm, rfl⟩ := List.getElem?_eq_some_iff.1 h
  have e : T = T.take m ++ T[m] :: T.drop (m + 1) := by rw [← List.drop_eq_getElem_cons hm, List.take_append_drop]
  have h1 : T[m] ∉ T.take m := by
    intro hs
    rw [e, List.nodup_append] at hn
    exact hn.2.2 _ hs _ List.mem_cons_self rfl
  have h2 : T.erase T[m] = (T.take m ++ T[m] :: T.drop (m + 1)).erase T[m] := congrArg (fun L => List.erase L T[m]) e
  rw [h2, List.erase_append_right _ h1, List.erase_cons_head]

set_option maxRecDepth 100000 in
set_option maxHeartbeats 8000000 in
theorem after_any (v : Value) (l : List Act31) (w : World) (h : Sl (· < w.heap.size) w 7 v (l.flatMap aC)) (hok : ∀ a ∈ l, a.2.Ok) (hl : l.length ≤ 40) : Calls Try.prog 15 #[v] w fun e w' => ∃ v' : Value, e = .returned (.tuple #[v', .int .i64 (aftS l).2]) ∧ Own w' w.heap.size 32 6 v' (tcs (aftS l).1) ∧ Below w.heap.size w w' := by
  obtain ⟨ao, c, rfl, hlc, hcm, hcell⟩ := acts_rows h
  have HC := Lib.hid hcell
  have HOK := Lib.hid hok
  have HL := Lib.hid hl
  clear hcell h hok hl
  go_enter Try.func15, Try.ntmps15
  go_wp2_with fail
  go_loopw [4, 5, 13] (fun hv ev ii wr => ∃ i : Nat, i ≤ l.length ∧ ii = .int .i64 i ∧ Own wr w.heap.size 32 6 hv (tcs (aftS (l.take i)).1) ∧ ev = .int .i64 (aftS (l.take i)).2 ∧ Below w.heap.size w wr) (fun _ _ ii _ => l.length - (intOf ii).toNat)
  case atStart => exact ⟨0, by omega, rfl, Own.nil _ _ _ _, rfl, Below.refl _ _⟩
  case round =>
    obtain ⟨i, hi, rfl, hown, rfl, hbel⟩ := hrel
    by_cases hlt : i < l.length
    · obtain ⟨b, off, rfl, hb, c0, c1, c2, c3, c4, c5, c6⟩ := HC.out i hlt
      have d0 := (hbel.cell (p := ⟨b, off + i * 7, none⟩) hb).trans c0
      have d1 := (hbel.cell (p := ⟨b, off + i * 7 + 1, none⟩) hb).trans c1
      have d2 := (hbel.cell (p := ⟨b, off + i * 7 + 2, none⟩) hb).trans c2
      have d3 := (hbel.cell (p := ⟨b, off + i * 7 + 3, none⟩) hb).trans c3
      have d4 := (hbel.cell (p := ⟨b, off + i * 7 + 4, none⟩) hb).trans c4
      have d5 := (hbel.cell (p := ⟨b, off + i * 7 + 5, none⟩) hb).trans c5
      have d6 := (hbel.cell (p := ⟨b, off + i * 7 + 6, none⟩) hb).trans c6
      have hok := HOK.out _ (List.getElem_mem hlt)
      have HTK := Lib.hid (aftS_take hlt)
      have HND := Lib.hid (aftS_nodup l i)
      have hTl := aftS_length l i
      have hT40 : (aftS (l.take i)).1.length ≤ 40 := by have := HL.out; omega
      have HT40 := Lib.hid hT40
      clear c0 c1 c2 c3 c4 c5 c6 hb hTl hT40
      generalize l[i] = a at *
      generalize aftS (l.take i) = s at *
      obtain ⟨T, sn⟩ := s
      obtain ⟨ad, ⟨⟨ot, oi, or_⟩, ⟨st, si, sr⟩⟩⟩ := a
      dsimp only at *
      have hE0 : Ext wr (wr.alloc (.cells #[.bool ad, .string ot, .string oi, .string or_, .string st, .string si, .string sr] 34)) := Ext.alloc _ _
      have hBA := Blk.made wr #[.bool ad, .string ot, .string oi, .string or_, .string st, .string si, .string sr] 34
      obtain ⟨ho, hc, rfl, hhc, hhm, hhcell⟩ := tups_rows hown.sl
      have HHC := Lib.hid hhcell
      have HOWA := Lib.hid (hown.below hE0)
      have HBA := Lib.hid hBA
      have HBE := Lib.hid (hbel.trans (Below.mono hE0 hbel.size))
      have HE0 := Lib.hid hE0
      clear hBA hE0 hown hbel hhcell
      go_wp2_with fail
      generalize wr.alloc (.cells #[.bool ad, .string ot, .string oi, .string or_, .string st, .string si, .string sr] 34) = wA at *
      generalize hba : wr.heap.size = ba at *
      clear d0 d1 d2 d3 d4 d5 d6
      go_loopw [8, 19] (fun av kk wr => ∃ k : Nat, k ≤ T.length ∧ kk = .int .i64 k ∧ AtI T ⟨⟨ot, oi, or_⟩, ⟨st, si, sr⟩⟩ k av ∧ Ext wA wr) (fun _ kk _ => T.length - (intOf kk).toNat)
      case atStart => exact ⟨0, by omega, rfl, .inl ⟨rfl, by simp⟩, Ext.refl _⟩
      case round =>
        obtain ⟨k, hk, rfl, hat, hxt⟩ := hrel
        have HAT := Lib.hid hat
        clear hat
        by_cases hkl : k < T.length
        · obtain ⟨gb, go, rfl, hgb, c0, c1, c2, c3, c4, c5⟩ := HHC.out k hkl
          have hEr := HE0.out.trans hxt
          have k0 := Ext.cell hEr c0
          have k1 := Ext.cell hEr c1
          have k2 := Ext.cell hEr c2
          have k3 := Ext.cell hEr c3
          have k4 := Ext.cell hEr c4
          have k5 := Ext.cell hEr c5
          have HHI := fun h => Lib.hid (AtI.hit (T := T) (t := ⟨⟨ot, oi, or_⟩, ⟨st, si, sr⟩⟩) hkl h)
          have HSK := fun h => Lib.hid (AtI.skip (t := ⟨⟨ot, oi, or_⟩, ⟨st, si, sr⟩⟩) hkl HAT.out h)
          clear c0 c1 c2 c3 c4 c5
          generalize T[k] = x at *
          obtain ⟨⟨xt, xi, xr⟩, ⟨yt, yi, yr⟩⟩ := x
          dsimp only at k0 k1 k2 k3 k4 k5
          have hEx : Ext wA (wr.alloc (.cells #[.string xt, .string xi, .string xr, .string yt, .string yi, .string yr] 32)) := hxt.trans (Ext.alloc _ _)
          have hbx := (Blk.made wr #[.string xt, .string xi, .string xr, .string yt, .string yi, .string yr] 32).cells
          have hba2 := (HBA.out.below hEx).cells
          have HEX := Lib.hid hEx
          have heq := fun W => tup_eql ⟨⟨xt, xi, xr⟩, ⟨yt, yi, yr⟩⟩ ⟨⟨ot, oi, or_⟩, ⟨st, si, sr⟩⟩ W
          unfold tV at heq
          dsimp only at heq
          clear hEr hEx hxt
          by_cases hm : (⟨⟨xt, xi, xr⟩, ⟨yt, yi, yr⟩⟩ : Tup) = ⟨⟨ot, oi, or_⟩, ⟨st, si, sr⟩⟩
          · rw [decide_eq_true hm] at heq
            have HNX := HHI hm
            clear HHI HSK hm
            go_wp2_with fail
            go_roundw
            case rel => exact ⟨k + 1, by omega, by go_num, HNX.out, HEX.out⟩
            case measure => simp [intOf]; omega
          · rw [decide_eq_false hm] at heq
            have HNX := HSK hm
            clear HHI HSK hm
            go_wp2_with fail
            go_roundw
            case rel => exact ⟨k + 1, by omega, by go_num, HNX.out, HEX.out⟩
            case measure => simp [intOf]; omega
        · obtain rfl : k = T.length := by omega
          have HBE2 := Lib.hid (HBE.out.trans (Below.mono hxt HBE.out.size))
          have HOW2 := Lib.hid (HOWA.out.below hxt)
          have hba2 := (HBA.out.below hxt).cells
          have HBA2 := Lib.hid (HBA.out.below hxt)
          clear hxt HOWA HBA HBE
          rcases HAT.out with ⟨rfl, hnin⟩ | ⟨m, hmT, rfl, hTm⟩
          · rw [List.take_length] at hnin
            have HNI := Lib.hid hnin
            cases ad with
            | true =>
              have HNX := Lib.hid (show aftS (l.take (i + 1)) = (T, 4) from by rw [HTK.out, actT, actN, if_pos rfl, if_pos rfl, dropN, if_neg hnin, List.erase_of_not_mem hnin])
              clear hnin HTK
              go_wp2_with fail
              go_roundw
              case rel => exact ⟨i + 1, by omega, by go_num, by rw [HNX.out]; exact HOW2.out, by rw [HNX.out], HBE2.out⟩
              case measure => simp [intOf]; omega
            | false =>
              have HCK := Lib.hid (refCheck_any ⟨⟨ot, oi, or_⟩, ⟨st, si, sr⟩⟩ hok wr)
              unfold tV at HCK
              dsimp only at HCK
              clear hok
              go_wp2_with fail
              refine HCK.out.mono ?_
              rintro e w5 ⟨rfl, hb5⟩
              have hba5 := (HBA2.out.below hb5).cells
              have HOW5 := Lib.hid (HOW2.out.below hb5)
              have HBE5 := Lib.hid (HBE2.out.trans (Below.mono hb5 HBE2.out.size))
              clear HCK hb5 hba2
              rcases hck : chkT ⟨⟨ot, oi, or_⟩, ⟨st, si, sr⟩⟩ with _ | _
              · have HNX := Lib.hid (show aftS (l.take (i + 1)) = (T, 2) from by rw [HTK.out]; simp [actT, actN, addL, addN, hck])
                rw [show chkN ⟨⟨ot, oi, or_⟩, ⟨st, si, sr⟩⟩ = 2 from by simp [chkN, hck]]
                clear hck HTK
                go_wp2_with fail
                go_roundw
                case rel => exact ⟨i + 1, by omega, by go_num, by rw [HNX.out]; exact HOW5.out, by rw [HNX.out], HBE5.out⟩
                case measure => simp [intOf]; omega
              · have HNX := Lib.hid (show aftS (l.take (i + 1)) = (T ++ [⟨⟨ot, oi, or_⟩, ⟨st, si, sr⟩⟩], 0) from by rw [HTK.out]; simp [actT, actN, addL, addN, hck, HNI.out])
                rw [show chkN ⟨⟨ot, oi, or_⟩, ⟨st, si, sr⟩⟩ = 0 from by simp [chkN, hck]]
                clear hck HTK
                have hEt := Ext.alloc w5 (.cells #[.string ot, .string oi, .string or_, .string st, .string si, .string sr] 32)
                have HO4 := Lib.hid (HOW5.out.below hEt)
                have HB4 := Lib.hid (HBE5.out.trans (Below.mono hEt HBE5.out.size))
                have HSL := Lib.hid (Sl.made w5 (fun _ => True) 6 1 32 #[.string ot, .string oi, .string or_, .string st, .string si, .string sr] rfl (by decide) trivial)
                have HLL := Lib.hid (show (tcs T).length + 6 ≤ 1000 from by rw [tcs_length]; have := HT40.out; omega)
                clear hEt
                go_wp2_with (at_builtin; go_must (refine wpList_own tuplesT rfl (.tmp 30) (.tmp 33) rfl rfl HO4.out rfl HSL.out (tcs_one [⟨⟨ot, oi, or_⟩, ⟨st, si, sr⟩⟩]) (by have := HLL.out; show _ + 6 ≤ _; omega) (by have := HLL.out; show (_ + 6) * 96 ≤ _; omega) HB4.out.size ?_); intro vL w6 hown6 hb6 _)
                have HO6 := Lib.hid hown6
                have HB6 := Lib.hid (HB4.out.trans hb6)
                clear hown6 hb6
                go_wp2_with fail
                go_roundw
                case rel => exact ⟨i + 1, by omega, by go_num, by rw [HNX.out, tcs_append, tcs_single]; exact HO6.out, by rw [HNX.out], HB6.out⟩
                case measure => simp [intOf]; omega
          · have HIN := Lib.hid (List.mem_of_getElem? hTm)
            cases ad with
            | false =>
              have HCK := Lib.hid (refCheck_any ⟨⟨ot, oi, or_⟩, ⟨st, si, sr⟩⟩ hok wr)
              unfold tV at HCK
              dsimp only at HCK
              clear hok
              go_wp2_with fail
              refine HCK.out.mono ?_
              rintro e w5 ⟨rfl, hb5⟩
              have hba5 := (HBA2.out.below hb5).cells
              have HOW5 := Lib.hid (HOW2.out.below hb5)
              have HBE5 := Lib.hid (HBE2.out.trans (Below.mono hb5 HBE2.out.size))
              clear HCK hb5 hba2
              rcases hck : chkT ⟨⟨ot, oi, or_⟩, ⟨st, si, sr⟩⟩ with _ | _
              · have HNX := Lib.hid (show aftS (l.take (i + 1)) = (T, 2) from by rw [HTK.out]; simp [actT, actN, addL, addN, hck])
                rw [show chkN ⟨⟨ot, oi, or_⟩, ⟨st, si, sr⟩⟩ = 2 from by simp [chkN, hck]]
                clear hck HTK
                go_wp2_with fail
                go_roundw
                case rel => exact ⟨i + 1, by omega, by go_num, by rw [HNX.out]; exact HOW5.out, by rw [HNX.out], HBE5.out⟩
                case measure => simp [intOf]; omega
              · have HNX := Lib.hid (show aftS (l.take (i + 1)) = (T, 3) from by rw [HTK.out]; simp [actT, actN, addL, addN, hck, HIN.out])
                rw [show chkN ⟨⟨ot, oi, or_⟩, ⟨st, si, sr⟩⟩ = 0 from by simp [chkN, hck]]
                clear hck HTK
                go_wp2_with fail
                go_roundw
                case rel => exact ⟨i + 1, by omega, by go_num, by rw [HNX.out]; exact HOW5.out, by rw [HNX.out], HBE5.out⟩
                case measure => simp [intOf]; omega
            | true =>
              have HNX := Lib.hid (show aftS (l.take (i + 1)) = (T.take m ++ T.drop (m + 1), 0) from by rw [HTK.out, actT, actN, if_pos rfl, if_pos rfl, dropN, if_pos HIN.out, erase_at HND.out hTm])
              clear HTK hTm
              obtain ⟨gb, go, rfl, -⟩ := HHC.out m hmT
              have hmc : (m : Int) ≤ hc := by omega
              obtain ⟨m1, hm1⟩ : ∃ m1, m1 = m + 1 := ⟨_, rfl⟩
              have hwm : IntKind.i64.wrap ((m : Int) + 1) = (m1 : Int) := by
                rw [IntWalk.i64_in _ (by have := HT40.out; omega), hm1]
                rfl
              have hm1T : (m1 : Int) ≤ T.length := by omega
              rw [← hm1] at HNX
              have hm0 : (0 : Int) ≤ m1 := by omega
              have HM1 := Lib.hid hm1
              clear hm1
              go_wp2_with fail
              obtain ⟨wd, hwd⟩ : ∃ wd, wd = wr.drew := ⟨_, rfl⟩
              have hEd : Ext wr wd := by rw [hwd]; exact Ext.drew _
              have hbd : Below w.heap.size w wd := HBE2.out.trans (Below.mono hEd HBE2.out.size)
              have hsd : Sl (· < wd.heap.size) wd 6 (.slice (some ⟨gb, go, none⟩) T.length hc) (tcs T) := HOW2.out.slU.up hEd
              refine region_walkN (Ext wd) (by rw [← hwd]; exact Ext.refl _) (by kernel_rfl) (by kernel_rfl) (fun _ _ d _ _ h => by cases d <;> exact h) ?_
              rw [← hwd]
              clear hwd
              ((refine WalkN.take 1 _ ?_ (by simp only [List.getElem?_toArray, List.getElem?_cons_succ, List.getElem?_cons_zero]; rfl) (by kernel_rfl) (by kernel_rfl) (by rfl) (fun W hW => ?_) ?_; rotate_left; · (go_simp; try with_reducible rfl)); simp only [Act.put, List.setIfInBounds_toArray, List.set_cons_zero, List.set_cons_succ]); ((refine WalkN.take 2 _ ?_ (by simp only [List.getElem?_toArray, List.getElem?_cons_succ, List.getElem?_cons_zero]; rfl) (by kernel_rfl) (by kernel_rfl) (by rfl) (fun W hW => ?_) ?_; rotate_left; · (go_simp; try with_reducible rfl)); simp only [Act.put, List.setIfInBounds_toArray, List.set_cons_zero, List.set_cons_succ]); ((refine WalkN.take 3 _ ?_ (by simp only [List.getElem?_toArray, List.getElem?_cons_succ, List.getElem?_cons_zero]; rfl) (by kernel_rfl) (by kernel_rfl) (by rfl) (fun W hW => ?_) ?_; rotate_left; · (go_simp; try with_reducible rfl)); simp only [Act.put, List.setIfInBounds_toArray, List.set_cons_zero, List.set_cons_succ]); ((refine WalkN.take 5 _ ?_ (by simp only [List.getElem?_toArray, List.getElem?_cons_succ, List.getElem?_cons_zero]; rfl) (by kernel_rfl) (by kernel_rfl) (by rfl) (fun W hW => ?_) ?_; rotate_left; · (go_simp; try with_reducible rfl)); simp only [Act.put, List.setIfInBounds_toArray, List.set_cons_zero, List.set_cons_succ]); ((refine WalkN.take 6 _ ?_ (by simp only [List.getElem?_toArray, List.getElem?_cons_succ, List.getElem?_cons_zero]; rfl) (by kernel_rfl) (by kernel_rfl) (by rfl) (fun W hW => ?_) ?_; rotate_left; · (go_simp; try with_reducible rfl)); simp only [Act.put, List.setIfInBounds_toArray, List.set_cons_zero, List.set_cons_succ]); ((refine WalkN.take 7 _ ?_ (by simp only [List.getElem?_toArray, List.getElem?_cons_succ, List.getElem?_cons_zero]; rfl) (by kernel_rfl) (by kernel_rfl) (by rfl) (fun W hW => ?_) ?_; rotate_left; · (go_simp; try with_reducible rfl)); simp only [Act.put, List.setIfInBounds_toArray, List.set_cons_zero, List.set_cons_succ]); ((refine WalkN.take 8 _ ?_ (by simp only [List.getElem?_toArray, List.getElem?_cons_succ, List.getElem?_cons_zero]; rfl) (by kernel_rfl) (by kernel_rfl) (by rfl) (fun W hW => ?_) ?_; rotate_left; · (go_simp; try with_reducible rfl)); simp only [Act.put, List.setIfInBounds_toArray, List.set_cons_zero, List.set_cons_succ])
              have hE0 : Ext wd wd := Ext.refl _
              have hs1 : Sl (· < wd.heap.size) wd 6 (.slice (some ⟨gb, go, none⟩) m hc) (tcs (T.take m)) := by
                have := hsd.take m (by omega)
                rwa [tcs_take] at this
              have hs2 : Sl (· < wd.heap.size) wd 6 (.slice (if hc = m1 then (some ⟨gb, go, none⟩) else (some ⟨gb, go + m1 * 6, none⟩)) (T.length - m1) (hc - m1)) (tcs (T.drop m1)) := by
                have := hsd.tailK (ao' := (if hc = m1 then (some ⟨gb, go, none⟩) else (some ⟨gb, go + m1 * 6, none⟩))) m1 (by omega) (fun h => by rw [if_neg h]; simp [Addr.add_lit])
                rwa [tcs_drop] at this
              have hl1 : (tcs (T.take m)).length ≤ 240 := by have := HT40.out; rw [tcs_length, List.length_take]; omega
              have hl2 : (tcs (T.drop m1)).length ≤ 240 := by have := HT40.out; rw [tcs_length, List.length_drop]; omega
              clear hsd
              refine WalkN.one 0 (by kernel_rfl) ?_
              refine ⟨_, (by simp only [List.getElem?_toArray, List.getElem?_cons_zero]; rfl), by rfl, fun K hK => ?_⟩
              go_simp
              have hown1 : Own (wd.alloc (.cells #[] 32)) wd.heap.size 32 6 (.slice (some ⟨wd.heap.size, 0, none⟩) 0 0) [] := Own.made wd (Nat.le_refl _) _ _
              have hE1 := Below.alloc hE0 (Nat.le_refl _) (.cells #[] 32)
              refine hK.out _ _ hE1 ?_
              clear hK
              refine WalkN.one 4 (by kernel_rfl) ?_
              refine ⟨_, (by simp only [List.getElem?_toArray, List.getElem?_cons_succ, List.getElem?_cons_zero]; rfl), by rfl, fun K hK => ?_⟩
              refine wp_own tuplesT (.tmp 45) (.tmp 48) rfl rfl hown1 rfl (hs1.same (Same.below hE1)) (tcs_one _) (by rw [List.length_nil]; omega) (by rw [List.length_nil]; omega) hE1.size (fun v2 w2 hown2 hb2 _ => ?_)
              have hE2 : Ext wd w2 := Below.trans hE1 hb2
              refine hK.out _ _ hE2 ?_
              clear hK
              simp only [Act.put, List.setIfInBounds_toArray, List.set_cons_zero, List.set_cons_succ]
              refine WalkN.one 9 (by kernel_rfl) ?_
              refine ⟨_, (by simp only [List.getElem?_toArray, List.getElem?_cons_succ, List.getElem?_cons_zero]; rfl), by rfl, fun K hK => ?_⟩
              refine wp_own tuplesT (.tmp 49) (.tmp 53) rfl rfl hown2 rfl (hs2.same (Same.below hE2)) (tcs_one _) (by rw [List.nil_append]; omega) (by rw [List.nil_append]; omega) hE2.size (fun v3 w3 hown3 hb3 _ => ?_)
              have hE3 : Ext wd w3 := Below.trans hE2 hb3
              refine hK.out _ _ hE3 ?_
              clear hK
              simp only [Act.put, List.setIfInBounds_toArray, List.set_cons_zero, List.set_cons_succ]
              have HO3 := Lib.hid (show Own w3 w.heap.size 32 6 v3 (tcs (T.take m ++ T.drop m1)) from by rw [List.nil_append, ← tcs_append] at hown3; exact hown3.base hbd.size)
              have HB3 := Lib.hid (hbd.trans (Below.mono hE3 hbd.size))
              clear hown1 hown2 hown3 hs1 hs2 hE1 hE2 hE3 hb2 hb3
              ((refine WalkN.take 10 _ ?_ (by simp only [List.getElem?_toArray, List.getElem?_cons_succ, List.getElem?_cons_zero]; rfl) (by kernel_rfl) (by kernel_rfl) (by rfl) (fun W hW => ?_) ?_; rotate_left; · (go_simp; try with_reducible rfl)); simp only [Act.put, List.setIfInBounds_toArray, List.set_cons_zero, List.set_cons_succ])
              refine WalkN.done (by kernel_rfl) ?_
              go_wp2_with fail
              go_roundw
              case rel => exact ⟨i + 1, by omega, by go_num, by rw [HNX.out]; exact HO3.out, by rw [HNX.out], HB3.out⟩
              case measure => simp [intOf]; omega
    · obtain rfl : i = l.length := by omega
      rw [List.take_length] at hown ⊢
      have HOWN := Lib.hid hown
      clear hown
      go_wp2_with fail
      go_ret2
      exact ⟨_, rfl, HOWN.out, hbel⟩

end Go.Proofs.Ytcbgemnmehoeaaa
