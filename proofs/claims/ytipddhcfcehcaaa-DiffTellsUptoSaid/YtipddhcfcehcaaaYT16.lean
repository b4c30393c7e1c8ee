/- Lemmas for the claim, no condition. -/
import Derived.Test.YtipddhcfcehcaaaYT15
import Derived.Test.YtipddhcfcehcaaaYT3
import Derived.Test.YtipddhcfcehcaaaYT12
import Derived.Test.YtipddhcfcehcaaaYT14
namespace Go.Proofs.Ytipddhcfcehcaaa
open Go Go.RowKit Go.Maps

theorem Own.mono {w : World} {B B' : Nat} {e : TypeId} {sz : Nat} {v : Value} {xs : List Value} (h : Own w B e sz v xs) (hb : B' ≤ B) : Own w B' e sz v xs := by
  obtain ⟨n, h⟩ := h
  refine ⟨n, h.1, ?_⟩
  rcases h.2 with hn | ⟨g, cap, cur, rfl, hbg, r⟩
  · exact .inl hn
  · exact .inr ⟨g, cap, cur, rfl, by omega, r⟩
theorem BkW.mono {w : World} {B B' b3 : Nat} {P : List (R2 × RT)} (h : BkW w B b3 P) (hb : B' ≤ B) : BkW w B' b3 P := by
  obtain ⟨lw, h1, h2, h3⟩ := h
  exact ⟨lw, h1, ⟨fun x hx => ⟨(h2.rows x hx).1, (h2.rows x hx).2.mono hb⟩, h2.apart⟩, h3⟩
/-- A book, as it is read. -/
structure Bk (w : World) (b1 b2 b3 : Nat) (ts : List TyS) : Prop where
  R : BkR (· < w.heap.size) w b1 (refsOf ts)
  T : Mp Try.prog 9 Value.string bV w b2 (tyL ts)
  W : BkW w 0 b3 (refsOf ts)
theorem Bk.up {w w' : World} {b1 b2 b3 : Nat} {ts : List TyS} (h : Bk w b1 b2 b3 ts) (hb : Below w.heap.size w w') : Bk w' b1 b2 b3 ts := ⟨h.R.up hb, h.T.below hb, h.W.up hb⟩
theorem BkR.mono {S S' : Nat → Prop} {w : World} {b1 : Nat} {P : List (R2 × RT)} (h : BkR S w b1 P) (hs : ∀ x, S x → S' x) : BkR S' w b1 P := by
  obtain ⟨lr, h1, h2, h3⟩ := h
  exact ⟨lr, h1, h2, fun x hx => (h3 x hx).mono hs⟩
theorem open_bk (ts : List TyS) (tv : Value) (w : World) (h : TysAt (· < w.heap.size) w ts tv) (hok : ∀ t ∈ ts, t.Ok) (hu : uniqOk ts = true) (hsz : (refsOf ts).length ≤ 1099511627776) :
    Calls Try.prog 59 #[.agg #[tv]] w fun e w' => ∃ b1 b2 b3, e = .returned (.agg #[.map (some b1), .map (some b2), .map (some b3)]) ∧ Bk w' b1 b2 b3 ts ∧ Below w.heap.size w w' := by
  refine (open_any ts tv w (fun _ hx => hx) h hok hu hsz).mono ?_
  rintro e w' ⟨b1, b2, b3, rfl, hb, hw⟩
  exact ⟨b1, b2, b3, rfl, ⟨hb.R.mono fun x hx => Nat.lt_of_lt_of_le hx hw.size, hb.T, hb.W.mono (Nat.zero_le _)⟩, hw⟩
end Go.Proofs.Ytipddhcfcehcaaa
namespace Go.Proofs.Ytipddhcfcehcaaa
open Go Go.RowKit Go.Maps

theorem texts_at {S : Nat → Prop} {w : World} {ao : Option Addr} {l : List ByteArray} {c : Nat} (h : Sl S w 1 (.slice ao l.length c) (txs l)) : ∀ i (hi : i < l.length), ∃ b off, ao = some ⟨b, off, none⟩ ∧ S b ∧ w.cell? ⟨b, off + i, none⟩ = some (.string l[i]) := by
  obtain ⟨ao', n', c', hv, h1, h2, h3, h4, h5⟩ := h
  cases hv
  intro i hi
  obtain ⟨b, off, rfl, hb, hc⟩ := h5 (fun e => by have := congrArg List.length e; rw [txs_length] at this; simp only [List.length_nil] at this; omega)
  exact ⟨b, off, rfl, hb, hc i _ (by simp [txs, hi])⟩

set_option maxRecDepth 100000 in
set_option maxHeartbeats 2000000 in
theorem indexRF_any (w : World) (ps : List RT) (k : Int) (a b : ByteArray) (pv : Value) (g : Nat) (cap : Array Value) (eg : ∀ args W, (callFunc g args).run Try.prog W = .ok (.enter g args) W) (q : RT → Bool) (hat : RTAt (· < w.heap.size) w (.mk k a b ps) pv) (hf : ∀ i (hi : i < ps.length) W pvi, Below w.heap.size w W → RTAt (· < W.heap.size) W ps[i] pvi → Calls Try.prog g (#[rV ps[i] pvi] ++ cap) W fun e W' => e = .returned (.bool (q ps[i])) ∧ Below W.heap.size W W') :
    Calls Try.prog 97 #[pv, .func (.func g) #[] cap] w fun e w' => ∃ k : Int, e = .returned (.int .i64 k) ∧ (0 ≤ k ↔ ps.any q = true) ∧ Below w.heap.size w w' := by
  obtain ⟨ao, c, rfl, hlc, hcm, hcell⟩ := hat.rows
  dsimp only [RT.ps] at hlc hcell
  have HC := Lib.hid hcell
  have HF := Lib.hid hf
  clear hat hcell hf
  go_enter Try.func97, Try.ntmps97
  go_wp2_with fail
  go_loopw [5, 8] (fun _ ii wr => ∃ i : Nat, i ≤ ps.length ∧ ii = .int .i64 i ∧ (∀ j (hj : j < ps.length), j < i → q ps[j] = false) ∧ Below w.heap.size w wr) (fun _ ii _ => ps.length - (intOf ii).toNat)
  case atStart => exact ⟨0, by omega, rfl, fun _ _ h => absurd h (by omega), Below.refl _ _⟩
  case round =>
    obtain ⟨i, hi, rfl, hall, hbel⟩ := hrel
    have HALL := Lib.hid hall
    clear hall
    by_cases hlt : i < ps.length
    · have HUP := Lib.hid (fun h => upto_succ (p := fun j hj => q ps[j] = false) HALL.out hlt h)
      have HAN := Lib.hid (fun (h : q ps[i] = true) => (show ps.any q = true from List.any_eq_true.2 ⟨_, List.getElem_mem hlt, h⟩))
      obtain ⟨bb, off, pv2, hbo, hb, c0, c1, c2, c3, hat2⟩ := HC.out i hlt
      cases hbo
      have d0 := (hbel.cell (p := ⟨bb, off + i * 4, none⟩) hb).trans c0
      have d1 := (hbel.cell (p := ⟨bb, off + i * 4 + 1, none⟩) hb).trans c1
      have d2 := (hbel.cell (p := ⟨bb, off + i * 4 + 2, none⟩) hb).trans c2
      have d3 := (hbel.cell (p := ⟨bb, off + i * 4 + 3, none⟩) hb).trans c3
      have HR := Lib.hid (HF.out i hlt wr pv2 hbel (hat2.up hbel))
      clear c0 c1 c2 c3 hat2 hb
      unfold rV at HR
      generalize ps[i] = p at *
      have HB := Lib.hid hbel
      clear hbel
      cases hq : q p with
      | true =>
        rw [hq] at HR
        have HT := Lib.hid (HAN.out hq)
        clear HUP HAN hq
        go_wp2_with fail
        refine HR.out.mono ?_
        rintro e w5 ⟨rfl, hb5⟩
        have HBE := Lib.hid (HB.out.trans (hb5.mono HB.out.size))
        clear HR hb5 d0 d1 d2 d3
        go_wp2_with fail
        go_ret
        exact ⟨_, rfl, ⟨fun _ => HT.out, fun _ => by omega⟩, HBE.out⟩
      | false =>
        rw [hq] at HR
        have HN := Lib.hid (HUP.out hq)
        clear HUP HAN hq
        go_wp2_with fail
        refine HR.out.mono ?_
        rintro e w5 ⟨rfl, hb5⟩
        have HBE := Lib.hid (HB.out.trans (hb5.mono HB.out.size))
        clear HR hb5 d0 d1 d2 d3
        go_wp2_with fail
        go_roundw
        case rel => exact ⟨i + 1, by omega, by go_num, HN.out, HBE.out⟩
        case measure => simp [intOf]; omega
    · obtain rfl : i = ps.length := by omega
      have HN := Lib.hid (show ¬ ps.any q = true from fun h => by
        obtain ⟨x, hx, hq⟩ := List.any_eq_true.1 h
        obtain ⟨j, hj, rfl⟩ := List.getElem_of_mem hx
        rw [HALL.out j hj hj] at hq
        cases hq)
      have HB := Lib.hid hbel
      clear hbel
      go_wp2_with fail
      go_ret
      exact ⟨_, rfl, ⟨fun h => absurd h (by omega), fun h => absurd h HN.out⟩, HB.out⟩

set_option maxRecDepth 100000 in
set_option maxHeartbeats 2000000 in
theorem containsRF_any (w : World) (ps : List RT) (k : Int) (a b : ByteArray) (pv : Value) (g : Nat) (cap : Array Value) (eg : ∀ args W, (callFunc g args).run Try.prog W = .ok (.enter g args) W) (q : RT → Bool) (hat : RTAt (· < w.heap.size) w (.mk k a b ps) pv) (hf : ∀ i (hi : i < ps.length) W pvi, Below w.heap.size w W → RTAt (· < W.heap.size) W ps[i] pvi → Calls Try.prog g (#[rV ps[i] pvi] ++ cap) W fun e W' => e = .returned (.bool (q ps[i])) ∧ Below W.heap.size W W') :
    Calls Try.prog 81 #[pv, .func (.func g) #[] cap] w fun e w' => e = .returned (.bool (ps.any q)) ∧ Below w.heap.size w w' := by
  have HI := Lib.hid (indexRF_any w ps k a b pv g cap eg q hat hf)
  clear hat hf
  go_enter Try.func81, Try.ntmps81
  go_wp2_with fail
  refine HI.out.mono ?_
  rintro e w2 ⟨k, rfl, hk, hb⟩
  have HK := Lib.hid hk
  have HB := Lib.hid hb
  clear HI hk hb
  by_cases h0 : 0 ≤ k
  · have HM := Lib.hid (HK.out.1 h0)
    go_wp2_with fail
    go_ret
    exact ⟨by rw [HM.out]; simp [h0], HB.out⟩
  · have HM := Lib.hid (show ps.any q = false from by cases h : ps.any q with | false => rfl | true => exact absurd (HK.out.2 h) h0)
    go_wp2_with fail
    go_ret
    exact ⟨by rw [HM.out]; simp [h0], HB.out⟩

end Go.Proofs.Ytipddhcfcehcaaa
namespace Go.Proofs.Ytipddhcfcehcaaa
open Go Go.RowKit Go.Maps

set_option maxRecDepth 100000 in
set_option maxHeartbeats 1600000 in
theorem sign_any (c : UInt8) (w : World) : Calls Try.prog 73 #[.int .u8 (c.toNat : Int)] w fun e w' => e = .returned (.bool (okc c)) ∧ w' = w := by
  go_enter Try.func73, Try.ntmps73
  have HG := Lib.hid (show okc c = decide ((97 ≤ (c.toNat : Int) ∧ (c.toNat : Int) ≤ 122) ∨ (48 ≤ (c.toNat : Int) ∧ (c.toNat : Int) ≤ 57) ∨ (c.toNat : Int) = 95 ∨ (c.toNat : Int) = 45) from rfl)
  generalize okc c = g at *
  generalize (c.toNat : Int) = n at *
  by_cases a1 : (97 : Int) ≤ n
  all_goals by_cases a2 : n ≤ 122
  all_goals by_cases a3 : (48 : Int) ≤ n
  all_goals by_cases a4 : n ≤ 57
  all_goals cases a5 : (n == 95)
  all_goals cases a6 : (n == 45)
  all_goals try simp only [beq_iff_eq, beq_eq_false_iff_ne, ne_eq] at a5 a6
  all_goals first
    | (exfalso; omega)
    | (have b5 : (n == 95) = true := by rw [beq_iff_eq]; exact a5
       have b6 : (n == 45) = false := by rw [beq_eq_false_iff_ne]; omega
       go_wp2_with fail
       go_ret
       exact ⟨congrArg (fun b => Ending.returned (Value.bool b)) (HG.out.trans (decide_eq_true (by omega))).symm, rfl⟩)
    | (have b5 : (n == 95) = false := by rw [beq_eq_false_iff_ne]; omega
       have b6 : (n == 45) = true := by rw [beq_iff_eq]; exact a6
       go_wp2_with fail
       go_ret
       exact ⟨congrArg (fun b => Ending.returned (Value.bool b)) (HG.out.trans (decide_eq_true (by omega))).symm, rfl⟩)
    | (have b5 : (n == 95) = false := by rw [beq_eq_false_iff_ne]; omega
       have b6 : (n == 45) = false := by rw [beq_eq_false_iff_ne]; omega
       go_wp2_with fail
       go_ret
       first
         | exact ⟨congrArg (fun b => Ending.returned (Value.bool b)) (HG.out.trans (decide_eq_true (by omega))).symm, rfl⟩
         | exact ⟨congrArg (fun b => Ending.returned (Value.bool b)) (HG.out.trans (decide_eq_false (by omega))).symm, rfl⟩)

set_option maxRecDepth 100000 in
set_option maxHeartbeats 1600000 in
theorem blank1_any (s : ByteArray) (hs : s.size ≤ maxLen) (h2 : 2 ≤ s.size) (c : UInt8) (hc : s[0]'(by omega) = c) (h32 : c ≠ 32) (h9 : c ≠ 9) (hr : s.extract 0 2 ≠ ⟨#[47, 47]⟩) (w : World) : Calls Try.prog 50 #[.string s] w fun e w' => e = .returned (.bool false) ∧ w' = w := by
  have q1 : ((c.toNat : Int) != 32) = true := by
    rw [bne_iff_ne]; intro e; exact h32 (UInt8.toNat_inj.1 (by exact_mod_cast e))
  have q2 : ((c.toNat : Int) != 9) = true := by
    rw [bne_iff_ne]; intro e; exact h9 (UInt8.toNat_inj.1 (by exact_mod_cast e))
  have q3 : (1 : Int) < (s.size : Int) := by omega
  have q4 : 0 < s.size := by omega
  have hne := ba_beq' hr
  rw [← ByteArray.toList_eq, show (⟨#[47, 47]⟩ : ByteArray).data.toList = [47, 47] from rfl] at hne
  clear h32 h9 hr
  go_enter Try.func50, Try.ntmps50
  go_wp2_with fail
  go_loopw [3] (fun ii wr => ii = .int .i64 0 ∧ wr = w) (fun _ _ => 0)
  case atStart => exact ⟨rfl, rfl⟩
  case round =>
    obtain ⟨rfl, rfl⟩ := hrel
    go_wp2_with fail
    go_ret
    exact ⟨rfl, rfl⟩

end Go.Proofs.Ytipddhcfcehcaaa
namespace Go.Proofs.Ytipddhcfcehcaaa
open Go Go.RowKit Go.Maps

theorem Own.set1 {w : World} {B : Nat} {e : TypeId} {g n c : Nat} {xs : List Value} (h : Own w B e 1 (.slice (some ⟨g, 0, none⟩) n c) xs) (i : Nat) (u : Value) : Own (w.setCell ⟨g, i, none⟩ u) B e 1 (.slice (some ⟨g, 0, none⟩) n c) (xs.set i u) := by
  obtain ⟨m, h⟩ := h
  rcases h.2 with ⟨hv, rfl⟩ | ⟨g', cap, cur, hv, hbg, hg, hnc, hcm, hcs, htake⟩
  · cases hv
  · cases hv
    have hl := h.1
    refine ⟨n, by rw [List.length_set]; exact hl, .inr ⟨g, c, cur.setIfInBounds i u, rfl, hbg, heap_setCell_same w g i cur e u hg, hnc, hcm, by simpa using hcs, ?_⟩⟩
    rw [Array.toList_setIfInBounds, ← htake, List.take_set]
/-- The cells of an own row. -/
theorem Own.lay {w : World} {B : Nat} {e : TypeId} {v : Value} {xs : List Value} (h : Own w B e 1 v xs) (hx : xs ≠ []) : ∃ g c cs, v = .slice (some ⟨g, 0, none⟩) xs.length c ∧ B ≤ g ∧ Blk w g cs e ∧ xs.length ≤ c ∧ c ≤ maxLen ∧ (∀ i (hi : i < xs.length), cs[i]? = some xs[i]) := by
  obtain ⟨m, h⟩ := h
  rcases h.2 with ⟨hv, he⟩ | ⟨g', cap, cur, hv, hbg, hg, hnc, hcm, hcs, htake⟩
  · exact absurd (List.length_eq_zero_iff.1 (by have := h.1; rw [he] at this; simpa using this)) hx
  · have hl := h.1
    rw [Nat.mul_one] at hl htake
    subst hl
    refine ⟨g', cap, cur, hv, hbg, hg, hnc, hcm, fun i hi => ?_⟩
    have h1 := congrArg (fun l : List Value => l[i]?) htake
    rw [List.getElem?_take_of_lt hi, List.getElem?_eq_getElem hi] at h1
    simpa using h1

/-- One byte of a text. -/
def lnStep (p : List ByteArray × ByteArray) (c : UInt8) : List ByteArray × ByteArray := if c = 10 then (p.1 ++ [p.2], ⟨#[]⟩) else (p.1, p.2.push c)
/-- A text's lines. -/
def linesD (s : ByteArray) : List ByteArray := let p := s.data.toList.foldl lnStep ([], ⟨#[]⟩); p.1 ++ [p.2]
theorem foldl_take {β : Type} (f : β → UInt8 → β) (b : β) (s : ByteArray) {i : Nat} (hi : i < s.size) : (s.data.toList.take (i + 1)).foldl f b = f ((s.data.toList.take i).foldl f b) s[i] := by
  rw [List.take_succ_eq_append_getElem (by simpa using hi), List.foldl_append]
  rfl
theorem push_ext (a s : ByteArray) {i : Nat} (hi : i < s.size) : a ++ s.extract i (i + 1) = a.push s[i] := by
  refine ByteArray.ext ?_
  rw [ByteArray.data_append, ByteArray.data_extract, ByteArray.data_push]
  refine Array.ext' ?_
  simp only [Array.toList_append, Array.toList_push, Array.toList_extract]
  congr 1
  rw [List.extract_eq_take_drop, show i + 1 - i = 1 from by omega, List.drop_eq_getElem_cons (by simpa using hi)]
  rfl

set_option maxRecDepth 100000 in
set_option maxHeartbeats 1600000 in
theorem lines_any (s : ByteArray) (hs : s.size ≤ 65536) (w : World) : Calls Try.prog 49 #[.string s] w fun e w' => ∃ v, e = .returned v ∧ Own w' w.heap.size 9 1 v (txs (linesD s)) ∧ Below w.heap.size w w' := by
  have hsz : s.size ≤ 9223372036854775807 := by omega
  have HS := Lib.hid hs
  have HD := Lib.hid (show linesD s = (s.data.toList.foldl lnStep ([], ⟨#[]⟩)).1 ++ [(s.data.toList.foldl lnStep ([], ⟨#[]⟩)).2] from rfl)
  have HO0 := Lib.hid (Own.lit w (Nat.le_refl _) 9 1 1 #[.string ⟨#[]⟩] rfl (by decide) (by decide))
  have HB0 := Lib.hid (show Below w.heap.size w (w.alloc (.cells #[.string ⟨#[]⟩] 9)) from Ext.alloc _ _)
  clear hs
  go_enter Try.func49, Try.ntmps49
  go_wp2_with fail
  go_loopw [3, 4] (fun ov ii wr => ∃ (i : Nat) (p : List ByteArray × ByteArray), i ≤ s.size ∧ ii = .int .i64 i ∧ p = (s.data.toList.take i).foldl lnStep ([], ⟨#[]⟩) ∧ Own wr w.heap.size 9 1 ov (txs (p.1 ++ [p.2])) ∧ Below w.heap.size w wr ∧ p.1.length ≤ i ∧ p.2.size ≤ i) (fun _ ii _ => s.size - (intOf ii).toNat)
  case atStart => exact ⟨0, ([], ⟨#[]⟩), by omega, rfl, rfl, HO0.out, HB0.out, Nat.zero_le _, Nat.zero_le _⟩
  case round =>
    obtain ⟨i, ⟨pre, cur⟩, hi, rfl, hp, hown, hbel, hpl, hcl⟩ := hrel
    dsimp only at hown hpl hcl
    have HP := Lib.hid hp
    have HOW := Lib.hid hown
    have HBL := Lib.hid hbel
    have HPL := Lib.hid hpl
    have HCL := Lib.hid hcl
    clear HO0 HB0 hp hpl hcl hbel
    by_cases hlt : i < s.size
    · have HST := Lib.hid (foldl_take lnStep ([], ⟨#[]⟩) s hlt)
      have HPX := Lib.hid (push_ext cur s hlt)
      have hi1 : wrap64 ((i : Int) + 1) = ((i + 1 : Nat) : Int) := by rw [wrap_in _ (by omega) (by omega)]; omega
      by_cases hc : s[i] = 10
      · have HN := Lib.hid (show (pre ++ [cur], (⟨#[]⟩ : ByteArray)) = (s.data.toList.take (i + 1)).foldl lnStep ([], ⟨#[]⟩) from by rw [HST.out, ← HP.out, hc]; rfl)
        clear hown
        go_wp2_with (at_builtin; go_must (refine wpList_own_lit textsT rfl (.tmp 16) (.tmp 17) rfl rfl HOW.out rfl rfl (by simp [Value.oneCell']) (by have := HPL.out; have := HS.out; rw [txs_length]; simp; omega) (by have := HPL.out; have := HS.out; rw [txs_length]; simp; omega) HBL.out.size ?_); intro v2 w2 hown2 hb2 hgr2)
        have HB2 := Lib.hid (HBL.out.trans hb2)
        have HO2 := Lib.hid (show Own w2 w.heap.size 9 1 v2 (txs (pre ++ [cur] ++ [⟨#[]⟩])) from by rw [txs_append]; exact hown2)
        clear hown2 hb2 hgr2
        go_wp2_with fail
        go_roundw
        case rel => exact ⟨i + 1, (pre ++ [cur], ⟨#[]⟩), by omega, by go_num, HN.out, HO2.out, HB2.out, by have := HPL.out; simp; omega, Nat.zero_le _⟩
        case measure => simp [intOf]; omega
      · have HN := Lib.hid (show (pre, cur.push s[i]) = (s.data.toList.take (i + 1)).foldl lnStep ([], ⟨#[]⟩) from by rw [HST.out, ← HP.out]; unfold lnStep; rw [if_neg hc])
        obtain ⟨g, c, cs, rfl, hBg, hblk, hlc, hcm, hcell⟩ := hown.lay (by simp [txs])
        have hlen : (txs (pre ++ [cur])).length = pre.length + 1 := by rw [txs_length]; simp
        have hcl := hcell pre.length (by omega)
        rw [hlen] at hlc HOW
        rw [hlen]
        have hcv : (txs (pre ++ [cur]))[pre.length]'(by omega) = .string cur := by simp [txs]
        rw [hcv] at hcl
        have hce : wr.cell? ⟨g, pre.length, none⟩ = some (.string cur) := by rw [hblk.cells]; exact hcl
        have HSET := Lib.hid (show (txs (pre ++ [cur])).set pre.length (.string (cur.push s[i])) = txs (pre ++ [cur.push s[i]]) from by simp [txs])
        have hne : ((s[i].toNat : Int) == 10) = false := by
          rw [beq_eq_false_iff_ne]; intro e; exact hc (UInt8.toNat_inj.1 (by exact_mod_cast e))
        have hpx := HPX.out
        have hpl := HPL.out
        clear hcv hcell hown
        have HLN := Lib.hid (rfl : pre.length = pre.length)
        clear HLN hlen
        obtain ⟨n2, hn2⟩ : ∃ n2, n2 = pre.length := ⟨_, rfl⟩
        rw [← hn2] at HOW HSET hlc hcl hce hpl ⊢
        have hw1 : wrap64 ((n2 : Int) + 1 - 1) = (n2 : Int) := by rw [Int.add_sub_cancel]; exact wrap_in _ (by omega) (by omega)
        have hw3 : IntKind.i64.wrap (n2 : Int) = (n2 : Int) := IntWalk.i64_in _ (by omega)
        obtain ⟨i1, hi1'⟩ : ∃ i1, i1 = i + 1 := ⟨_, rfl⟩
        rw [← hi1'] at hi1 HN hpx
        have HI1 := Lib.hid hi1'
        have hi2 : IntKind.i64.wrap ((i : Int) + 1) = (i1 : Int) := by rw [IntWalk.i64_in _ (by omega)]; omega
        have hpos : (0 : Int) < (n2 : Int) + 1 := by omega
        have hlt1 : (n2 : Int) < (n2 : Int) + 1 := by omega
        have h0n : (0 : Int) ≤ (n2 : Int) := by omega
        have h0i : (0 : Int) ≤ (i : Int) := by omega
        have h1i : (i : Int) ≤ (i1 : Int) := by omega
        have h2i : (i1 : Int) ≤ (s.size : Int) := by omega
        have hA : ∀ W, Ext wr W → W.cell? ⟨g, n2, none⟩ = some (.string cur) := fun W h => by
          exact Ext.cell h hce
        have hcat : ¬ 9223372036854775807 < cur.size + (min i1 s.size - i) := by have := HCL.out; omega
        clear hn2 hc hi1' hce
        go_wp2_with fail
        obtain ⟨wd, hwd⟩ : ∃ x, x = wr.drew := ⟨_, rfl⟩
        have hE : Ext wr wd := by rw [hwd]; exact Ext.drew wr
        refine region_walkL 17 (Ext wr) (by rw [← hwd]; exact hE) (by kernel_rfl) (by kernel_rfl) (fun _ _ d _ _ h => by cases d <;> exact h) ?_
        rw [← hwd]
        clear hwd
        have HST1 := Lib.hid ((HOW.out.below hE).set1 n2 (.string (cur.push s[i])))
        rw [HSET.out] at HST1
        have hfr := (hblk.below hE).free
        have hrd := (hblk.below hE).cells
        have HBE := Lib.hid (show Below w.heap.size w (wd.setCell ⟨g, n2, none⟩ (.string (cur.push s[i]))) from (HBL.out.trans (hE.mono HBL.out.size)).setCell hBg _)
        ((refine WalkL.take 0 _ ?_ (by simp only [List.getElem?_toArray, List.getElem?_cons_zero]; rfl) (by kernel_rfl) (by kernel_rfl) (by kernel_rfl) (by rfl) (fun W hW => ?_) ?_; rotate_left; · (go_simp; try with_reducible rfl)); simp only [Act.put, List.setIfInBounds_toArray, List.set_cons_zero, List.set_cons_succ]); ((refine WalkL.take 1 _ ?_ (by simp only [List.getElem?_toArray, List.getElem?_cons_succ, List.getElem?_cons_zero]; rfl) (by kernel_rfl) (by kernel_rfl) (by kernel_rfl) (by rfl) (fun W hW => ?_) ?_; rotate_left; · (go_simp; try with_reducible rfl)); simp only [Act.put, List.setIfInBounds_toArray, List.set_cons_zero, List.set_cons_succ]); ((refine WalkL.take 2 _ ?_ (by simp only [List.getElem?_toArray, List.getElem?_cons_succ, List.getElem?_cons_zero]; rfl) (by kernel_rfl) (by kernel_rfl) (by kernel_rfl) (by rfl) (fun W hW => ?_) ?_; rotate_left; · (go_simp; try with_reducible rfl)); simp only [Act.put, List.setIfInBounds_toArray, List.set_cons_zero, List.set_cons_succ]); ((refine WalkL.take 3 _ ?_ (by simp only [List.getElem?_toArray, List.getElem?_cons_succ, List.getElem?_cons_zero]; rfl) (by kernel_rfl) (by kernel_rfl) (by kernel_rfl) (by rfl) (fun W hW => ?_) ?_; rotate_left; · (go_simp; try with_reducible rfl)); simp only [Act.put, List.setIfInBounds_toArray, List.set_cons_zero, List.set_cons_succ]); ((refine WalkL.take 4 _ ?_ (by simp only [List.getElem?_toArray, List.getElem?_cons_succ, List.getElem?_cons_zero]; rfl) (by kernel_rfl) (by kernel_rfl) (by kernel_rfl) (by rfl) (fun W hW => ?_) ?_; rotate_left; · (go_simp; try with_reducible rfl)); simp only [Act.put, List.setIfInBounds_toArray, List.set_cons_zero, List.set_cons_succ]); ((refine WalkL.take 5 _ ?_ (by simp only [List.getElem?_toArray, List.getElem?_cons_succ, List.getElem?_cons_zero]; rfl) (by kernel_rfl) (by kernel_rfl) (by kernel_rfl) (by rfl) (fun W hW => ?_) ?_; rotate_left; · (go_simp; try with_reducible rfl)); simp only [Act.put, List.setIfInBounds_toArray, List.set_cons_zero, List.set_cons_succ]); ((refine WalkL.take 6 _ ?_ (by simp only [List.getElem?_toArray, List.getElem?_cons_succ, List.getElem?_cons_zero]; rfl) (by kernel_rfl) (by kernel_rfl) (by kernel_rfl) (by rfl) (fun W hW => ?_) ?_; rotate_left; · (go_simp; try with_reducible rfl)); simp only [Act.put, List.setIfInBounds_toArray, List.set_cons_zero, List.set_cons_succ]); ((refine WalkL.take 7 _ ?_ (by simp only [List.getElem?_toArray, List.getElem?_cons_succ, List.getElem?_cons_zero]; rfl) (by kernel_rfl) (by kernel_rfl) (by kernel_rfl) (by rfl) (fun W hW => ?_) ?_; rotate_left; · (go_simp; try with_reducible rfl)); simp only [Act.put, List.setIfInBounds_toArray, List.set_cons_zero, List.set_cons_succ]); ((refine WalkL.take 8 _ ?_ (by simp only [List.getElem?_toArray, List.getElem?_cons_succ, List.getElem?_cons_zero]; rfl) (by kernel_rfl) (by kernel_rfl) (by kernel_rfl) (by rfl) (fun W hW => ?_) ?_; rotate_left; · (go_simp; try with_reducible rfl)); simp only [Act.put, List.setIfInBounds_toArray, List.set_cons_zero, List.set_cons_succ]); ((refine WalkL.take 9 _ ?_ (by simp only [List.getElem?_toArray, List.getElem?_cons_succ, List.getElem?_cons_zero]; rfl) (by kernel_rfl) (by kernel_rfl) (by kernel_rfl) (by rfl) (fun W hW => ?_) ?_; rotate_left; · (go_simp; try with_reducible rfl)); simp only [Act.put, List.setIfInBounds_toArray, List.set_cons_zero, List.set_cons_succ]); ((refine WalkL.take 10 _ ?_ (by simp only [List.getElem?_toArray, List.getElem?_cons_succ, List.getElem?_cons_zero]; rfl) (by kernel_rfl) (by kernel_rfl) (by kernel_rfl) (by rfl) (fun W hW => ?_) ?_; rotate_left; · (go_simp; try with_reducible rfl)); simp only [Act.put, List.setIfInBounds_toArray, List.set_cons_zero, List.set_cons_succ]); ((refine WalkL.take 11 _ ?_ (by simp only [List.getElem?_toArray, List.getElem?_cons_succ, List.getElem?_cons_zero]; rfl) (by kernel_rfl) (by kernel_rfl) (by kernel_rfl) (by rfl) (fun W hW => ?_) ?_; rotate_left; · (go_simp; try with_reducible rfl)); simp only [Act.put, List.setIfInBounds_toArray, List.set_cons_zero, List.set_cons_succ]); ((refine WalkL.take 12 _ ?_ (by simp only [List.getElem?_toArray, List.getElem?_cons_succ, List.getElem?_cons_zero]; rfl) (by kernel_rfl) (by kernel_rfl) (by kernel_rfl) (by rfl) (fun W hW => ?_) ?_; rotate_left; · (go_simp; try with_reducible rfl)); simp only [Act.put, List.setIfInBounds_toArray, List.set_cons_zero, List.set_cons_succ]); ((refine WalkL.take 13 _ ?_ (by simp only [List.getElem?_toArray, List.getElem?_cons_succ, List.getElem?_cons_zero]; rfl) (by kernel_rfl) (by kernel_rfl) (by kernel_rfl) (by rfl) (fun W hW => ?_) ?_; rotate_left; · (go_simp; try with_reducible rfl)); simp only [Act.put, List.setIfInBounds_toArray, List.set_cons_zero, List.set_cons_succ]); ((refine WalkL.take 14 _ ?_ (by simp only [List.getElem?_toArray, List.getElem?_cons_succ, List.getElem?_cons_zero]; rfl) (by kernel_rfl) (by kernel_rfl) (by kernel_rfl) (by rfl) (fun W hW => ?_) ?_; rotate_left; · (go_simp; try with_reducible rfl)); simp only [Act.put, List.setIfInBounds_toArray, List.set_cons_zero, List.set_cons_succ]); ((refine WalkL.take 15 _ ?_ (by simp only [List.getElem?_toArray, List.getElem?_cons_succ, List.getElem?_cons_zero]; rfl) (by kernel_rfl) (by kernel_rfl) (by kernel_rfl) (by rfl) (fun W hW => ?_) ?_; rotate_left; · (go_simp; try with_reducible rfl)); simp only [Act.put, List.setIfInBounds_toArray, List.set_cons_zero, List.set_cons_succ]); ((refine WalkL.take 16 _ ?_ (by simp only [List.getElem?_toArray, List.getElem?_cons_succ, List.getElem?_cons_zero]; rfl) (by kernel_rfl) (by kernel_rfl) (by kernel_rfl) (by rfl) (fun W hW => ?_) ?_; rotate_left; · (go_simp; try with_reducible rfl)); simp only [Act.put, List.setIfInBounds_toArray, List.set_cons_zero, List.set_cons_succ])
        clear hA
        refine WalkL.last (by kernel_rfl) (by kernel_rfl) ?_
        refine ⟨_, (by simp only [List.getElem?_toArray, List.getElem?_cons_succ, List.getElem?_cons_zero]; rfl), by rfl, fun K hK => ?_⟩
        go_simp
        refine hK.out _ _ ?_
        clear hK hrd hfr hcl
        go_wp2_with fail
        go_roundw
        case rel => exact ⟨i1, (pre, cur.push s[i]), by omega, by go_num, HN.out, HST1.out, HBE.out, by have := HPL.out; have := HI1.out; dsimp only; omega, by have := HCL.out; have := HI1.out; dsimp only; rw [ByteArray.size_push]; omega⟩
        case measure => have := HI1.out; simp [intOf]; omega
    · obtain rfl : i = s.size := by omega
      rw [List.take_of_length_le (by simp)] at HP
      have HF := Lib.hid (show linesD s = pre ++ [cur] from by rw [HD.out, ← HP.out])
      clear hown
      go_wp2_with fail
      go_ret
      exact ⟨_, rfl, by rw [HF.out]; exact HOW.out, HBL.out⟩

end Go.Proofs.Ytipddhcfcehcaaa
