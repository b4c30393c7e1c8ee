/- Lemmas for the claim, no condition. -/
import Derived.Test.YtjdigpfipmckhaaGreatYReWalks6
namespace Go.Proofs.YtjdigpfipmckhaaGreat
open Go Go.RowKit
def relOk (x : ByteArray × RT) : Bool := x.2.textOk 0 && ownB x.1 && decide (x.1 ≠ ⟨#[116, 121, 112, 101]⟩)
def tyOk (t : TyS) : Bool := ownB t.name && t.rels.all relOk
def prN (b : Bool) : Int := if b then 0 else 9
def printOk (ts : List TyS) : Bool := ts.all tyOk
def relW : List (ByteArray × RT) → Nat | [] => 0 | x :: l => 40 + 80 * x.2.sz + relW l
def schW : List TyS → Nat | [] => 0 | t :: ts => 40 + relW t.rels + schW ts
theorem relW_append (a b : List (ByteArray × RT)) : relW (a ++ b) = relW a + relW b := by
  induction a with
  | nil => simp [relW]
  | cons x a ih => rw [List.cons_append, relW, relW, ih]; omega
theorem schW_append (a b : List TyS) : schW (a ++ b) = schW a + schW b := by
  induction a with
  | nil => simp [schW]
  | cons x a ih => rw [List.cons_append, schW, schW, ih]; omega
theorem relW_take {l : List (ByteArray × RT)} {i : Nat} (hi : i < l.length) : relW (l.take (i + 1)) = relW (l.take i) + (40 + 80 * l[i].2.sz) := by
  rw [List.take_succ_eq_append_getElem hi, relW_append]
  simp [relW]
theorem schW_take {l : List TyS} {i : Nat} (hi : i < l.length) : schW (l.take (i + 1)) = schW (l.take i) + (40 + relW l[i].rels) := by
  rw [List.take_succ_eq_append_getElem hi, schW_append]
  simp [schW]
theorem relW_le (l : List (ByteArray × RT)) (i : Nat) : relW (l.take i) ≤ relW l := by
  conv => rhs; rw [← List.take_append_drop i l]
  rw [relW_append]
  omega
theorem schW_le (l : List TyS) (i : Nat) : schW (l.take i) ≤ schW l := by
  conv => rhs; rw [← List.take_append_drop i l]
  rw [schW_append]
  omega
set_option maxRecDepth 100000 in
set_option maxHeartbeats 4000000 in
theorem print05_any (ts : List TyS) (tv : Value) (w : World) (h : TysAt (· < w.heap.size) w ts tv) (hok : ∀ t ∈ ts, t.Ok) (hsz : schW ts ≤ 80000000) : Calls Tryz.prog 60 #[.agg #[tv]] w fun e w' => ∃ s : ByteArray, e = .returned (.tuple #[.string s, .int .i64 (prN (printOk ts))]) ∧ Below w.heap.size w w' := by
  obtain ⟨ao, c, rfl, hlc, hcm, hcell⟩ := h.rows
  have HC := Lib.hid hcell
  have HOK := Lib.hid hok
  have HSZ := Lib.hid hsz
  generalize hg : printOk ts = g
  have HG := Lib.hid (show g = ts.all tyOk from hg.symm)
  have hbk := (Blk.made w #[.slice ao ts.length c] 24).cells
  have HB0 := Lib.hid (show Below w.heap.size w (w.alloc (.cells #[.slice ao ts.length c] 24)) from (Below.refl _ _).alloc (Nat.le_refl _) _)
  clear h hcell hok hsz hg
  go_enter Tryz.func60, Tryz.ntmps60
  go_wp2_with fail
  clear hbk
  go_loopw [4, 14] (fun ov ii wr => ∃ (i : Nat) (out : ByteArray), i ≤ ts.length ∧ ii = .int .i64 i ∧ ov = .string out ∧ (∀ j (hj : j < ts.length), j < i → tyOk ts[j] = true) ∧ out.size ≤ schW (ts.take i) ∧ Below w.heap.size w wr) (fun _ ii _ => ts.length - (intOf ii).toNat)
  case atStart => exact ⟨0, ⟨#[]⟩, by omega, rfl, rfl, fun _ _ h => absurd h (by omega), Nat.zero_le _, HB0.out⟩
  case round =>
    obtain ⟨i, out, hi, rfl, rfl, hall, hos, hbel⟩ := hrel
    have HALL := Lib.hid hall
    clear HB0 hall
    by_cases hlt : i < ts.length
    · have HUP := Lib.hid (fun h => upto_succ (p := fun j hj => tyOk ts[j] = true) HALL.out hlt h)
      have HBAD := Lib.hid (fun (h : tyOk ts[i] = false) => (show g = false from by rw [HG.out]; exact List.all_eq_false.2 ⟨ts[i], List.getElem_mem hlt, by rw [h]; exact Bool.false_ne_true⟩))
      have hokt := HOK.out _ (List.getElem_mem hlt)
      have hst := schW_take hlt
      have hle := schW_le ts (i + 1)
      have hsl := HSZ.out
      have HST := Lib.hid hst
      rw [hst] at hle
      obtain ⟨b, off, pv2, hbo, hb, c0, c1, hat2⟩ := HC.out i hlt
      cases hbo
      have d0 := (hbel.cell (p := ⟨b, off + i * 2, none⟩) hb).trans c0
      have d1 := (hbel.cell (p := ⟨b, off + i * 2 + 1, none⟩) hb).trans c1
      obtain ⟨ao2, c2', rfl, -⟩ := hat2.rows
      have hb1 := hbel.alloc hbel.size (.cells #[.string ts[i].name, .slice ao2 ts[i].rels.length c2'] 95)
      have hat3 := hat2.up hb1
      have HBT := Lib.hid (Blk.made wr #[.string ts[i].name, .slice ao2 ts[i].rels.length c2'] 95)
      have hbx := HBT.out.cells
      have HB1 := Lib.hid hb1
      clear c0 c1 hat2 hb1 hbel
      have HI1 := Lib.hid hlt
      clear hst
      generalize ts[i] = t at *
      obtain ⟨tn, rels⟩ := t
      dsimp only at *
      obtain ⟨hon, hor⟩ := hokt
      dsimp only at hon hor
      have HOR := Lib.hid hor
      have HO1 := Lib.hid (own_any tn (by unfold maxLen; omega) (wr.alloc (.cells #[.string tn, .slice ao2 rels.length c2'] 95)))
      obtain ⟨ao3, c3, hv3, hlc3, hcm3, hcell3⟩ := hat3.rows
      injection hv3 with hv31 hv32 hv33
      subst hv31 hv33
      have HC3 := Lib.hid hcell3
      clear hor hcell3 hv32 hat3 hon
      cases ho : ownB tn with
      | false =>
        rw [ho] at HO1
        have HF := Lib.hid (HBAD.out (by unfold tyOk; rw [ho]; rfl))
        clear HUP HBAD ho
        go_wp2_with fail
        refine HO1.out.mono ?_
        rintro e w5 ⟨rfl, rfl⟩
        clear HO1
        go_wp2_with fail
        go_ret2
        exact ⟨_, by rw [HF.out]; rfl, HB1.out⟩
      | true =>
        rw [ho] at HO1
        have hns := ownB_size ho
        have HTY := Lib.hid (show tyOk ⟨tn, rels⟩ = rels.all relOk from by unfold tyOk; rw [ho]; rfl)
        clear ho
        have hq1 : ¬ (9223372036854775807 < out.size + 5) := by omega
        have hq2 : ¬ (9223372036854775807 < out.size + 5 + tn.size) := by omega
        have hq3 : ¬ (9223372036854775807 < out.size + 5 + tn.size + 1) := by omega
        go_wp2_with fail
        refine HO1.out.mono ?_
        rintro e w5 ⟨rfl, h5⟩
        have h6 := h5.symm
        subst h6
        clear h5 HO1
        go_wp2_with fail
        obtain ⟨wq, hwq⟩ : ∃ wq, wq = wr.alloc (.cells #[.string tn, .slice ao2 rels.length c2'] 95) := ⟨_, rfl⟩
        rw [← hwq] at HB1 HC3 ⊢
        have HBQ := Lib.hid HB1.out
        have ho1 : (out ++ ⟨#[116, 121, 112, 101, 32]⟩ ++ tn ++ ⟨#[10]⟩).size ≤ schW (ts.take i) + 40 := by
          simp only [ByteArray.size_append]
          have h1 : (⟨#[116, 121, 112, 101, 32]⟩ : ByteArray).size = 5 := rfl
          have h2 : (⟨#[10]⟩ : ByteArray).size = 1 := rfl
          omega
        generalize out ++ ⟨#[116, 121, 112, 101, 32]⟩ ++ tn ++ ⟨#[10]⟩ = out1 at *
        have HO1 := Lib.hid ho1
        have hlim : schW (ts.take i) + (40 + relW rels) ≤ 80000000 := by omega
        have HLIM := Lib.hid hlim
        clear hwq HB1 hbx d0 d1 hq1 hq2 hq3 hlt ho1 hos hle hsl hlim
        go_loopw [4, 31] (fun ov jj wr => ∃ (j : Nat) (out : ByteArray), j ≤ rels.length ∧ jj = .int .i64 j ∧ ov = .string out ∧ (∀ m (hm : m < rels.length), m < j → relOk rels[m] = true) ∧ out.size ≤ schW (ts.take i) + 40 + relW (rels.take j) ∧ Below wq.heap.size wq wr) (fun _ jj _ => rels.length - (intOf jj).toNat)
        case atStart => exact ⟨0, out1, by omega, rfl, rfl, fun _ _ h => absurd h (by omega), by have := HO1.out; omega, Below.refl _ _⟩
        case round =>
          obtain ⟨j, out2, hj, rfl, rfl, hall, hos, hbq⟩ := hrel
          have HALL2 := Lib.hid hall
          clear HO1 hall
          by_cases hlt : j < rels.length
          · have HUP2 := Lib.hid (fun h => upto_succ (p := fun m hm => relOk rels[m] = true) HALL2.out hlt h)
            have HBAD2 := Lib.hid (fun (h : relOk rels[j] = false) => HBAD.out (by rw [HTY.out]; exact List.all_eq_false.2 ⟨rels[j], List.getElem_mem hlt, by rw [h]; exact Bool.false_ne_true⟩))
            have hokr := HOR.out _ (List.getElem_mem hlt)
            have hst := relW_take hlt
            have hle := relW_le rels (j + 1)
            have hlim := HLIM.out
            have HST2 := Lib.hid hst
            rw [hst] at hle
            have hbel := hbq
            obtain ⟨b, off, pv2, hbo, hb, c0, c1, c2, c3, c4, hat2⟩ := HC3.out j hlt
            cases hbo
            have d0 := (hbel.cell (p := ⟨b, off + j * 5, none⟩) hb).trans c0
            have d1 := (hbel.cell (p := ⟨b, off + j * 5 + 1, none⟩) hb).trans c1
            have d2 := (hbel.cell (p := ⟨b, off + j * 5 + 2, none⟩) hb).trans c2
            have d3 := (hbel.cell (p := ⟨b, off + j * 5 + 3, none⟩) hb).trans c3
            have d4 := (hbel.cell (p := ⟨b, off + j * 5 + 4, none⟩) hb).trans c4
            obtain ⟨ao2, c2', rfl, -⟩ := hat2.rows
            have hb1 := hbel.alloc hbel.size (.cells #[.string rels[j].1, .int .i64 rels[j].2.k, .string rels[j].2.a, .string rels[j].2.b, .slice ao2 rels[j].2.ps.length c2'] 100)
            have hat3 := hat2.up hb1
            have HBK := Lib.hid (Blk.made wr #[.string rels[j].1, .int .i64 rels[j].2.k, .string rels[j].2.a, .string rels[j].2.b, .slice ao2 rels[j].2.ps.length c2'] 100)
            have hbx := HBK.out.cells
            have HB1 := Lib.hid hb1
            clear c0 c1 c2 c3 c4 hat2 hb1 hbel
            clear hst
            generalize rels[j] = x at *
            obtain ⟨xn, p⟩ := x
            dsimp only at *
            obtain ⟨hox, hop⟩ := hokr
            have HR := Lib.hid (text_any p _ 0 _ hat3 hop (by omega) (by omega))
            unfold rV at HR
            rw [show ((0 : Nat) : Int) = 0 from rfl] at HR
            have HOW := Lib.hid (fun W => own_any xn (by unfold maxLen; omega) W)
            clear hat3 hop hox
            cases hx : p.textOk 0 with
            | false =>
              rw [hx] at HR
              have HF := Lib.hid (HBAD2.out (by unfold relOk; dsimp only; rw [hx]; rfl))
              clear HUP2 HBAD2 hx
              go_wp2_with fail
              refine HR.out.mono ?_
              rintro e w5 ⟨s, rfl, -, hb5⟩
              have hbx5 := (HBK.out.below hb5).cells
              have HBE := Lib.hid (HBQ.out.trans ((HB1.out.trans (hb5.mono HB1.out.size)).mono HBQ.out.size))
              clear HR hb5 hbx d0 d1 d2 d3 d4 HB1
              go_wp2_with fail
              refine (HOW.out _).mono ?_
              rintro e w6 ⟨rfl, h6⟩
              have h7 := h6.symm
              subst h7
              clear h6
              cases ownB xn with
              | false =>
                go_wp2_with fail
                go_ret2
                exact ⟨_, by rw [HF.out]; rfl, HBE.out⟩
              | true =>
                by_cases ht : xn = ⟨#[116, 121, 112, 101]⟩
                · subst ht
                  go_wp2_with fail
                  go_ret2
                  exact ⟨_, by rw [HF.out]; rfl, HBE.out⟩
                · have hne := ba_beq' ht
                  rw [← ByteArray.toList_eq, show (⟨#[116, 121, 112, 101]⟩ : ByteArray).data.toList = [116, 121, 112, 101] from rfl] at hne
                  clear ht
                  go_wp2_with fail
                  go_ret2
                  exact ⟨_, by rw [HF.out]; rfl, HBE.out⟩
            | true =>
              rw [hx] at HR
              go_wp2_with fail
              refine HR.out.mono ?_
              rintro e w5 ⟨s, rfl, hss, hb5⟩
              have hS : s.size + 5 ≤ 80 * p.sz := by first | exact hss rfl | exact hss trivial
              have hbx5 := (HBK.out.below hb5).cells
              have HBR := Lib.hid (HB1.out.trans (hb5.mono HB1.out.size))
              have HBE := Lib.hid (HBQ.out.trans (HBR.out.mono HBQ.out.size))
              clear HR hb5 hbx d0 d1 d2 d3 d4 HB1 hss
              go_wp2_with fail
              refine (HOW.out _).mono ?_
              rintro e w6 ⟨rfl, h6⟩
              have h7 := h6.symm
              subst h7
              clear h6
              cases ho : ownB xn with
              | false =>
                have HF := Lib.hid (HBAD2.out (by unfold relOk; dsimp only; rw [hx, ho]; rfl))
                clear HUP2 HBAD2 hx ho
                go_wp2_with fail
                go_ret2
                exact ⟨_, by rw [HF.out]; rfl, HBE.out⟩
              | true =>
                by_cases ht : xn = ⟨#[116, 121, 112, 101]⟩
                · have HF := Lib.hid (HBAD2.out (by unfold relOk; dsimp only; rw [hx, ho, decide_eq_false (fun h => h ht)]; rfl))
                  subst ht
                  clear HUP2 HBAD2 hx ho
                  go_wp2_with fail
                  go_ret2
                  exact ⟨_, by rw [HF.out]; rfl, HBE.out⟩
                · have hne := ba_beq' ht
                  rw [← ByteArray.toList_eq, show (⟨#[116, 121, 112, 101]⟩ : ByteArray).data.toList = [116, 121, 112, 101] from rfl] at hne
                  have HN := Lib.hid (HUP2.out (by unfold relOk; dsimp only; rw [hx, ho, decide_eq_true ht]; rfl))
                  have hns := ownB_size ho
                  have hq1 : ¬ (9223372036854775807 < out2.size + xn.size) := by omega
                  have hq2 : ¬ (9223372036854775807 < out2.size + xn.size + 3) := by omega
                  have hq3 : ¬ (9223372036854775807 < out2.size + xn.size + 3 + s.size) := by omega
                  have hq4 : ¬ (9223372036854775807 < out2.size + xn.size + 3 + s.size + 1) := by omega
                  have HOZ := Lib.hid (show (out2 ++ xn ++ ⟨#[32, 61, 32]⟩ ++ s ++ ⟨#[10]⟩).size ≤ schW (ts.take i) + 40 + relW (rels.take (j + 1)) from by
                    rw [HST2.out]
                    simp only [ByteArray.size_append]
                    have h1 : (⟨#[32, 61, 32]⟩ : ByteArray).size = 3 := rfl
                    have h2 : (⟨#[10]⟩ : ByteArray).size = 1 := rfl
                    omega)
                  clear ht HUP2 HBAD2 hx ho
                  go_wp2_with fail
                  go_roundw
                  case rel => exact ⟨j + 1, _, by omega, by go_num, rfl, HN.out, HOZ.out, HBR.out⟩
                  case measure => simp [intOf]; omega
          · obtain rfl : j = rels.length := by omega
            rw [List.take_length] at hos
            have HN := Lib.hid (HUP.out (by
              rw [HTY.out, List.all_eq_true]
              intro x hx
              obtain ⟨m, hm, rfl⟩ := List.getElem_of_mem hx
              exact HALL2.out m hm hm))
            have HOZ := Lib.hid (show out2.size ≤ schW (ts.take (i + 1)) from by rw [HST.out]; omega)
            have HBE := Lib.hid (HBQ.out.trans (hbq.mono HBQ.out.size))
            have hlt2 := HI1.out
            clear hos hbq
            go_wp2_with fail
            go_roundw
            case rel => exact ⟨i + 1, out2, by omega, by go_num, rfl, HN.out, HOZ.out, HBE.out⟩
            case measure => simp [intOf]; omega
    · obtain rfl : i = ts.length := by omega
      have HF := Lib.hid (show g = true from by
        rw [HG.out, List.all_eq_true]
        intro x hx
        obtain ⟨j, hj, rfl⟩ := List.getElem_of_mem hx
        exact HALL.out j hj hj)
      have HBE := Lib.hid hbel
      clear hbel hos
      go_wp2_with fail
      go_ret2
      exact ⟨_, by rw [HF.out]; rfl, HBE.out⟩
end Go.Proofs.YtjdigpfipmckhaaGreat
namespace Go.Proofs.YtjdigpfipmckhaaGreat
open Go Go.RowKit
def tyLong (t : TyS) : Bool := decide (t.rels.length ≤ 16) && t.rels.all fun r => decide (r.2.sz ≤ 32)
def longOk (ts : List TyS) : Bool := decide (ts.length ≤ 16) && ts.all tyLong
def uniqOk (ts : List TyS) : Bool := decide ((ts.map (·.name)).Nodup) && ts.all fun t => decide ((t.rels.map (·.1)).Nodup)
def freshT (ts : List TyS) (j : Nat) : Prop := ∀ m (hm : m < ts.length) (hj : j < ts.length), m < j → ts[m].name ≠ ts[j].name
def namesOk (ts : List TyS) : Bool := ts.all fun t => t.rels.all fun r => r.2.named ts t
theorem uniq_at {ts : List TyS} (h : uniqOk ts = true) {i : Nat} (hi : i < ts.length) : freshT ts i ∧ ((ts[i].rels.map (·.1)).Nodup) := by
  unfold uniqOk at h
  rw [Bool.and_eq_true, decide_eq_true_eq, List.all_eq_true] at h
  refine ⟨fun m hm hj hmj he => ?_, of_decide_eq_true (h.2 _ (List.getElem_mem hi))⟩
  have := (List.pairwise_iff_getElem.1 h.1) m i (by simpa using hm) (by simpa using hi) hmj
  simp only [List.getElem_map] at this
  exact this he
theorem uniq_of {ts : List TyS} (h : ∀ j (hj : j < ts.length), freshT ts j ∧ ((ts[j].rels.map (·.1)).Nodup)) : uniqOk ts = true := by
  unfold uniqOk
  rw [Bool.and_eq_true, decide_eq_true_eq, List.all_eq_true]
  refine ⟨List.pairwise_iff_getElem.2 fun m j hm hj hmj => ?_, fun x hx => ?_⟩
  · simp only [List.getElem_map]
    exact (h j (by simpa using hj)).1 m (by simpa using hm) (by simpa using hj) hmj
  · obtain ⟨j, hj, rfl⟩ := List.getElem_of_mem hx
    exact decide_eq_true (h j hj).2
def freshN (l : List (ByteArray × RT)) (j : Nat) : Prop := ∀ m (hm : m < l.length) (hj : j < l.length), m < j → l[m].1 ≠ l[j].1
theorem fresh_of {l : List (ByteArray × RT)} (h : (l.map (·.1)).Nodup) (j : Nat) : freshN l j := fun m hm hj hmj he => by
  have := (List.pairwise_iff_getElem.1 h) m j (by simpa using hm) (by simpa using hj) hmj
  simp only [List.getElem_map] at this
  exact this he
theorem nodup_of {l : List (ByteArray × RT)} (h : ∀ j (_ : j < l.length), freshN l j) : (l.map (·.1)).Nodup := List.pairwise_iff_getElem.2 fun m j hm hj hmj => by
  simp only [List.getElem_map]
  exact h j (by simpa using hj) m (by simpa using hm) (by simpa using hj) hmj
def chk06 (ts : List TyS) : Int := if printOk ts then (if longOk ts then (if uniqOk ts then (if namesOk ts then 0 else 2) else 3) else 10) else 9
set_option maxRecDepth 100000 in
set_option maxHeartbeats 8000000 in
theorem check06_any (ts : List TyS) (tv : Value) (w : World) (h : TysAt (· < w.heap.size) w ts tv) (hok : ∀ t ∈ ts, t.Ok) (hsz : schW ts ≤ 80000000) : Calls Tryz.prog 17 #[.agg #[tv]] w fun e w' => e = .returned (.int .i64 (chk06 ts)) ∧ Below w.heap.size w w' := by
  have hb0 : Below w.heap.size w (w.alloc (.cells #[tv] 24)) := (Below.refl _ _).alloc (Nat.le_refl _) _
  have HPR := Lib.hid (print05_any ts tv _ (h.up hb0) hok hsz)
  have HTS := Lib.hid h
  have HB0 := Lib.hid hb0
  have HS0 := Lib.hid (Blk.made w #[tv] 24)
  obtain ⟨ao, c, rfl, hlc, hcm, hcell⟩ := h.rows
  have HC := Lib.hid hcell
  have HOK := Lib.hid hok
  have HSZ := Lib.hid hsz
  have hbk := HS0.out.cells
  generalize hg : chk06 ts = g
  have HG := Lib.hid hg.symm
  clear h hcell hok hsz hg hb0
  go_enter Tryz.func17, Tryz.ntmps17
  go_wp2_with fail
  refine HPR.out.mono ?_
  rintro e w2 ⟨s, rfl, hb2⟩
  have HB2 := Lib.hid (HB0.out.trans (hb2.mono HB0.out.size))
  have HS2 := Lib.hid (HS0.out.below hb2)
  have hbk2 := HS2.out.cells
  clear HPR hb2 hbk HB0 HS0
  cases hp : printOk ts with
  | false =>
    have HF := Lib.hid (show g = 9 from by rw [HG.out]; unfold chk06; rw [hp]; rfl)
    rw [show prN false = 9 from rfl]
    clear hp
    go_wp2_with fail
    go_ret
    exact ⟨by rw [HF.out]; rfl, HB2.out⟩
  | true =>
    rw [show prN true = 0 from rfl]
    have HG1 := Lib.hid (show g = if longOk ts then (if uniqOk ts then (if namesOk ts then 0 else 2) else 3) else 10 from by rw [HG.out]; unfold chk06; rw [hp]; rfl)
    clear hp HG
    by_cases hl16 : ts.length ≤ 16
    rotate_left
    · have HF := Lib.hid (show g = 10 from by rw [HG1.out, if_neg]; unfold longOk; simp [hl16])
      have hlI : (16 : Int) < ts.length := by omega
      clear hl16
      go_wp2_with fail
      go_ret
      exact ⟨by rw [HF.out]; rfl, HB2.out⟩
    have hlI : ¬ ((16 : Int) < ts.length) := by omega
    have HL16 := Lib.hid hl16
    clear hl16
    go_wp2_with fail
    clear hbk2
    go_loopw [35] (fun ii wr => ∃ i : Nat, i ≤ ts.length ∧ ii = .int .i64 i ∧ (∀ j (hj : j < ts.length), j < i → tyLong ts[j] = true) ∧ Below w2.heap.size w2 wr) (fun ii _ => ts.length - (intOf ii).toNat)
    case atStart => exact ⟨0, by omega, rfl, fun _ _ h => absurd h (by omega), Below.refl _ _⟩
    case round =>
      obtain ⟨i, hi, rfl, hall, hb2r⟩ := hrel
      have HALL := Lib.hid hall
      have hbel : Below w.heap.size w wr := HB2.out.trans (hb2r.mono HB2.out.size)
      clear hall
      by_cases hlt : i < ts.length
      · have HUP := Lib.hid (fun h => upto_succ (p := fun j hj => tyLong ts[j] = true) HALL.out hlt h)
        have HBAD := Lib.hid (fun (h : tyLong ts[i] = false) => (show g = 10 from by
          rw [HG1.out, if_neg]
          unfold longOk
          rw [Bool.and_eq_true]
          intro h2
          rw [List.all_eq_true.1 h2.2 _ (List.getElem_mem hlt)] at h
          cases h))
        have hle := schW_le ts (i + 1)
        rw [schW_take hlt] at hle
        have hsl := HSZ.out
        have HRW := Lib.hid (show relW ts[i].rels ≤ 80000000 from by omega)
        obtain ⟨b, off, pv2, hbo, hb, c0, c1, hat2⟩ := HC.out i hlt
        cases hbo
        have d0 := (hbel.cell (p := ⟨b, off + i * 2, none⟩) hb).trans c0
        have d1 := (hbel.cell (p := ⟨b, off + i * 2 + 1, none⟩) hb).trans c1
        obtain ⟨ao2, c2', rfl, -⟩ := hat2.rows
        have hb1 := hbel.alloc hbel.size (.cells #[.string ts[i].name, .slice ao2 ts[i].rels.length c2'] 95)
        have hat3 := hat2.up hb1
        have HBT := Lib.hid (Blk.made wr #[.string ts[i].name, .slice ao2 ts[i].rels.length c2'] 95)
        have hbx := HBT.out.cells
        have HB1 := Lib.hid hb1
        clear c0 c1 hat2 hb1 hbel
        have HI1 := Lib.hid hlt
        have HQ2 := Lib.hid (hb2r.alloc hb2r.size (.cells #[.string ts[i].name, .slice ao2 ts[i].rels.length c2'] 95))
        clear hle hsl hb2r
        generalize ts[i] = t at *
        obtain ⟨tn, rels⟩ := t
        dsimp only at *
        obtain ⟨ao3, c3, hv3, hlc3, hcm3, hcell3⟩ := hat3.rows
        injection hv3 with hv31 hv32 hv33
        subst hv31 hv33
        have HC3 := Lib.hid hcell3
        clear hcell3 hv32 hat3
        by_cases hr16 : rels.length ≤ 16
        rotate_left
        · have HF := Lib.hid (HBAD.out (by unfold tyLong; simp [hr16]))
          have hrI : (16 : Int) < rels.length := by omega
          clear hr16
          go_wp2_with fail
          go_ret
          exact ⟨by rw [HF.out]; rfl, HB1.out⟩
        have hrI : ¬ ((16 : Int) < rels.length) := by omega
        have HR16 := Lib.hid hr16
        clear hr16
        go_wp2_with fail
        obtain ⟨wq, hwq⟩ : ∃ wq, wq = wr.alloc (.cells #[.string tn, .slice ao2 rels.length c2'] 95) := ⟨_, rfl⟩
        rw [← hwq] at HB1 HC3 HQ2 ⊢
        have HBQ := Lib.hid HB1.out
        clear hwq HB1 hbx d0 d1 hlt
        go_loopw [46] (fun jj wr => ∃ j : Nat, j ≤ rels.length ∧ jj = .int .i64 j ∧ (∀ m (hm : m < rels.length), m < j → rels[m].2.sz ≤ 32) ∧ Below wq.heap.size wq wr) (fun jj _ => rels.length - (intOf jj).toNat)
        case atStart => exact ⟨0, by omega, rfl, fun _ _ h => absurd h (by omega), Below.refl _ _⟩
        case round =>
          obtain ⟨j, hj, rfl, hall, hbq⟩ := hrel
          have HALL2 := Lib.hid hall
          clear hall
          by_cases hlt : j < rels.length
          · have HUP2 := Lib.hid (fun h => upto_succ (p := fun m hm => rels[m].2.sz ≤ 32) HALL2.out hlt h)
            have HBAD2 := Lib.hid (fun (h : ¬ rels[j].2.sz ≤ 32) => HBAD.out (by
              unfold tyLong
              rw [Bool.and_eq_false_iff]
              right
              exact List.all_eq_false.2 ⟨rels[j], List.getElem_mem hlt, by simpa using h⟩))
            have hle := relW_le rels (j + 1)
            rw [relW_take hlt] at hle
            have hrw := HRW.out
            have hbel := hbq
            obtain ⟨b, off, pv2, hbo, hb, c0, c1, c2, c3, c4, hat2⟩ := HC3.out j hlt
            cases hbo
            have d0 := (hbel.cell (p := ⟨b, off + j * 5, none⟩) hb).trans c0
            have d1 := (hbel.cell (p := ⟨b, off + j * 5 + 1, none⟩) hb).trans c1
            have d2 := (hbel.cell (p := ⟨b, off + j * 5 + 2, none⟩) hb).trans c2
            have d3 := (hbel.cell (p := ⟨b, off + j * 5 + 3, none⟩) hb).trans c3
            have d4 := (hbel.cell (p := ⟨b, off + j * 5 + 4, none⟩) hb).trans c4
            obtain ⟨ao2, c2', rfl, -⟩ := hat2.rows
            have hb1 := hbel.alloc hbel.size (.cells #[.string rels[j].1, .int .i64 rels[j].2.k, .string rels[j].2.a, .string rels[j].2.b, .slice ao2 rels[j].2.ps.length c2'] 100)
            have hat3 := hat2.up hb1
            have HBK := Lib.hid (Blk.made wr #[.string rels[j].1, .int .i64 rels[j].2.k, .string rels[j].2.a, .string rels[j].2.b, .slice ao2 rels[j].2.ps.length c2'] 100)
            have hbx := HBK.out.cells
            have HB1 := Lib.hid hb1
            clear c0 c1 c2 c3 c4 hat2 hb1 hbel
            generalize rels[j] = x at *
            obtain ⟨xn, p⟩ := x
            dsimp only at *
            have HR := Lib.hid (size06_any p _ _ hat3 (by omega))
            unfold rV at HR
            clear hat3 hle hrw
            by_cases hs32 : p.sz ≤ 32
            · have hsI : ¬ ((32 : Int) < p.sz) := by omega
              have HN := Lib.hid (HUP2.out hs32)
              clear HUP2 HBAD2
              go_wp2_with fail
              refine HR.out.mono ?_
              rintro e w5 ⟨rfl, hb5⟩
              have HB5 := Lib.hid (HB1.out.trans (hb5.mono HB1.out.size))
              clear HR hb5 hbx d0 d1 d2 d3 d4 HB1 HBK
              go_wp2_with fail
              go_roundw
              case rel => exact ⟨j + 1, by omega, by go_num, HN.out, HB5.out⟩
              case measure => simp [intOf]; omega
            · have hsI : (32 : Int) < p.sz := by omega
              have HF := Lib.hid (HBAD2.out hs32)
              clear HUP2 HBAD2
              go_wp2_with fail
              refine HR.out.mono ?_
              rintro e w5 ⟨rfl, hb5⟩
              have HB5 := Lib.hid (HBQ.out.trans ((HB1.out.trans (hb5.mono HB1.out.size)).mono HBQ.out.size))
              clear HR hb5 hbx d0 d1 d2 d3 d4 HB1 HBK
              go_wp2_with fail
              go_ret
              exact ⟨by rw [HF.out]; rfl, HB5.out⟩
          · obtain rfl : j = rels.length := by omega
            have HN := Lib.hid (HUP.out (by
              unfold tyLong
              rw [Bool.and_eq_true, decide_eq_true_eq]
              refine ⟨HR16.out, List.all_eq_true.2 fun x hx => ?_⟩
              obtain ⟨m, hm, rfl⟩ := List.getElem_of_mem hx
              exact decide_eq_true (HALL2.out m hm hm)))
            have HBE := Lib.hid (HQ2.out.trans (hbq.mono HQ2.out.size))
            have hlt2 := HI1.out
            clear hbq
            go_wp2_with fail
            go_roundw
            case rel => exact ⟨i + 1, by omega, by go_num, HN.out, HBE.out⟩
            case measure => simp [intOf]; omega
      · obtain rfl : i = ts.length := by omega
        have HG2 := Lib.hid (show g = if uniqOk ts then (if namesOk ts then 0 else 2) else 3 from by
          rw [HG1.out, if_pos]
          unfold longOk
          rw [Bool.and_eq_true, decide_eq_true_eq]
          refine ⟨HL16.out, List.all_eq_true.2 fun x hx => ?_⟩
          obtain ⟨m, hm, rfl⟩ := List.getElem_of_mem hx
          exact HALL.out m hm hm)
        have hbk3 := (HS2.out.below hb2r).cells
        have HB2R := Lib.hid hb2r
        clear hbel hb2r HALL
        go_wp2_with fail
        clear hbk3
        go_loopw [59] (fun ii wr => ∃ i : Nat, i ≤ ts.length ∧ ii = .int .i64 i ∧ (∀ j (hj : j < ts.length), j < i → freshT ts j ∧ ((ts[j].rels.map (·.1)).Nodup)) ∧ Below w2.heap.size w2 wr) (fun ii _ => ts.length - (intOf ii).toNat)
        case atStart => exact ⟨0, by omega, rfl, fun _ _ h => absurd h (by omega), HB2R.out⟩
        case round =>
          obtain ⟨i, hi, rfl, hall, hb2r⟩ := hrel
          have HALL := Lib.hid hall
          have hbel : Below w.heap.size w wr := HB2.out.trans (hb2r.mono HB2.out.size)
          clear hall HB2R
          by_cases hlt : i < ts.length
          · have HUP := Lib.hid (fun h => upto_succ (p := fun j hj => freshT ts j ∧ ((ts[j].rels.map (·.1)).Nodup)) HALL.out hlt h)
            have HBAD := Lib.hid (fun (h : ¬ (freshT ts i ∧ ((ts[i].rels.map (·.1)).Nodup))) => (show g = 3 from by rw [HG2.out, if_neg (fun hu => h (uniq_at hu hlt))]))
            obtain ⟨b, off, pv2, hbo, hb, c0, c1, hat2⟩ := HC.out i hlt
            cases hbo
            have d0 := (hbel.cell (p := ⟨b, off + i * 2, none⟩) hb).trans c0
            have d1 := (hbel.cell (p := ⟨b, off + i * 2 + 1, none⟩) hb).trans c1
            obtain ⟨ao2, c2', rfl, -⟩ := hat2.rows
            have hb1 := hbel.alloc hbel.size (.cells #[.string ts[i].name, .slice ao2 ts[i].rels.length c2'] 95)
            have hat3 := hat2.up hb1
            have HBT := Lib.hid (Blk.made wr #[.string ts[i].name, .slice ao2 ts[i].rels.length c2'] 95)
            have hbx := HBT.out.cells
            have HB1 := Lib.hid hb1
            clear c0 c1 hat2 hb1 hbel
            have HI1 := Lib.hid hlt
            have HQ2 := Lib.hid (hb2r.alloc hb2r.size (.cells #[.string ts[i].name, .slice ao2 ts[i].rels.length c2'] 95))
            have hbs := (HS2.out.below HQ2.out).cells
            clear hb2r
            generalize hti : ts[i] = t at *
            have HTI := Lib.hid hti
            clear hti
            obtain ⟨tn, rels⟩ := t
            dsimp only at *
            obtain ⟨ao3, c3, hv3, hlc3, hcm3, hcell3⟩ := hat3.rows
            injection hv3 with hv31 hv32 hv33
            subst hv31 hv33
            have HC3 := Lib.hid hcell3
            have HBT0 := Lib.hid HBT.out
            have HBQ := Lib.hid HB1.out
            have h0i : (0 : Int) ≤ (i : Int) := by omega
            have hin : (i : Int) ≤ (ts.length : Int) := by omega
            clear hcell3 hv32 hat3 hlt
            go_wp2_with fail
            clear hbx hbs d0 d1 HBT HB1 h0i hin
            generalize wr.alloc (.cells #[.string tn, .slice ao2 rels.length c2'] 95) = wq at *
            generalize wr.heap.size = bt at *
            go_loopw [69] (fun mm wr => ∃ m : Nat, m ≤ i ∧ mm = .int .i64 m ∧ (∀ j (hj : j < ts.length), j < m → ts[j].name ≠ tn) ∧ Below wq.heap.size wq wr) (fun mm _ => i - (intOf mm).toNat)
            case atStart => exact ⟨0, by omega, rfl, fun _ _ h => absurd h (by omega), Below.refl _ _⟩
            case round =>
              obtain ⟨m, hm, rfl, hall, hbq⟩ := hrel
              have HALL2 := Lib.hid hall
              clear hall
              by_cases hmi : m < i
              · have hlt : m < ts.length := Nat.lt_trans hmi HI1.out
                have HUP2 := Lib.hid (fun h => upto_succ (p := fun j hj => ts[j].name ≠ tn) HALL2.out hlt h)
                have HBAD2 := Lib.hid (fun (h : ts[m].name = tn) => HBAD.out (fun hf => hf.1 m hlt HI1.out hmi (h.trans (congrArg TyS.name HTI.out).symm)))
                have hbel : Below w.heap.size w wr := HBQ.out.trans (hbq.mono HBQ.out.size)
                obtain ⟨b, off, pv2, hbo, hb, c0, c1, hat2⟩ := HC.out m hlt
                cases hbo
                have d0 := (hbel.cell (p := ⟨b, off + m * 2, none⟩) hb).trans c0
                have d1 := (hbel.cell (p := ⟨b, off + m * 2 + 1, none⟩) hb).trans c1
                obtain ⟨ao2, c2', rfl, -⟩ := hat2.rows
                have hb1 := hbel.alloc hbel.size (.cells #[.string ts[m].name, .slice ao2 ts[m].rels.length c2'] 95)
                have hat3 := hat2.up hb1
                have HBT := Lib.hid (Blk.made wr #[.string ts[m].name, .slice ao2 ts[m].rels.length c2'] 95)
                have hbx := HBT.out.cells
                have HB1 := Lib.hid hb1
                clear c0 c1 hat2 hb1 hbel
                have HQ3 := Lib.hid (hbq.alloc hbq.size (.cells #[.string ts[m].name, .slice ao2 ts[m].rels.length c2'] 95))
                have hbt := (HBT0.out.below HQ3.out).cells
                clear hbq hat3
                generalize ts[m] = u at *
                obtain ⟨un, urels⟩ := u
                dsimp only at *
                by_cases he : un = tn
                · have HF := Lib.hid (HBAD2.out he)
                  subst he
                  clear HUP2 HBAD2
                  go_wp2_with fail
                  go_ret
                  exact ⟨by rw [HF.out]; rfl, HB1.out⟩
                · have HN := Lib.hid (HUP2.out he)
                  have hne := ba_beq' (fun h => he h.symm)
                  rw [← ByteArray.toList_eq, ← ByteArray.toList_eq] at hne
                  clear HUP2 HBAD2 he
                  go_wp2_with fail
                  go_roundw
                  case rel => exact ⟨m + 1, by omega, by go_num, HN.out, HQ3.out⟩
                  case measure => simp [intOf]; omega
              · obtain rfl : m = i := by omega
                have HFR := Lib.hid (show freshT ts m from fun j hj hm hjm he => HALL2.out j hj hjm (he.trans (congrArg TyS.name HTI.out)))
                have hbt := (HBT0.out.below hbq).cells
                have HBQ5 := Lib.hid hbq
                clear hbq HALL2
                go_wp2_with fail
                clear hbt
                go_loopw [82] (fun kk wr => ∃ k : Nat, k ≤ rels.length ∧ kk = .int .i64 k ∧ (∀ j (hj : j < rels.length), j < k → freshN rels j) ∧ Below wq.heap.size wq wr) (fun kk _ => rels.length - (intOf kk).toNat)
                case atStart => exact ⟨0, by omega, rfl, fun _ _ h => absurd h (by omega), HBQ5.out⟩
                case round =>
                  obtain ⟨k, hk, rfl, hall, hbq⟩ := hrel
                  have HALL3 := Lib.hid hall
                  clear hall HBQ5
                  by_cases hlt : k < rels.length
                  · have HUP3 := Lib.hid (fun h => upto_succ (p := fun j hj => freshN rels j) HALL3.out hlt h)
                    have HBAD3 := Lib.hid (fun (h : ¬ freshN rels k) => HBAD.out (fun hf => h (fresh_of hf.2 k)))
                    have hbel := hbq
                    obtain ⟨b, off, pv2, hbo, hb, c0, c1, c2, c3, c4, hat2⟩ := HC3.out k hlt
                    cases hbo
                    have d0 := (hbel.cell (p := ⟨b, off + k * 5, none⟩) hb).trans c0
                    have d1 := (hbel.cell (p := ⟨b, off + k * 5 + 1, none⟩) hb).trans c1
                    have d2 := (hbel.cell (p := ⟨b, off + k * 5 + 2, none⟩) hb).trans c2
                    have d3 := (hbel.cell (p := ⟨b, off + k * 5 + 3, none⟩) hb).trans c3
                    have d4 := (hbel.cell (p := ⟨b, off + k * 5 + 4, none⟩) hb).trans c4
                    obtain ⟨ao2, c2', rfl, -⟩ := hat2.rows
                    have hb1 := hbel.alloc hbel.size (.cells #[.string rels[k].1, .int .i64 rels[k].2.k, .string rels[k].2.a, .string rels[k].2.b, .slice ao2 rels[k].2.ps.length c2'] 100)
                    have hat3 := hat2.up hb1
                    have HBK := Lib.hid (Blk.made wr #[.string rels[k].1, .int .i64 rels[k].2.k, .string rels[k].2.a, .string rels[k].2.b, .slice ao2 rels[k].2.ps.length c2'] 100)
                    have hbx := HBK.out.cells
                    have HB1 := Lib.hid hb1
                    clear c0 c1 c2 c3 c4 hat2 hb1 hbel
                    have hbt := (HBT0.out.below HB1.out).cells
                    have HBK0 := Lib.hid HBK.out
                    have HBK1 := Lib.hid HB1.out
                    have HK1 := Lib.hid hlt
                    have h0k : (0 : Int) ≤ (k : Int) := by omega
                    have hkn : (k : Int) ≤ (rels.length : Int) := by omega
                    clear hbq hat3
                    generalize hrk : rels[k] = x at *
                    have HRK := Lib.hid hrk
                    clear hrk hlt
                    obtain ⟨xn, p⟩ := x
                    dsimp only at *
                    go_wp2_with fail
                    clear hbx hbt d0 d1 d2 d3 d4 HBK HB1 h0k hkn
                    generalize wr.alloc (.cells #[.string xn, .int .i64 p.k, .string p.a, .string p.b, .slice ao2 p.ps.length c2'] 100) = wk at *
                    generalize wr.heap.size = bk at *
                    go_loopw [92] (fun qq wr => ∃ q : Nat, q ≤ k ∧ qq = .int .i64 q ∧ (∀ j (hj : j < rels.length), j < q → rels[j].1 ≠ xn) ∧ Below wk.heap.size wk wr) (fun qq _ => k - (intOf qq).toNat)
                    case atStart => exact ⟨0, by omega, rfl, fun _ _ h => absurd h (by omega), Below.refl _ _⟩
                    case round =>
                      obtain ⟨q, hq, rfl, hall, hbk⟩ := hrel
                      have HALL4 := Lib.hid hall
                      clear hall
                      by_cases hqk : q < k
                      · have hlt : q < rels.length := Nat.lt_trans hqk HK1.out
                        have HUP4 := Lib.hid (fun h => upto_succ (p := fun j hj => rels[j].1 ≠ xn) HALL4.out hlt h)
                        have HBAD4 := Lib.hid (fun (h : rels[q].1 = xn) => HBAD3.out (fun hf => hf q hlt HK1.out hqk (h.trans (congrArg Prod.fst HRK.out).symm)))
                        have hbel : Below wq.heap.size wq wr := HBK1.out.trans (hbk.mono HBK1.out.size)
                        obtain ⟨b, off, pv2, hbo, hb, c0, c1, c2, c3, c4, hat2⟩ := HC3.out q hlt
                        cases hbo
                        have d0 := (hbel.cell (p := ⟨b, off + q * 5, none⟩) hb).trans c0
                        have d1 := (hbel.cell (p := ⟨b, off + q * 5 + 1, none⟩) hb).trans c1
                        have d2 := (hbel.cell (p := ⟨b, off + q * 5 + 2, none⟩) hb).trans c2
                        have d3 := (hbel.cell (p := ⟨b, off + q * 5 + 3, none⟩) hb).trans c3
                        have d4 := (hbel.cell (p := ⟨b, off + q * 5 + 4, none⟩) hb).trans c4
                        obtain ⟨ao2, c2', rfl, -⟩ := hat2.rows
                        have hb1 := hbel.alloc hbel.size (.cells #[.string rels[q].1, .int .i64 rels[q].2.k, .string rels[q].2.a, .string rels[q].2.b, .slice ao2 rels[q].2.ps.length c2'] 100)
                        have hat3 := hat2.up hb1
                        have HBK := Lib.hid (Blk.made wr #[.string rels[q].1, .int .i64 rels[q].2.k, .string rels[q].2.a, .string rels[q].2.b, .slice ao2 rels[q].2.ps.length c2'] 100)
                        have hbx := HBK.out.cells
                        have HB1 := Lib.hid hb1
                        clear c0 c1 c2 c3 c4 hat2 hb1 hbel
                        have HQ5 := Lib.hid (hbk.alloc hbk.size (.cells #[.string rels[q].1, .int .i64 rels[q].2.k, .string rels[q].2.a, .string rels[q].2.b, .slice ao2 rels[q].2.ps.length c2'] 100))
                        have hbt := (HBK0.out.below HQ5.out).cells
                        have HBE := Lib.hid (HBQ.out.trans (HB1.out.mono HBQ.out.size))
                        clear hbk hat3
                        generalize rels[q] = y at *
                        obtain ⟨yn, p2⟩ := y
                        dsimp only at *
                        by_cases he : yn = xn
                        · have HF := Lib.hid (HBAD4.out he)
                          subst he
                          clear HUP4 HBAD4
                          go_wp2_with fail
                          go_ret
                          exact ⟨by rw [HF.out]; rfl, HBE.out⟩
                        · have HN := Lib.hid (HUP4.out he)
                          have hne := ba_beq' (fun h => he h.symm)
                          rw [← ByteArray.toList_eq, ← ByteArray.toList_eq] at hne
                          clear HUP4 HBAD4 he
                          go_wp2_with fail
                          go_roundw
                          case rel => exact ⟨q + 1, by omega, by go_num, HN.out, HQ5.out⟩
                          case measure => simp [intOf]; omega
                      · obtain rfl : q = k := by omega
                        have HN := Lib.hid (HUP3.out (fun j hj hq hjq he => HALL4.out j hj hjq (he.trans (congrArg Prod.fst HRK.out))))
                        have HBE := Lib.hid (HBK1.out.trans (hbk.mono HBK1.out.size))
                        have hlt2 := HK1.out
                        clear hbk
                        go_wp2_with fail
                        go_roundw
                        case rel => exact ⟨q + 1, by omega, by go_num, HN.out, HBE.out⟩
                        case measure => simp [intOf]; omega
                  · obtain rfl : k = rels.length := by omega
                    have HN := Lib.hid (HUP.out ⟨HFR.out, nodup_of fun j hj => HALL3.out j hj hj⟩)
                    have HBE := Lib.hid (HQ2.out.trans (hbq.mono HQ2.out.size))
                    have hlt2 := HI1.out
                    clear hbq
                    go_wp2_with fail
                    go_roundw
                    case rel => exact ⟨m + 1, by omega, by go_num, HN.out, HBE.out⟩
                    case measure => simp [intOf]; omega
          · obtain rfl : i = ts.length := by omega
            have HG3 := Lib.hid (show g = if namesOk ts then 0 else 2 from by rw [HG2.out, if_pos (uniq_of fun j hj => HALL.out j hj hj)])
            have hbk4 := (HS2.out.below hb2r).cells
            have HB2R := Lib.hid hb2r
            clear hbel hb2r HALL
            go_wp2_with fail
            clear hbk4
            go_loopw [107] (fun ii wr => ∃ i : Nat, i ≤ ts.length ∧ ii = .int .i64 i ∧ (∀ j (hj : j < ts.length), j < i → (ts[j].rels.all fun r => r.2.named ts ts[j]) = true) ∧ Below w2.heap.size w2 wr) (fun ii _ => ts.length - (intOf ii).toNat)
            case atStart => exact ⟨0, by omega, rfl, fun _ _ h => absurd h (by omega), HB2R.out⟩
            case round =>
              obtain ⟨i, hi, rfl, hall, hb2r⟩ := hrel
              have HALL := Lib.hid hall
              have hbel : Below w.heap.size w wr := HB2.out.trans (hb2r.mono HB2.out.size)
              clear hall HB2R
              by_cases hlt : i < ts.length
              · have HUP := Lib.hid (fun h => upto_succ (p := fun j hj => (ts[j].rels.all fun r => r.2.named ts ts[j]) = true) HALL.out hlt h)
                have HBAD := Lib.hid (fun (h : (ts[i].rels.all fun r => r.2.named ts ts[i]) = false) => (show g = 2 from by
                  rw [HG3.out, if_neg]
                  intro h2
                  unfold namesOk at h2
                  rw [List.all_eq_true.1 h2 _ (List.getElem_mem hlt)] at h
                  cases h))
                obtain ⟨b, off, pv2, hbo, hb, c0, c1, hat2⟩ := HC.out i hlt
                cases hbo
                have d0 := (hbel.cell (p := ⟨b, off + i * 2, none⟩) hb).trans c0
                have d1 := (hbel.cell (p := ⟨b, off + i * 2 + 1, none⟩) hb).trans c1
                obtain ⟨ao2, c2', rfl, -⟩ := hat2.rows
                have hb1 := hbel.alloc hbel.size (.cells #[.string ts[i].name, .slice ao2 ts[i].rels.length c2'] 95)
                have hat3 := hat2.up hb1
                have HBT := Lib.hid (Blk.made wr #[.string ts[i].name, .slice ao2 ts[i].rels.length c2'] 95)
                have hbx := HBT.out.cells
                have HB1 := Lib.hid hb1
                clear c0 c1 hat2 hb1 hbel
                have HI1 := Lib.hid hlt
                have HQ2 := Lib.hid (hb2r.alloc hb2r.size (.cells #[.string ts[i].name, .slice ao2 ts[i].rels.length c2'] 95))
                have HRE := Lib.hid hat3
                clear hb2r
                generalize ts[i] = t at *
                obtain ⟨tn, rels⟩ := t
                dsimp only at *
                obtain ⟨ao3, c3, hv3, hlc3, hcm3, hcell3⟩ := hat3.rows
                injection hv3 with hv31 hv32 hv33
                subst hv31 hv33
                have HC3 := Lib.hid hcell3
                have HBT0 := Lib.hid HBT.out
                have HBQ := Lib.hid HB1.out
                clear hcell3 hv32 hat3
                go_wp2_with fail
                clear hbx d0 d1 HBT HB1 hlt
                generalize wr.alloc (.cells #[.string tn, .slice ao2 rels.length c2'] 95) = wq at *
                generalize wr.heap.size = bt at *
                go_loopw [114] (fun jj wr => ∃ j : Nat, j ≤ rels.length ∧ jj = .int .i64 j ∧ (∀ m (hm : m < rels.length), m < j → rels[m].2.named ts ⟨tn, rels⟩ = true) ∧ Below wq.heap.size wq wr) (fun jj _ => rels.length - (intOf jj).toNat)
                case atStart => exact ⟨0, by omega, rfl, fun _ _ h => absurd h (by omega), Below.refl _ _⟩
                case round =>
                  obtain ⟨j, hj, rfl, hall, hbq⟩ := hrel
                  have HALL2 := Lib.hid hall
                  clear hall
                  by_cases hlt : j < rels.length
                  · have HUP2 := Lib.hid (fun h => upto_succ (p := fun m hm => rels[m].2.named ts ⟨tn, rels⟩ = true) HALL2.out hlt h)
                    have HBAD2 := Lib.hid (fun (h : rels[j].2.named ts ⟨tn, rels⟩ = false) => HBAD.out (List.all_eq_false.2 ⟨rels[j], List.getElem_mem hlt, by rw [h]; exact Bool.false_ne_true⟩))
                    have hbel := hbq
                    obtain ⟨b, off, pv2, hbo, hb, c0, c1, c2, c3, c4, hat2⟩ := HC3.out j hlt
                    cases hbo
                    have d0 := (hbel.cell (p := ⟨b, off + j * 5, none⟩) hb).trans c0
                    have d1 := (hbel.cell (p := ⟨b, off + j * 5 + 1, none⟩) hb).trans c1
                    have d2 := (hbel.cell (p := ⟨b, off + j * 5 + 2, none⟩) hb).trans c2
                    have d3 := (hbel.cell (p := ⟨b, off + j * 5 + 3, none⟩) hb).trans c3
                    have d4 := (hbel.cell (p := ⟨b, off + j * 5 + 4, none⟩) hb).trans c4
                    obtain ⟨ao2, c2', rfl, -⟩ := hat2.rows
                    have hb1 := hbel.alloc hbel.size (.cells #[.string rels[j].1, .int .i64 rels[j].2.k, .string rels[j].2.a, .string rels[j].2.b, .slice ao2 rels[j].2.ps.length c2'] 100)
                    have hat3 := hat2.up hb1
                    have HBK := Lib.hid (Blk.made wr #[.string rels[j].1, .int .i64 rels[j].2.k, .string rels[j].2.a, .string rels[j].2.b, .slice ao2 rels[j].2.ps.length c2'] 100)
                    have hbx := HBK.out.cells
                    have HB1 := Lib.hid hb1
                    clear c0 c1 c2 c3 c4 hat2 hb1 hbel
                    have HQ3 := Lib.hid (HQ2.out.trans (HB1.out.mono HQ2.out.size))
                    have hbs := (HS2.out.below HQ3.out).cells
                    have hbt := (HBT0.out.below HB1.out).cells
                    have HBW := Lib.hid (HBQ.out.trans (HB1.out.mono HBQ.out.size))
                    generalize rels[j] = x at *
                    obtain ⟨xn, p⟩ := x
                    dsimp only at *
                    have HR := Lib.hid (named06_any ts ⟨tn, rels⟩ _ _ p _ _ (HTS.out.up HBW.out) (HRE.out.up HB1.out) hat3)
                    unfold rV at HR
                    clear hat3 hbq
                    cases hn : p.named ts ⟨tn, rels⟩ with
                    | true =>
                      rw [hn] at HR
                      have HN := Lib.hid (HUP2.out hn)
                      clear HUP2 HBAD2 hn
                      go_wp2_with fail
                      refine HR.out.mono ?_
                      rintro e w5 ⟨rfl, hb5⟩
                      have HB5 := Lib.hid (HB1.out.trans (hb5.mono HB1.out.size))
                      clear HR hb5 hbx hbs hbt d0 d1 d2 d3 d4 HB1 HBK
                      go_wp2_with fail
                      go_roundw
                      case rel => exact ⟨j + 1, by omega, by go_num, HN.out, HB5.out⟩
                      case measure => simp [intOf]; omega
                    | false =>
                      rw [hn] at HR
                      have HF := Lib.hid (HBAD2.out hn)
                      clear HUP2 HBAD2 hn
                      go_wp2_with fail
                      refine HR.out.mono ?_
                      rintro e w5 ⟨rfl, hb5⟩
                      have HB5 := Lib.hid (HBW.out.trans (hb5.mono HBW.out.size))
                      clear HR hb5 hbx hbs hbt d0 d1 d2 d3 d4 HB1 HBK
                      go_wp2_with fail
                      go_ret
                      exact ⟨by rw [HF.out]; rfl, HB5.out⟩
                  · obtain rfl : j = rels.length := by omega
                    have HN := Lib.hid (HUP.out (List.all_eq_true.2 fun x hx => by
                      obtain ⟨m, hm, rfl⟩ := List.getElem_of_mem hx
                      exact HALL2.out m hm hm))
                    have HBE := Lib.hid (HQ2.out.trans (hbq.mono HQ2.out.size))
                    have hlt2 := HI1.out
                    clear hbq
                    go_wp2_with fail
                    go_roundw
                    case rel => exact ⟨i + 1, by omega, by go_num, HN.out, HBE.out⟩
                    case measure => simp [intOf]; omega
              · obtain rfl : i = ts.length := by omega
                have HF := Lib.hid (show g = 0 from by
                  rw [HG3.out, if_pos]
                  unfold namesOk
                  rw [List.all_eq_true]
                  intro x hx
                  obtain ⟨m, hm, rfl⟩ := List.getElem_of_mem hx
                  exact HALL.out m hm hm)
                have HBE := Lib.hid hbel
                clear hbel hb2r
                go_wp2_with fail
                go_ret
                exact ⟨by rw [HF.out]; rfl, HBE.out⟩
end Go.Proofs.YtjdigpfipmckhaaGreat
