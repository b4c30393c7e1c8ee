/- The walk of edit.Encode. No condition: lemmas. -/
import Derived.Test.YtkllfdfipkcddaaEditT
namespace Go.Proofs.Ytkllfdfipkcddaa
open Go Go.RowKit

/-- Bytes and a code. -/
def RetEnc (r : List UInt8 × Nat) (w : World) (e : Ending) (w' : World) : Prop := ∃ v, e = .returned (.tuple #[v, .int .i64 r.2]) ∧ Sl (· < w'.heap.size) w' 1 v (bc r.1) ∧ Below w.heap.size w w'

set_option maxRecDepth 100000 in
set_option maxHeartbeats 1600000 in
theorem encode_any (av dv : Value) (x : Edi) (w : World) (ha : Sl (· < w.heap.size) w 5 av (tcs x.add)) (hd : Sl (· < w.heap.size) w 1 dv (ic x.drop)) (hok : x.Ok) (hfl : U64 x.floor) (hhd : U64 x.head) (hf : fewL x.add x.drop = true) :
    Calls Try.prog 12 #[eV av dv x] w (RetEnc (if rightE x then (encE x, 0) else ([], 1)) w) := by
  have hb0 : Below w.heap.size w (w.alloc (.cells (eC av dv x) 28)) := (Below.refl _ _).alloc (Nat.le_refl _) _
  have hA := Blk.made w (eC av dv x) 28
  have HR := Lib.hid (right_any av dv x _ (ha.up hb0) (hd.up hb0) hok)
  cases hr : rightE x with
  | false =>
    rw [hr] at HR
    unfold eV at *
    unfold eC at *
    clear hr
    go_enter Try.func12, Try.ntmps12
    go_wp2_with fail
    refine HR.out.mono ?_
    rintro e w1 ⟨rfl, hb1⟩
    go_wp2
    go_ret2
    exact ⟨_, rfl, Sl.nil _ _ _, hb0.trans (hb1.mono (by simp))⟩
  | true =>
    have hTR := right_tabs hr hf
    obtain ⟨hdr, hlg, hnx⟩ := right_drop hr
    rw [hr] at HR
    have hf2 : x.add.length ≤ 40 ∧ x.drop.length ≤ 40 := by
      unfold fewL at hf
      simp only [Bool.and_eq_true, decide_eq_true_eq] at hf
      exact hf.2
    have HE := Lib.hid (show (if true = true then (encE x, 0) else ([], 1)) = (encE x, 0) from rfl)
    have hEE : encE x = putsI [x.add.length] ++ encA x.add ++ putsI [x.drop.length] ++ putsI x.drop ++ putB x.floor ++ putB x.head ++ putsI [x.log, x.next] := rfl
    have HEE := Lib.hid hEE
    clear hEE hr hf hok
    unfold eV at *
    unfold eC at *
    obtain ⟨add, drop, fl, hd', lg, nx⟩ := x
    dsimp only at *
    obtain ⟨n1, n2⟩ := hf2
    obtain ⟨aao, acp, rfl, hac, ham, hacell⟩ := ha.tabs
    obtain ⟨dao, dcp, rfl, hdc, hdm, _⟩ := hd.ints
    have HAC := Lib.hid hacell
    have HTR := Lib.hid hTR
    have HDR := Lib.hid hdr
    clear hacell hTR hdr
    have hmf : ∀ (fn : Fn) (first cap : Array Value) (w : World), (Instr.makeFunc fn first cap).run Try.prog w = .ok (.func fn first cap) w := fun _ _ _ _ => rfl
    go_enter Try.func12, Try.ntmps12
    go_wp2_with fail
    refine HR.out.mono ?_
    rintro e w1 ⟨rfl, hb1⟩
    have hA1 := hA.below hb1
    have hA2 := hA1.alloc (.cells #[.slice none 0 0] 40)
    have hG2 := Blk.made w1 #[.slice none 0 0] 40
    have hc2 := hA2.cells
    have hc2' := (hA2.alloc (.cells #[.int .i64 add.length] 3)).cells
    have hs1 : w.heap.size + 1 ≤ w1.heap.size := by have := hb1.size; simp at this; exact this
    have hB2 : Below w.heap.size w (w1.alloc (.cells #[.slice none 0 0] 40)) := (hb0.trans (hb1.mono (by simp))).alloc (by omega) _
    have hP1 := encPut_lit w1.heap.size (w1.heap.size + 1) 1 [(add.length : Int)] #[.int .i64 add.length] _ [] _ (by simp) rfl hG2 (Sl.nil _ _ _) rfl (by intro n hn; simp only [List.mem_cons, List.not_mem_nil, or_false] at hn; subst hn; exact ⟨by omega, by omega⟩) (by simp)
    have HP1 := Lib.hid hP1
    clear hP1
    go_wp2_with fail
    refine HP1.out.mono ?_
    rintro e w3 ⟨rfl, v3, hG3, hS3, hk3⟩
    have hA3 := hk3.blk hA2 ⟨hA2.lt, by omega⟩
    have hB3 : Below w.heap.size w w3 := hB2.trans (hk3.below fun b hb => ⟨Nat.lt_of_lt_of_le hb hB2.size, by omega⟩)
    have hs3 : w1.heap.size + 1 ≤ w3.heap.size := by have := hk3.size; simp at this; exact this
    have hc3 := hA3.cells
    have hl3 : ([] ++ putsI [(add.length : Int)]).length ≤ 10 := by
      have := putsI_len [(add.length : Int)] (by intro n hn; simp only [List.mem_cons, List.not_mem_nil, or_false] at hn; subst hn; exact ⟨by omega, by omega⟩)
      simpa using this
    rw [List.nil_append] at hl3 hS3
    clear hA1 hA2 hG2 hc2 hc2' hB2 hA hb0 HR hk3
    generalize hY : putsI [(add.length : Int)] = Y0 at *
    have HY := Lib.hid hY
    have HB1 := Lib.hid hb1
    clear hY hb1
    go_wp2_with fail
    go_loopw [21] (fun ii wr => ∃ i : Nat, i ≤ add.length ∧ ii = .int .i64 i ∧ ∃ v', Blk wr w1.heap.size #[v'] 40 ∧ Sl (· < wr.heap.size) wr 1 v' (bc (Y0 ++ encA (add.take i))) ∧ Blk wr w.heap.size #[.slice aao add.length acp, .slice dao drop.length dcp, .int .u64 fl, .int .u64 hd', .int .i64 lg, .int .i64 nx] 28 ∧ Below w.heap.size w wr) (fun ii _ => add.length - (intOf ii).toNat)
    case atStart => exact ⟨0, by omega, rfl, v3, hG3, by simpa [encA] using hS3, hA3, hB3⟩
    case round =>
      obtain ⟨i, hi, rfl, v', hG, hS, hA, hB⟩ := hrel
      have hgl := hG.lt
      by_cases hlt : i < add.length
      · obtain ⟨b, off, rfl, hb, hc⟩ := HAC.out (by omega)
        obtain ⟨c0, c1, c2, c3, c4⟩ := hc i hlt
        have c0 := (hB.cell (p := ⟨b, off + i * 5, none⟩) hb).trans c0
        have c1 := (hB.cell (p := ⟨b, off + i * 5 + 1, none⟩) hb).trans c1
        have c2 := (hB.cell (p := ⟨b, off + i * 5 + 2, none⟩) hb).trans c2
        have c3 := (hB.cell (p := ⟨b, off + i * 5 + 3, none⟩) hb).trans c3
        have c4 := (hB.cell (p := ⟨b, off + i * 5 + 4, none⟩) hb).trans c4
        have HET := Lib.hid (encA_take hlt)
        have hR := HTR.out _ (List.getElem_mem hlt)
        have hLT := encA_len (add.take i) (fun t ht => HTR.out t (List.mem_of_mem_take ht))
        have HYL : (Y0 ++ encA (add.take i)).length ≤ 15000 := by rw [List.length_append]; rw [List.length_take] at hLT; omega
        clear hc hLT hG3 hS3 hA3 hB3 hc3
        generalize add[i] = t at *
        generalize hys : Y0 ++ encA (add.take i) = ys at *
        have HYS := Lib.hid hys
        clear hys
        obtain ⟨tn, tl, ts, tf, tla⟩ := t
        have HNU := Lib.hid hR.nums
        have HSH := hR.short
        clear hR
        dsimp only at *
        obtain ⟨wP, hwP⟩ : ∃ wP : World, wP = wr := ⟨_, rfl⟩
        subst hwP
        have hTb := Blk.made wP #[.int .i64 tn, .int .i64 tl, .int .i64 ts, .string tf, .string tla] 38
        have hTc := (hTb.alloc (.cells #[.int .i64 tn, .int .i64 tl, .int .i64 ts] 3)).cells
        have hTc0 := hTb.cells
        have hET : Below wP.heap.size wP (wP.alloc (.cells #[.int .i64 tn, .int .i64 tl, .int .i64 ts, .string tf, .string tla] 38)) := (Below.refl _ _).alloc (Nat.le_refl _) _
        have hP := encPut_lit w1.heap.size (wP.heap.size + 1) 3 [tn, tl, ts] #[.int .i64 tn, .int .i64 tl, .int .i64 ts] _ ys _ (by simp) rfl (hG.below hET) (hS.up hET) rfl HNU.out (by simp; omega)
        have HP := Lib.hid hP
        have hA4 := hA.below hET
        have hB4 := hB.trans (hET.mono hB.size)
        clear hP hG hS hA hB
        go_wp2_with fail
        generalize wP.alloc (.cells #[.int .i64 tn, .int .i64 tl, .int .i64 ts, .string tf, .string tla] 38) = wA at *
        refine HP.out.mono ?_
        rintro e w5 ⟨rfl, v5, hG5, hS5, hk5⟩
        have hA5 := hk5.blk hA4 ⟨hA4.lt, by omega⟩
        have hT5 := hk5.blk hTb ⟨hTb.lt, by omega⟩
        have hB5 : Below w.heap.size w w5 := hB4.trans (hk5.below fun b hb => ⟨Nat.lt_of_lt_of_le hb hB4.size, by omega⟩)
        obtain ⟨va, vn, vc, rfl, _, _⟩ := hS5.len
        have hl5 := putsI_len _ HNU.out
        have hl6 := putT_len tf (by omega)
        have hl7 := putT_len tla (by omega)
        simp only [List.length_cons, List.length_nil] at hl5
        have HX := Lib.hid (show ys ++ putsI [tn, tl, ts] ++ putT tf.data.toList ++ putT tla.data.toList = ys ++ encT ⟨tn, tl, ts, tf, tla⟩ from by simp [encT])
        clear HP hk5 hTc hTc0 hTb hET hA4 hB4
        go_wp2_with fail
        obtain ⟨wd, hwd⟩ : ∃ wd, wd = w5.drew := ⟨_, rfl⟩
        have hGd : Blk wd w1.heap.size #[.slice va vn vc] 40 := by rw [hwd]; exact hG5.drew
        have hTd : Blk wd wP.heap.size #[.int .i64 tn, .int .i64 tl, .int .i64 ts, .string tf, .string tla] 38 := by rw [hwd]; exact hT5.drew
        have hAd : Blk wd w.heap.size #[.slice (some ⟨b, off, none⟩) add.length acp, .slice dao drop.length dcp, .int .u64 fl, .int .u64 hd', .int .i64 lg, .int .i64 nx] 28 := by rw [hwd]; exact hA5.drew
        have hSd : Sl (· < wd.heap.size) wd 1 (.slice va vn vc) (bc (ys ++ putsI [tn, tl, ts])) := by rw [hwd]; exact hS5
        have hBd : Below w.heap.size w wd := by rw [hwd]; exact hB5.drew
        refine region_walkN (Kept (fun b => b < wd.heap.size ∧ b ≠ w1.heap.size) wd) (by rw [← hwd]; exact Kept.refl _ _) (by kernel_rfl) (by kernel_rfl) (fun _ _ d _ _ h => by cases d <;> exact h) ?_
        rw [← hwd]
        clear hwd hG5 hT5 hA5 hS5 hB5
        have hTW : ∀ W, Kept (fun b => b < wd.heap.size ∧ b ≠ w1.heap.size) wd W → ∀ i, W.cell? ⟨wP.heap.size, i, none⟩ = (#[Value.int .i64 tn, .int .i64 tl, .int .i64 ts, .string tf, .string tla] : Array Value)[i]? := fun W h => (h.blk hTd ⟨hTd.lt, by omega⟩).cells
        ((refine WalkN.take 1 _ ?_ (by simp only [List.getElem?_toArray, List.getElem?_cons_succ, List.getElem?_cons_zero]; rfl) (by kernel_rfl) (by kernel_rfl) (by rfl) (fun W hW => ?_) ?_; rotate_left; · (go_simp; try with_reducible rfl)); simp only [Act.put, List.setIfInBounds_toArray, List.set_cons_zero, List.set_cons_succ]); ((refine WalkN.take 2 _ ?_ (by simp only [List.getElem?_toArray, List.getElem?_cons_succ, List.getElem?_cons_zero]; rfl) (by kernel_rfl) (by kernel_rfl) (by rfl) (fun W hW => ?_) ?_; rotate_left; · (go_simp; try with_reducible rfl)); simp only [Act.put, List.setIfInBounds_toArray, List.set_cons_zero, List.set_cons_succ]); ((refine WalkN.take 4 _ ?_ (by simp only [List.getElem?_toArray, List.getElem?_cons_succ, List.getElem?_cons_zero]; rfl) (by kernel_rfl) (by kernel_rfl) (by rfl) (fun W hW => ?_) ?_; rotate_left; · (go_simp; try with_reducible rfl)); simp only [Act.put, List.setIfInBounds_toArray, List.set_cons_zero, List.set_cons_succ]); ((refine WalkN.take 5 _ ?_ (by simp only [List.getElem?_toArray, List.getElem?_cons_succ, List.getElem?_cons_zero]; rfl) (by kernel_rfl) (by kernel_rfl) (by rfl) (fun W hW => ?_) ?_; rotate_left; · (go_simp; try with_reducible rfl)); simp only [Act.put, List.setIfInBounds_toArray, List.set_cons_zero, List.set_cons_succ])
        clear hTW
        have hGc := hGd.cells
        refine WalkN.one 0 (by kernel_rfl) ?_
        refine ⟨_, (by simp only [List.getElem?_toArray, List.getElem?_cons_zero]; rfl), by rfl, fun K hK => ?_⟩
        go_simp
        refine hK.out _ _ (Kept.refl _ _) ?_
        clear hK hGc
        have HP6 := Lib.hid (putText_any _ _ tf wd hSd (by rw [List.length_append]; omega) (by omega))
        refine WalkN.one 3 (by kernel_rfl) ?_
        refine ⟨_, (by simp only [List.getElem?_toArray, List.getElem?_cons_succ, List.getElem?_cons_zero]; rfl), by rfl, fun K hK => ?_⟩
        go_simp
        refine HP6.out.mono ?_
        rintro e w6 ⟨v6, rfl, happ6, hb6⟩
        have hK6 : Kept (fun b => b < wd.heap.size ∧ b ≠ w1.heap.size) wd w6 := Below.kept hb6 fun b hb => hb.1
        refine hK.out _ _ hK6 ?_
        clear hK
        have HP7 := Lib.hid (putText_any _ _ tla w6 happ6.sl (by simp only [List.length_append]; omega) (by omega))
        refine WalkN.one 6 (by kernel_rfl) ?_
        refine ⟨_, (by simp only [List.getElem?_toArray, List.getElem?_cons_succ, List.getElem?_cons_zero]; rfl), by rfl, fun K hK => ?_⟩
        go_simp
        refine HP7.out.mono ?_
        rintro e w7 ⟨v7, rfl, happ7, hb7⟩
        have hK7 : Kept (fun b => b < wd.heap.size ∧ b ≠ w1.heap.size) wd w7 := hK6.trans (Below.kept hb7 fun b hb => by have := hK6.size; omega)
        refine hK.out _ _ hK7 ?_
        clear hK
        have hG7 := (hGd.below hb6).below hb7
        have hG7c := hG7.cells
        have hG7f := hG7.free
        have hs7 := happ7.sl.off hG7
        obtain ⟨a7, n7, c7, rfl, _, _⟩ := happ7.sl.len
        refine WalkN.one 7 (by kernel_rfl) ?_
        refine ⟨_, (by simp only [List.getElem?_toArray, List.getElem?_cons_succ, List.getElem?_cons_zero]; rfl), by rfl, fun K hK => ?_⟩
        go_simp
        refine hK.out _ _ (hK7.set (by simp) _) ?_
        clear hK hG7c hG7f
        refine WalkN.done (by kernel_rfl) ?_
        have hA7 := (hAd.below hb6).below hb7
        have hB7 : Below w.heap.size w w7 := hBd.trans (hK7.below fun b hb => ⟨Nat.lt_of_lt_of_le hb hBd.size, by omega⟩)
        go_wp2
        go_roundw
        case rel =>
          refine ⟨i + 1, by omega, by go_num, _, Blk.set_to hG7 0 _ rfl, ?_, hA7.other (by simp; omega) _, setUp hB7 (by omega) _⟩
          rw [HET.out, ← List.append_assoc, HYS.out, ← HX.out]
          refine (hs7.same fun x hx => Below.heap_setCell w7 _ _ x (by have := hx.2; simpa using this)).mono fun x hx => ?_
          simpa using hx.1
        case measure => simp [intOf]; omega
      · obtain rfl : i = add.length := by omega
        rw [List.take_length] at hS
        have hLT := encA_len add HTR.out
        have HYL : (Y0 ++ encA add).length ≤ 15000 := by rw [List.length_append]; omega
        have HX := Lib.hid (show Y0 ++ encA add ++ putsI [(drop.length : Int)] ++ putsI drop ++ putB fl ++ putB hd' ++ putsI [lg, nx] = encE ⟨add, drop, fl, hd', lg, nx⟩ from by rw [HEE.out, ← HY.out])
        clear hLT hG3 hS3 hA3 hB3 hc3 HAC HY HEE HTR
        generalize Y0 ++ encA add = ys at *
        have hcA := (hA.alloc (.cells #[.int .i64 drop.length] 3)).cells
        have hcA0 := hA.cells
        have hok1 : ∀ n ∈ [(drop.length : Int)], In62 n := by intro n hn; simp only [List.mem_cons, List.not_mem_nil, or_false] at hn; subst hn; exact ⟨by omega, by omega⟩
        have HP := Lib.hid (encPut_lit w1.heap.size wr.heap.size 1 [(drop.length : Int)] #[.int .i64 drop.length] _ ys wr rfl rfl hG hS rfl hok1 (by simp; omega))
        have hl1 := putsI_len _ hok1
        simp only [List.length_cons, List.length_nil] at hl1
        have hl2 := putsI_len _ HDR.out
        have hd2 := hd.mono (T := fun b => b < w.heap.size ∧ b ≠ w1.heap.size) fun b hb => ⟨hb, by omega⟩
        clear hok1 hd
        go_wp2_with fail
        refine HP.out.mono ?_
        rintro e w5 ⟨rfl, v5, hG5, hS5, hk5⟩
        have hA5 := hk5.blk hA ⟨hA.lt, by omega⟩
        have hB5 : Below w.heap.size w w5 := hB.trans (hk5.below fun b hb => ⟨Nat.lt_of_lt_of_le hb hB.size, by omega⟩)
        have hd5 : Sl (fun b => b < w5.heap.size ∧ b ≠ w1.heap.size) w5 1 (.slice dao drop.length dcp) (ic drop) :=
          (hd2.same fun b hb => hB5.block b hb.1).mono fun b hb => ⟨Nat.lt_of_lt_of_le hb.1 hB5.size, hb.2⟩
        have HP2 := Lib.hid (encPut_any w1.heap.size _ drop _ _ w5 hG5 hS5 hd5 HDR.out (by rw [List.length_append]; omega))
        have hcA5 := hA5.cells
        clear HP hk5 hcA hcA0 hA hB hS hG hd5
        go_wp2_with fail
        refine HP2.out.mono ?_
        rintro e w6 ⟨rfl, v6, hG6, hS6, hk6⟩
        have hA6 := hk6.blk hA5 ⟨hA5.lt, by omega⟩
        have hB6 : Below w.heap.size w w6 := hB5.trans (hk6.below fun b hb => ⟨Nat.lt_of_lt_of_le hb hB5.size, by omega⟩)
        obtain ⟨va, vn, vc, rfl, _, _⟩ := hS6.len
        clear HP2 hk6 hcA5 hA5 hB5 hS5 hG5
        go_wp2_with fail
        obtain ⟨wd, hwd⟩ : ∃ wd, wd = w6.drew := ⟨_, rfl⟩
        have hGd : Blk wd w1.heap.size #[.slice va vn vc] 40 := by rw [hwd]; exact hG6.drew
        have hAd : Blk wd w.heap.size #[.slice aao add.length acp, .slice dao drop.length dcp, .int .u64 fl, .int .u64 hd', .int .i64 lg, .int .i64 nx] 28 := by rw [hwd]; exact hA6.drew
        have hSd : Sl (· < wd.heap.size) wd 1 (.slice va vn vc) (bc (ys ++ putsI [(drop.length : Int)] ++ putsI drop)) := by rw [hwd]; exact hS6
        have hBd : Below w.heap.size w wd := by rw [hwd]; exact hB6.drew
        refine region_walkN (Kept (fun b => b < wd.heap.size ∧ b ≠ w1.heap.size) wd) (by rw [← hwd]; exact Kept.refl _ _) (by kernel_rfl) (by kernel_rfl) (fun _ _ d _ _ h => by cases d <;> exact h) ?_
        rw [← hwd]
        clear hwd hG6 hA6 hS6 hB6
        have hTW : ∀ W, Kept (fun b => b < wd.heap.size ∧ b ≠ w1.heap.size) wd W → ∀ i, W.cell? ⟨w.heap.size, i, none⟩ = (#[.slice aao add.length acp, .slice dao drop.length dcp, .int .u64 fl, .int .u64 hd', .int .i64 lg, .int .i64 nx] : Array Value)[i]? := fun W h => (h.blk hAd ⟨hAd.lt, by omega⟩).cells
        ((refine WalkN.take 1 _ ?_ (by simp only [List.getElem?_toArray, List.getElem?_cons_succ, List.getElem?_cons_zero]; rfl) (by kernel_rfl) (by kernel_rfl) (by rfl) (fun W hW => ?_) ?_; rotate_left; · (go_simp; try with_reducible rfl)); simp only [Act.put, List.setIfInBounds_toArray, List.set_cons_zero, List.set_cons_succ]); ((refine WalkN.take 2 _ ?_ (by simp only [List.getElem?_toArray, List.getElem?_cons_succ, List.getElem?_cons_zero]; rfl) (by kernel_rfl) (by kernel_rfl) (by rfl) (fun W hW => ?_) ?_; rotate_left; · (go_simp; try with_reducible rfl)); simp only [Act.put, List.setIfInBounds_toArray, List.set_cons_zero, List.set_cons_succ]); ((refine WalkN.take 4 _ ?_ (by simp only [List.getElem?_toArray, List.getElem?_cons_succ, List.getElem?_cons_zero]; rfl) (by kernel_rfl) (by kernel_rfl) (by rfl) (fun W hW => ?_) ?_; rotate_left; · (go_simp; try with_reducible rfl)); simp only [Act.put, List.setIfInBounds_toArray, List.set_cons_zero, List.set_cons_succ]); ((refine WalkN.take 5 _ ?_ (by simp only [List.getElem?_toArray, List.getElem?_cons_succ, List.getElem?_cons_zero]; rfl) (by kernel_rfl) (by kernel_rfl) (by rfl) (fun W hW => ?_) ?_; rotate_left; · (go_simp; try with_reducible rfl)); simp only [Act.put, List.setIfInBounds_toArray, List.set_cons_zero, List.set_cons_succ])
        clear hTW
        have hGc := hGd.cells
        refine WalkN.one 0 (by kernel_rfl) ?_
        refine ⟨_, (by simp only [List.getElem?_toArray, List.getElem?_cons_zero]; rfl), by rfl, fun K hK => ?_⟩
        go_simp
        refine hK.out _ _ (Kept.refl _ _) ?_
        clear hK hGc
        have HP6 := Lib.hid (put_any _ _ fl wd hSd (by simp only [List.length_append]; omega) hfl)
        refine WalkN.one 3 (by kernel_rfl) ?_
        refine ⟨_, (by simp only [List.getElem?_toArray, List.getElem?_cons_succ, List.getElem?_cons_zero]; rfl), by rfl, fun K hK => ?_⟩
        go_simp
        refine HP6.out.mono ?_
        rintro e w6 ⟨v6, rfl, happ6, hb6⟩
        have hK6 : Kept (fun b => b < wd.heap.size ∧ b ≠ w1.heap.size) wd w6 := Below.kept hb6 fun b hb => hb.1
        refine hK.out _ _ hK6 ?_
        clear hK
        have hl3 := hfl.len
        have hl4 := hhd.len
        have HP7 := Lib.hid (put_any _ _ hd' w6 happ6.sl (by simp only [List.length_append]; omega) hhd)
        refine WalkN.one 6 (by kernel_rfl) ?_
        refine ⟨_, (by simp only [List.getElem?_toArray, List.getElem?_cons_succ, List.getElem?_cons_zero]; rfl), by rfl, fun K hK => ?_⟩
        go_simp
        refine HP7.out.mono ?_
        rintro e w7 ⟨v7, rfl, happ7, hb7⟩
        have hK7 : Kept (fun b => b < wd.heap.size ∧ b ≠ w1.heap.size) wd w7 := hK6.trans (Below.kept hb7 fun b hb => by have := hK6.size; omega)
        refine hK.out _ _ hK7 ?_
        clear hK
        have hG7 := (hGd.below hb6).below hb7
        have hG7c := hG7.cells
        have hG7f := hG7.free
        have hs7 := happ7.sl.off hG7
        obtain ⟨a7, n7, c7, rfl, _, _⟩ := happ7.sl.len
        refine WalkN.one 7 (by kernel_rfl) ?_
        refine ⟨_, (by simp only [List.getElem?_toArray, List.getElem?_cons_succ, List.getElem?_cons_zero]; rfl), by rfl, fun K hK => ?_⟩
        go_simp
        refine hK.out _ _ (hK7.set (by simp) _) ?_
        clear hK hG7c hG7f
        refine WalkN.done (by kernel_rfl) ?_
        have hA7 := (hAd.below hb6).below hb7
        have hB7 : Below w.heap.size w w7 := hBd.trans (hK7.below fun b hb => ⟨Nat.lt_of_lt_of_le hb hBd.size, by omega⟩)
        have hA8 := hA7.other (a := ⟨w1.heap.size, 0, none⟩) (by simp; omega) (.slice a7 n7 c7)
        have hG8 := Blk.set_to hG7 0 (.slice a7 n7 c7) rfl
        have hB8 : Below w.heap.size w (w7.setCell ⟨w1.heap.size, 0, none⟩ (.slice a7 n7 c7)) := setUp hB7 (by omega) _
        have hS8 := (hs7.same (w' := w7.setCell ⟨w1.heap.size, 0, none⟩ (.slice a7 n7 c7)) fun x hx => Below.heap_setCell w7 _ _ x (by have := hx.2; simpa using this)).mono (T := (· < (w7.setCell ⟨w1.heap.size, 0, none⟩ (.slice a7 n7 c7)).heap.size)) fun x hx => by simpa using hx.1
        clear hA7 hG7 hB7 hs7 happ7 hK7 hK6 hb7 hb6 hGd hAd hSd hBd HP6 HP7 happ6
        generalize w7.setCell ⟨w1.heap.size, 0, none⟩ (.slice a7 n7 c7) = w8 at *
        have hcA8 := (hA8.alloc (.cells #[.int .i64 lg, .int .i64 nx] 3)).cells
        have hcA80 := hA8.cells
        have HP8 := Lib.hid (encPut_lit w1.heap.size w8.heap.size 2 [lg, nx] #[.int .i64 lg, .int .i64 nx] _ _ w8 rfl rfl hG8 hS8 rfl (by intro n hn; simp only [List.mem_cons, List.not_mem_nil, or_false] at hn; rcases hn with rfl | rfl; exact hlg; exact hnx) (by simp only [List.length_append, List.length_cons, List.length_nil]; omega))
        clear hG8 hS8
        go_wp2_with fail
        refine HP8.out.mono ?_
        rintro e w9 ⟨rfl, v9, hG9, hS9, hk9⟩
        have hB9 : Below w.heap.size w w9 := hB8.trans (hk9.below fun b hb => ⟨Nat.lt_of_lt_of_le hb hB8.size, by omega⟩)
        have hcG9 := hG9.cells
        go_wp2
        go_ret2
        rw [HX.out] at hS9
        exact ⟨_, rfl, hS9, hB9⟩

end Go.Proofs.Ytkllfdfipkcddaa
