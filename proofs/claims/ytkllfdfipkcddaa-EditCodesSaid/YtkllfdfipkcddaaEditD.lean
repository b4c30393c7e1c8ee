/- The walks of edit.right, sentryref16's numbers, Right, SameTables, Same, Few: what an edit and a version are in memory. No condition: lemmas. -/
import Derived.Test.YtkllfdfipkcddaaEditC
import Derived.Laws.StructEq
namespace Go.Proofs.Ytkllfdfipkcddaa
open Go Go.RowKit

theorem toL_beq (a b : ByteArray) : (a.toList == b.toList) = decide (a = b) := by
  by_cases h : a = b
  · subst h; simp
  · have := ba_beq' h
    rw [← ByteArray.toList_eq, ← ByteArray.toList_eq] at this
    rw [this]
    simp [h]

theorem tab_ext (a b : Tab) : decide (a = b) = (a.num == b.num && (a.lvl == b.lvl && (a.size == b.size && (a.first.toList == b.first.toList && a.last.toList == b.last.toList)))) := by
  obtain ⟨an, al, asz, af, ala⟩ := a
  obtain ⟨bn, bl, bsz, bf, bla⟩ := b
  rw [toL_beq, toL_beq]
  rw [Bool.eq_iff_iff]
  simp

theorem tab_eqIn (a b : Tab) (w : World) : (Op.equalIn 10000 38 (tV a) (tV b)).run Try.prog w = .ok (decide (a = b)) w := by
  rw [tab_ext]
  obtain ⟨an, al, asz, af, ala⟩ := a
  obtain ⟨bn, bl, bsz, bf, bla⟩ := b
  unfold tV
  dsimp only
  cases h1 : an == bn <;> cases h2 : al == bl <;> cases h3 : asz == bsz <;> cases h4 : af.toList == bf.toList <;> cases h5 : ala.toList == bla.toList <;> simp (config := { decide := false }) [go_sem, Try.underlying38, Try.stoodInHeld38, h1, h2, h3, h4, h5]

theorem tab_neq (a b : Tab) (r : Bool) (h : decide (a = b) = !r) (w : World) : (binOp .neq 38 (tV a) (tV b)).run Try.prog w = .ok (.bool r) w := by
  rw [run_neq_struct, tab_eqIn, h]
  simp [Result.andThen]

/-- An edit; a version. -/
structure Edi where
  add : List Tab
  drop : List Int
  floor : Nat
  head : Nat
  log : Int
  next : Int
structure Ver where
  tabs : List Tab
  floor : Nat
  head : Nat
  log : Int
  next : Int
abbrev eV (av dv : Value) (x : Edi) : Value := .agg #[av, dv, .int .u64 x.floor, .int .u64 x.head, .int .i64 x.log, .int .i64 x.next]
abbrev vV (tv : Value) (x : Ver) : Value := .agg #[tv, .int .u64 x.floor, .int .u64 x.head, .int .i64 x.log, .int .i64 x.next]
abbrev eC (av dv : Value) (x : Edi) : Array Value := #[av, dv, .int .u64 x.floor, .int .u64 x.head, .int .i64 x.log, .int .i64 x.next]
abbrev vC (tv : Value) (x : Ver) : Array Value := #[tv, .int .u64 x.floor, .int .u64 x.head, .int .i64 x.log, .int .i64 x.next]
structure Edi.Ok (x : Edi) : Prop where
  add : ∀ t ∈ x.add, TabOk t
  drop : ∀ n ∈ x.drop, I64 n
  log : I64 x.log
  next : I64 x.next
structure Ver.Ok (x : Ver) : Prop where
  tabs : ∀ t ∈ x.tabs, TabOk t
  log : I64 x.log
  next : I64 x.next

def rightE (x : Edi) : Bool := !oddB x.log && (!oddB x.next && (!x.drop.any oddB && !x.add.any oddT))

set_option maxRecDepth 100000 in
set_option maxHeartbeats 800000 in
theorem right_any (av dv : Value) (x : Edi) (w : World) (ha : Sl (· < w.heap.size) w 5 av (tcs x.add)) (hd : Sl (· < w.heap.size) w 1 dv (ic x.drop)) (hok : x.Ok) :
    Calls Try.prog 19 #[eV av dv x] w (Ret (.bool (rightE x)) w) := by
  obtain ⟨add, drop, fl, hd', lg, nx⟩ := x
  obtain ⟨k1, k2, k3, k4⟩ := hok
  unfold eV
  dsimp only at *
  have hb0 : Below w.heap.size w (w.alloc (.cells #[av, dv, .int .u64 fl, .int .u64 hd', .int .i64 lg, .int .i64 nx] 28)) := (Below.refl _ _).alloc (Nat.le_refl _) _
  have hB0 := Blk.made w #[av, dv, .int .u64 fl, .int .u64 hd', .int .i64 lg, .int .i64 nx] 28
  have ha0 := ha.up hb0
  have hd0 := hd.up hb0
  cases b1 : oddB lg with
  | true =>
    have HO := Lib.hid (show rightE ⟨add, drop, fl, hd', lg, nx⟩ = false from by simp [rightE, b1])
    have HB := Lib.hid b1
    clear b1
    go_enter Try.func19, Try.ntmps19
    go_wp2_with fail
    refine (odd_is lg _ k3 HB.out).mono ?_
    rintro e w' ⟨rfl, rfl⟩
    go_wp2
    go_ret
    exact ⟨by rw [HO.out]; rfl, hb0⟩
  | false =>
    have HB := Lib.hid b1
    cases b2 : oddB nx with
    | true =>
      have HO := Lib.hid (show rightE ⟨add, drop, fl, hd', lg, nx⟩ = false from by simp [rightE, b2])
      have HC := Lib.hid b2
      clear b1 b2
      go_enter Try.func19, Try.ntmps19
      go_wp2_with fail
      refine (odd_is lg _ k3 HB.out).mono ?_
      rintro e w' ⟨rfl, rfl⟩
      go_wp2_with fail
      refine (odd_is nx _ k4 HC.out).mono ?_
      rintro e w' ⟨rfl, rfl⟩
      go_wp2
      go_ret
      exact ⟨by rw [HO.out]; rfl, hb0⟩
    | false =>
      have HC := Lib.hid b2
      have hcd := contI_any dv drop _ hd0 k2
      cases b3 : drop.any oddB with
      | true =>
        have HO := Lib.hid (show rightE ⟨add, drop, fl, hd', lg, nx⟩ = false from by simp [rightE, b3])
        rw [b3] at hcd
        clear b1 b2 b3
        go_enter Try.func19, Try.ntmps19
        go_wp2_with fail
        refine (odd_is lg _ k3 HB.out).mono ?_
        rintro e w' ⟨rfl, rfl⟩
        go_wp2_with fail
        refine (odd_is nx _ k4 HC.out).mono ?_
        rintro e w' ⟨rfl, rfl⟩
        go_wp2_with fail
        refine hcd.mono ?_
        rintro e w2 ⟨rfl, hb2⟩
        have hb02 := below_step hb0 hb2
        go_wp2
        go_ret
        exact ⟨by rw [HO.out]; rfl, hb02⟩
      | false =>
        have HO := Lib.hid (show rightE ⟨add, drop, fl, hd', lg, nx⟩ = !add.any oddT from by simp [rightE, b1, b2, b3])
        rw [b3] at hcd
        clear b1 b2 b3
        go_enter Try.func19, Try.ntmps19
        go_wp2_with fail
        refine (odd_is lg _ k3 HB.out).mono ?_
        rintro e w' ⟨rfl, rfl⟩
        go_wp2_with fail
        refine (odd_is nx _ k4 HC.out).mono ?_
        rintro e w' ⟨rfl, rfl⟩
        go_wp2_with fail
        refine hcd.mono ?_
        rintro e w2 ⟨rfl, hb2⟩
        have hb02 := below_step hb0 hb2
        have hc := (hB0.below hb2).cells
        have hct := contT_any av add _ (ha0.up hb2) k1
        generalize add.any oddT = q at *
        clear hcd
        go_wp2_with fail
        refine hct.mono ?_
        rintro e w3 ⟨rfl, hb3⟩
        have hb03 := below_step hb02 hb3
        go_wp2
        go_ret
        exact ⟨by rw [HO.out]; rfl, hb03⟩

/-- All numbers of an edit. -/
def tN (t : Tab) : List Int := [t.num, t.lvl, t.size]
def numsE (x : Edi) : List Int := ([x.log, x.next] ++ x.drop) ++ x.add.flatMap tN
theorem tN_length (l : List Tab) : (l.flatMap tN).length = 3 * l.length := by
  induction l with
  | nil => rfl
  | cons a l ih => rw [List.flatMap_cons, List.length_append, ih]; simp [tN]; omega
theorem right_nums (x : Edi) : rightE x = (numsE x).all fun n => !oddB n := by
  have h : ∀ l : List Tab, (l.flatMap tN).all (fun n => !oddB n) = !l.any oddT := by
    intro l
    induction l with
    | nil => rfl
    | cons a l ih => simp only [List.flatMap_cons, List.all_append, ih, List.any_cons]; simp [tN, oddT]; cases oddB a.num <;> cases oddB a.lvl <;> cases oddB a.size <;> simp
  have h2 : ∀ l : List Int, l.all (fun n => !oddB n) = !l.any oddB := by
    intro l
    induction l with
    | nil => rfl
    | cons a l ih => simp only [List.all_cons, ih, List.any_cons]; cases oddB a <;> simp
  rw [numsE, List.all_append, List.all_append, h, h2, h2]
  simp [rightE, Bool.and_assoc]

set_option maxRecDepth 100000 in
set_option maxHeartbeats 800000 in
theorem nums_any (av dv : Value) (x : Edi) (w : World) (ha : Sl (· < w.heap.size) w 5 av (tcs x.add)) (hd : Sl (· < w.heap.size) w 1 dv (ic x.drop)) (h1 : x.add.length ≤ 1000) (h2 : x.drop.length ≤ 1000) :
    Calls Try.prog 28 #[eV av dv x] w fun e w' => ∃ v, e = .returned v ∧ Sl (· < w'.heap.size) w' 1 v (ic (numsE x)) ∧ Below w.heap.size w w' := by
  obtain ⟨add, drop, fl, hd', lg, nx⟩ := x
  unfold eV
  dsimp only at *
  have hb0 : Below w.heap.size w ((w.alloc (.cells #[av, dv, .int .u64 fl, .int .u64 hd', .int .i64 lg, .int .i64 nx] 28)).alloc (.cells #[.int .i64 lg, .int .i64 nx] 3)) := ((Below.refl _ _).alloc (Nat.le_refl _) _).alloc (by simp) _
  have hB0 := (Blk.made w #[av, dv, .int .u64 fl, .int .u64 hd', .int .i64 lg, .int .i64 nx] 28).alloc (.cells #[.int .i64 lg, .int .i64 nx] 3)
  have hd0 := hd.up hb0
  have hL := Sl.made (w.alloc (.cells #[av, dv, .int .u64 fl, .int .u64 hd', .int .i64 lg, .int .i64 nx] 28)) (fun b => b < w.heap.size + 2) 1 2 3 #[.int .i64 lg, .int .i64 nx] rfl (by unfold maxLen; omega) (by simp)
  have hApp : App ((w.alloc (.cells #[av, dv, .int .u64 fl, .int .u64 hd', .int .i64 lg, .int .i64 nx] 28)).alloc (.cells #[.int .i64 lg, .int .i64 nx] 3)) (w.heap.size + 2) 3 1 (.slice (some ⟨w.heap.size + 1, 0, none⟩) 2 2) (ic [lg, nx]) := by
    have := App.full (e := 3) hL
    simpa [ic] using this
  obtain ⟨ao, c, rfl, hac, hcm, hacell⟩ := ha.tabs
  have HAC := Lib.hid hacell
  have HL := Lib.hid h1
  have HL2 := Lib.hid h2
  clear hL ha hacell
  go_enter Try.func28, Try.ntmps28
  go_wp2_with (at_builtin; go_must (refine wpList_app intsT rfl (.tmp 10) (.tmp 12) rfl rfl hApp rfl hd0 (ic_one _) (by simp [ic_length]; omega) (by simp [ic_length]; omega) (by simp) ?_); intro v2 w2 happ hb2 _; have hcB := (hB0.same (Same.below hb2) (by omega)).cells)
  rw [← ic_append] at happ
  have hbw2 : Below w.heap.size w w2 := hb0.trans (hb2.mono (by omega))
  have hsz2 : w.heap.size + 2 ≤ w2.heap.size := by have := hb2.size; simp at this; omega
  clear hApp hd0 hd
  go_loopw [3, 17] (fun vv ii wr => ∃ i : Nat, i ≤ add.length ∧ ii = .int .i64 i ∧ App wr (w.heap.size + 2) 3 1 vv (ic (([lg, nx] ++ drop) ++ (add.take i).flatMap tN)) ∧ Below (w.heap.size + 2) w2 wr) (fun _ ii _ => add.length - (intOf ii).toNat)
  case atStart => exact ⟨0, by omega, rfl, by simpa using happ, Below.refl _ _⟩
  case round =>
    obtain ⟨i, hi, rfl, happ, hbel⟩ := hrel
    by_cases hlt : i < add.length
    · obtain ⟨b, off, rfl, hb, hc⟩ := HAC.out (by omega)
      obtain ⟨c0, c1, c2, c3, c4⟩ := hc i hlt
      have hbw : Below w.heap.size w wr := hbw2.trans (hbel.mono (by omega))
      have c0 := (hbw.cell (p := ⟨b, off + i * 5, none⟩) hb).trans c0
      have c1 := (hbw.cell (p := ⟨b, off + i * 5 + 1, none⟩) hb).trans c1
      have c2 := (hbw.cell (p := ⟨b, off + i * 5 + 2, none⟩) hb).trans c2
      have c3 := (hbw.cell (p := ⟨b, off + i * 5 + 3, none⟩) hb).trans c3
      have c4 := (hbw.cell (p := ⟨b, off + i * 5 + 4, none⟩) hb).trans c4
      have hll : (([lg, nx] ++ drop) ++ (add.take i).flatMap tN).length ≤ 5000 := by
        have := HL.out
        have := HL2.out
        rw [List.length_append, tN_length, List.length_take]
        simp
        omega
      have HT := Lib.hid (show ic (([lg, nx] ++ drop) ++ (add.take (i + 1)).flatMap tN) = ic (([lg, nx] ++ drop) ++ (add.take i).flatMap tN) ++ ic (tN add[i]) from by
        rw [List.take_succ_eq_append_getElem hlt, List.flatMap_append, ← List.append_assoc, ic_append _ (List.flatMap tN [add[i]])]
        simp)
      have hszr := Nat.le_trans hsz2 hbel.size
      clear hc
      generalize ([lg, nx] ++ drop) ++ (add.take i).flatMap tN = out at *
      generalize add[i] = t at *
      obtain ⟨tn, tl, ts, tf, tla⟩ := t
      dsimp only [tN] at *
      have hbA : Below (w.heap.size + 2) w2 (wr.alloc (.cells #[.int .i64 tn, .int .i64 tl, .int .i64 ts, .string tf, .string tla] 38)) := hbel.alloc (Nat.le_trans hsz2 hbel.size) _
      have happA := happ.below ((Below.refl _ _).alloc (Nat.le_refl _) (.cells #[.int .i64 tn, .int .i64 tl, .int .i64 ts, .string tf, .string tla] 38))
      have HSZ := Lib.hid (show (wr.alloc (.cells #[.int .i64 tn, .int .i64 tl, .int .i64 ts, .string tf, .string tla] 38)).heap.size = wr.heap.size + 1 from by simp)
      go_wp2_with (at_builtin; go_must (refine wpList_app_lit intsT rfl (.tmp 21) (.tmp 28) rfl rfl happA (by rw [HSZ.out]; rfl) rfl (by simp [Value.oneCell']) (by rw [ic_length]; simp; omega) (by rw [ic_length]; simp; omega) (by rw [HSZ.out]; omega) ?_); intro v3 w3 happ3 hb3 _)
      go_roundw
      case rel => exact ⟨i + 1, by omega, by go_num, by rw [HT.out]; exact happ3, hbA.trans hb3⟩
      case measure => simp [intOf]; omega
    · obtain rfl : i = add.length := by omega
      have HS := Lib.hid happ.sl
      have hbw : Below w.heap.size w wr := hbw2.trans (hbel.mono (by omega))
      rw [List.take_length] at HS
      go_wp2
      go_ret
      exact ⟨_, rfl, HS.out, hbw⟩

end Go.Proofs.Ytkllfdfipkcddaa
