/- Lemmas for the claim, no condition. -/
import Derived.Test.YtipddhcfcehcaaaYT4
namespace Go.Proofs.Ytipddhcfcehcaaa
open Go Go.RowKit

/-- What the writer's rule leads to. -/
def WRes (B wb : Nat) (w : World) (text : ByteArray) (ok : Bool) (add : ByteArray) (wt : Nat) (e : Ending) (w' : World) : Prop :=
  e = .returned (.tuple #[]) ∧ ∃ text', WrB w' B wb text' (!ok) ∧ text.size ≤ text'.size ∧ text'.size ≤ text.size + wt ∧ (ok = true → text' = text ++ add) ∧ WKept B wb w w'
theorem WRes.bad {B wb : Nat} {w w' : World} {text add : ByteArray} {wt : Nat} (h : WrB w' B wb text true) (hk : WKept B wb w w') : WRes B wb w text false add wt (.returned (.tuple #[])) w' :=
  ⟨rfl, text, h, Nat.le_refl _, Nat.le_add_right _ _, (fun h => by cases h), hk⟩

set_option maxRecDepth 100000 in
set_option maxHeartbeats 2000000 in
theorem wrule_odd {B wb : Nat} {text : ByteArray} {w : World} (k : Int) (ra rb : ByteArray) (n : Nat) (ao : Option Addr) (c : Nat) (d : Int) (h : WrB w B wb text true) (hBw : B ≤ w.heap.size) :
    Calls Try.prog 100 #[.pointer (some ⟨wb, 0, none⟩), .agg #[.int .i64 k, .string ra, .string rb, .slice ao n c], .int .i64 d] w fun e w' => e = .returned (.tuple #[]) ∧ WrB w' B wb text true ∧ WKept B wb w w' := by
  have HW0 := Lib.hid h
  have HB := Lib.hid h.1
  have HBW := Lib.hid hBw
  have HNE := Lib.hid (show w.heap.size ≠ wb from by have := h.lt; omega)
  clear h hBw
  by_cases k4 : k = 4
  · subst k4
    have HX := Lib.hid (Blk.made w #[.int .i64 4, .string ra, .string rb, .slice ao n c] 72)
    have HX1 := Lib.hid (HX.out.other (a := ⟨wb, 2, none⟩) HNE.out (.bool true))
    have HX2 := Lib.hid (HX1.out.other (a := ⟨wb, 2, none⟩) HNE.out (.bool true))
    have HW1 := Lib.hid ((HW0.out.up ((Below.refl _ w).alloc (Nat.le_refl _) (.cells #[.int .i64 4, .string ra, .string rb, .slice ao n c] 72))).flag true)
    have HW2 := Lib.hid (HW1.out.flag true)
    have HK2 := Lib.hid (WKept.next (WKept.next (WKept.of ((Below.refl _ w).alloc (Nat.le_refl _) (.cells #[.int .i64 4, .string ra, .string rb, .slice ao n c] 72)) HBW.out) (WKept.flag (b := wb) HB.out (.bool true))) (WKept.flag (b := wb) HB.out (.bool true)))
    have x0 := HX.out.cells
    have x1 := HX1.out.cells
    have x2 := HX2.out.cells
    obtain ⟨e0, f0⟩ := (HW0.out.up ((Below.refl _ w).alloc (Nat.le_refl _) (.cells #[.int .i64 4, .string ra, .string rb, .slice ao n c] 72))).odd2
    obtain ⟨e1, f1⟩ := HW1.out.odd2
    obtain ⟨e2, f2⟩ := HW2.out.odd2
    go_enter Try.func100, Try.ntmps100
    go_wp2_with fail
    (try simp only [Exit.inBlock, Exit.then])
    refine bodyPost_ret (results_none rfl _ _ _) rfl ?_
    exact ⟨rfl, HW2.out, HK2.out⟩
  by_cases k5 : k = 5
  · subst k5
    have HX := Lib.hid (Blk.made w #[.int .i64 5, .string ra, .string rb, .slice ao n c] 72)
    have HX1 := Lib.hid (HX.out.other (a := ⟨wb, 2, none⟩) HNE.out (.bool true))
    have HX2 := Lib.hid (HX1.out.other (a := ⟨wb, 2, none⟩) HNE.out (.bool true))
    have HW1 := Lib.hid ((HW0.out.up ((Below.refl _ w).alloc (Nat.le_refl _) (.cells #[.int .i64 5, .string ra, .string rb, .slice ao n c] 72))).flag true)
    have HW2 := Lib.hid (HW1.out.flag true)
    have HK2 := Lib.hid (WKept.next (WKept.next (WKept.of ((Below.refl _ w).alloc (Nat.le_refl _) (.cells #[.int .i64 5, .string ra, .string rb, .slice ao n c] 72)) HBW.out) (WKept.flag (b := wb) HB.out (.bool true))) (WKept.flag (b := wb) HB.out (.bool true)))
    have x0 := HX.out.cells
    have x1 := HX1.out.cells
    have x2 := HX2.out.cells
    obtain ⟨e0, f0⟩ := (HW0.out.up ((Below.refl _ w).alloc (Nat.le_refl _) (.cells #[.int .i64 5, .string ra, .string rb, .slice ao n c] 72))).odd2
    obtain ⟨e1, f1⟩ := HW1.out.odd2
    obtain ⟨e2, f2⟩ := HW2.out.odd2
    go_enter Try.func100, Try.ntmps100
    go_wp2_with fail
    (try simp only [Exit.inBlock, Exit.then])
    refine bodyPost_ret (results_none rfl _ _ _) rfl ?_
    exact ⟨rfl, HW2.out, HK2.out⟩
  have q4 : (k == 4) = false := by rw [beq_eq_false_iff_ne]; exact k4
  have q5 : (k == 5) = false := by rw [beq_eq_false_iff_ne]; exact k5
  clear k4 k5
  have HX := Lib.hid (Blk.made w #[.int .i64 k, .string ra, .string rb, .slice ao n c] 72)
  have HX1 := Lib.hid (HX.out.other (a := ⟨wb, 2, none⟩) HNE.out (.bool true))
  have HX2 := Lib.hid (HX1.out.other (a := ⟨wb, 2, none⟩) HNE.out (.bool true))
  have HW1 := Lib.hid ((HW0.out.up ((Below.refl _ w).alloc (Nat.le_refl _) (.cells #[.int .i64 k, .string ra, .string rb, .slice ao n c] 72))).flag true)
  have HW2 := Lib.hid (HW1.out.flag true)
  have HK2 := Lib.hid (WKept.next (WKept.next (WKept.of ((Below.refl _ w).alloc (Nat.le_refl _) (.cells #[.int .i64 k, .string ra, .string rb, .slice ao n c] 72)) HBW.out) (WKept.flag (b := wb) HB.out (.bool true))) (WKept.flag (b := wb) HB.out (.bool true)))
  have x0 := HX.out.cells
  have x1 := HX1.out.cells
  have x2 := HX2.out.cells
  obtain ⟨e0, f0⟩ := (HW0.out.up ((Below.refl _ w).alloc (Nat.le_refl _) (.cells #[.int .i64 k, .string ra, .string rb, .slice ao n c] 72))).odd2
  obtain ⟨e1, f1⟩ := HW1.out.odd2
  obtain ⟨e2, f2⟩ := HW2.out.odd2
  go_enter Try.func100, Try.ntmps100
  go_wp2_with fail
  (try simp only [Exit.inBlock, Exit.then])
  refine bodyPost_ret (results_none rfl _ _ _) rfl ?_
  exact ⟨rfl, HW2.out, HK2.out⟩

set_option maxRecDepth 100000 in
set_option maxHeartbeats 2000000 in
theorem wrule_k {B wb : Nat} {text : ByteArray} {w : World} (k : Int) (ra rb : ByteArray) (n : Nat) (ao : Option Addr) (c : Nat) (d : Int) (h : WrB w B wb text false) (hBw : B ≤ w.heap.size) (q1 : (k == 1) = false) (q2 : (k == 2) = false) (q3 : (k == 3) = false) (q4 : (k == 4) = false) (q5 : (k == 5) = false) :
    Calls Try.prog 100 #[.pointer (some ⟨wb, 0, none⟩), .agg #[.int .i64 k, .string ra, .string rb, .slice ao n c], .int .i64 d] w (WRes B wb w text (false) (⟨#[]⟩) (10 + ra.size + rb.size)) := by
  have HW0 := Lib.hid h
  have HB := Lib.hid h.1
  have HBW := Lib.hid hBw
  have HNE := Lib.hid (show w.heap.size ≠ wb from by have := h.lt; omega)
  clear h hBw
  have q2n : (k != 2) = true := by rw [bne, q2]; rfl
  have q3n : (k != 3) = true := by rw [bne, q3]; rfl
  by_cases hlp : 0 < n
  · have hpI : (0 : Int) < (n : Int) := by omega
    clear hlp
    have HX := Lib.hid (Blk.made w #[.int .i64 k, .string ra, .string rb, .slice ao n c] 72)
    have HX1 := Lib.hid (HX.out.other (a := ⟨wb, 2, none⟩) HNE.out (.bool true))
    have HX2 := Lib.hid (HX1.out.other (a := ⟨wb, 2, none⟩) HNE.out (.bool true))
    have HW1 := Lib.hid ((HW0.out.up ((Below.refl _ w).alloc (Nat.le_refl _) (.cells #[.int .i64 k, .string ra, .string rb, .slice ao n c] 72))).flag true)
    have HW2 := Lib.hid (HW1.out.flag true)
    have HK2 := Lib.hid (WKept.next (WKept.next (WKept.of ((Below.refl _ w).alloc (Nat.le_refl _) (.cells #[.int .i64 k, .string ra, .string rb, .slice ao n c] 72)) HBW.out) (WKept.flag (b := wb) HB.out (.bool true))) (WKept.flag (b := wb) HB.out (.bool true)))
    have x0 := HX.out.cells
    have x1 := HX1.out.cells
    have x2 := HX2.out.cells
    obtain ⟨e0, f0⟩ := (HW0.out.up ((Below.refl _ w).alloc (Nat.le_refl _) (.cells #[.int .i64 k, .string ra, .string rb, .slice ao n c] 72))).odd2
    obtain ⟨e1, f1⟩ := HW1.out.odd2
    obtain ⟨e2, f2⟩ := HW2.out.odd2
    go_enter Try.func100, Try.ntmps100
    go_wp2_with fail
    (try simp only [Exit.inBlock, Exit.then])
    refine bodyPost_ret (results_none rfl _ _ _) rfl ?_
    exact WRes.bad HW2.out HK2.out
  · obtain rfl : n = 0 := by omega
    clear hlp
    by_cases hnrb : rb.size = 0
    · obtain rfl := ba_size_eq hnrb
      clear hnrb
      by_cases hnra : ra.size = 0
      · obtain rfl := ba_size_eq hnra
        clear hnra
        have HX := Lib.hid (Blk.made w #[.int .i64 k, .string ⟨#[]⟩, .string ⟨#[]⟩, .slice ao 0 c] 72)
        have HX1 := Lib.hid (HX.out.other (a := ⟨wb, 2, none⟩) HNE.out (.bool false))
        have HX2 := Lib.hid (HX1.out.other (a := ⟨wb, 2, none⟩) HNE.out (.bool false))
        have HW1 := Lib.hid ((HW0.out.up ((Below.refl _ w).alloc (Nat.le_refl _) (.cells #[.int .i64 k, .string ⟨#[]⟩, .string ⟨#[]⟩, .slice ao 0 c] 72))).flag false)
        have HW2 := Lib.hid (HW1.out.flag false)
        have HW3 := Lib.hid (HW2.out.flag true)
        have HK3 := Lib.hid (WKept.next (WKept.next (WKept.next (WKept.of ((Below.refl _ w).alloc (Nat.le_refl _) (.cells #[.int .i64 k, .string ⟨#[]⟩, .string ⟨#[]⟩, .slice ao 0 c] 72)) HBW.out) (WKept.flag (b := wb) HB.out (.bool false))) (WKept.flag (b := wb) HB.out (.bool false))) (WKept.flag (b := wb) HB.out (.bool true)))
        have x0 := HX.out.cells
        have x1 := HX1.out.cells
        have x2 := HX2.out.cells
        obtain ⟨e0, f0⟩ := (HW0.out.up ((Below.refl _ w).alloc (Nat.le_refl _) (.cells #[.int .i64 k, .string ⟨#[]⟩, .string ⟨#[]⟩, .slice ao 0 c] 72))).odd2
        obtain ⟨e1, f1⟩ := HW1.out.odd2
        obtain ⟨e2, f2⟩ := HW2.out.odd2
        go_enter Try.func100, Try.ntmps100
        go_wp2_with fail
        go_end0
        exact WRes.bad HW3.out HK3.out
      · have hnera := ba_size_ne hnra
        clear hnra
        have HX := Lib.hid (Blk.made w #[.int .i64 k, .string ra, .string ⟨#[]⟩, .slice ao 0 c] 72)
        have HX1 := Lib.hid (HX.out.other (a := ⟨wb, 2, none⟩) HNE.out (.bool false))
        have HX2 := Lib.hid (HX1.out.other (a := ⟨wb, 2, none⟩) HNE.out (.bool true))
        have HW1 := Lib.hid ((HW0.out.up ((Below.refl _ w).alloc (Nat.le_refl _) (.cells #[.int .i64 k, .string ra, .string ⟨#[]⟩, .slice ao 0 c] 72))).flag false)
        have HW2 := Lib.hid (HW1.out.flag true)
        have HK2 := Lib.hid (WKept.next (WKept.next (WKept.of ((Below.refl _ w).alloc (Nat.le_refl _) (.cells #[.int .i64 k, .string ra, .string ⟨#[]⟩, .slice ao 0 c] 72)) HBW.out) (WKept.flag (b := wb) HB.out (.bool false))) (WKept.flag (b := wb) HB.out (.bool true)))
        have x0 := HX.out.cells
        have x1 := HX1.out.cells
        have x2 := HX2.out.cells
        obtain ⟨e0, f0⟩ := (HW0.out.up ((Below.refl _ w).alloc (Nat.le_refl _) (.cells #[.int .i64 k, .string ra, .string ⟨#[]⟩, .slice ao 0 c] 72))).odd2
        obtain ⟨e1, f1⟩ := HW1.out.odd2
        obtain ⟨e2, f2⟩ := HW2.out.odd2
        go_enter Try.func100, Try.ntmps100
        go_wp2_with fail
        (try simp only [Exit.inBlock, Exit.then])
        refine bodyPost_ret (results_none rfl _ _ _) rfl ?_
        exact WRes.bad HW2.out HK2.out
    · have hnerb := ba_size_ne hnrb
      clear hnrb
      have HX := Lib.hid (Blk.made w #[.int .i64 k, .string ra, .string rb, .slice ao 0 c] 72)
      have HX1 := Lib.hid (HX.out.other (a := ⟨wb, 2, none⟩) HNE.out (.bool false))
      have HX2 := Lib.hid (HX1.out.other (a := ⟨wb, 2, none⟩) HNE.out (.bool true))
      have HW1 := Lib.hid ((HW0.out.up ((Below.refl _ w).alloc (Nat.le_refl _) (.cells #[.int .i64 k, .string ra, .string rb, .slice ao 0 c] 72))).flag false)
      have HW2 := Lib.hid (HW1.out.flag true)
      have HK2 := Lib.hid (WKept.next (WKept.next (WKept.of ((Below.refl _ w).alloc (Nat.le_refl _) (.cells #[.int .i64 k, .string ra, .string rb, .slice ao 0 c] 72)) HBW.out) (WKept.flag (b := wb) HB.out (.bool false))) (WKept.flag (b := wb) HB.out (.bool true)))
      have x0 := HX.out.cells
      have x1 := HX1.out.cells
      have x2 := HX2.out.cells
      obtain ⟨e0, f0⟩ := (HW0.out.up ((Below.refl _ w).alloc (Nat.le_refl _) (.cells #[.int .i64 k, .string ra, .string rb, .slice ao 0 c] 72))).odd2
      obtain ⟨e1, f1⟩ := HW1.out.odd2
      obtain ⟨e2, f2⟩ := HW2.out.odd2
      go_enter Try.func100, Try.ntmps100
      go_wp2_with fail
      (try simp only [Exit.inBlock, Exit.then])
      refine bodyPost_ret (results_none rfl _ _ _) rfl ?_
      exact WRes.bad HW2.out HK2.out

end Go.Proofs.Ytipddhcfcehcaaa
namespace Go.Proofs.Ytipddhcfcehcaaa
open Go Go.RowKit

/-- Is what a rule's head names there? -/
def headOk (ts : List TyS) (t : TyS) (k : Int) (a b : ByteArray) : Bool := !((k == 2 && !hasT t a) || (k == 3 && (!hasT t a || !anyT ts b)))
mutual
/-- Is all that a rule names there? -/
def RT.named (ts : List TyS) (t : TyS) : RT → Bool | .mk k a b ps => headOk ts t k a b && namedL ts t ps
def namedL (ts : List TyS) (t : TyS) : List RT → Bool | [] => true | r :: rs => r.named ts t && namedL ts t rs
end
theorem namedL_eq (ts : List TyS) (t : TyS) : ∀ l : List RT, namedL ts t l = l.all fun r => r.named ts t
  | [] => rfl
  | r :: rs => by rw [namedL, List.all_cons, namedL_eq ts t rs]
theorem RT.named_eq (ts : List TyS) (t : TyS) (r : RT) : r.named ts t = (!((r.k == 2 && !hasT t r.a) || (r.k == 3 && (!hasT t r.a || !anyT ts r.b))) && r.ps.all fun r => r.named ts t) := by
  obtain ⟨k, a, b, ps⟩ := r
  rw [RT.named, namedL_eq]
  rfl

set_option maxRecDepth 100000 in
set_option maxHeartbeats 4000000 in
theorem named06_any (ts : List TyS) (t : TyS) (tv rv : Value) (r : RT) : ∀ (pv : Value) (w : World), TysAt (· < w.heap.size) w ts tv → RelsAt (· < w.heap.size) w t.rels rv → RTAt (· < w.heap.size) w r pv → Calls Try.prog 57 #[.agg #[tv], .agg #[.string t.name, rv], rV r pv] w fun e w' => e = .returned (.bool (r.named ts t)) ∧ Below w.heap.size w w' := by
  induction r using RT.ind with
  | h r ih =>
  intro pv w hts hrs hat
  obtain ⟨ao, c, rfl, hlc, hcm, hcell⟩ := hat.rows
  obtain ⟨to, tc, htv, -⟩ := hts.rows
  obtain ⟨ro, rc, hrv, -⟩ := hrs.rows
  have HC := Lib.hid hcell
  have HI := Lib.hid ih
  have HTS := Lib.hid hts
  have HRS := Lib.hid hrs
  have HE := Lib.hid (r.named_eq ts t)
  have HT := Lib.hid (fun (w' : World) (hb : Below w.heap.size w w') => has_any t rv r.a w' (hrs.up hb))
  have HA := Lib.hid (fun (w' : World) (hb : Below w.heap.size w w') => anywhere_any ts tv r.b w' (hts.up hb))
  clear hat hcell ih hts hrs
  generalize r.named ts t = g at *
  unfold rV
  generalize r.ps = ps at *
  generalize r.k = k at *
  generalize r.a = ra at *
  generalize r.b = rb at *
  generalize hasT t ra = ha at *
  generalize anyT ts rb = hb at *
  obtain ⟨w3, hw3⟩ : ∃ w3, w3 = ((w.alloc (.cells #[tv] 24)).alloc (.cells #[.string t.name, rv] 49)).alloc (.cells #[.int .i64 k, .string ra, .string rb, .slice ao ps.length c] 72) := ⟨_, rfl⟩
  have hS3 : Blk w3 w.heap.size #[tv] 24 := by rw [hw3]; exact ((Blk.made w #[tv] 24).alloc _).alloc _
  have hT3 : Blk w3 (w.heap.size + 1) #[.string t.name, rv] 49 := by rw [hw3]; exact (Blk.made' (w := w.alloc (.cells #[tv] 24)) (B := w.heap.size + 1) (by simp) #[.string t.name, rv] 49).alloc _
  have hR3 : Blk w3 (w.heap.size + 2) #[.int .i64 k, .string ra, .string rb, .slice ao ps.length c] 72 := by rw [hw3]; exact Blk.made' (w := (w.alloc (.cells #[tv] 24)).alloc (.cells #[.string t.name, rv] 49)) (B := w.heap.size + 2) (by simp) #[.int .i64 k, .string ra, .string rb, .slice ao ps.length c] 72
  have hb3 : Below w.heap.size w w3 := by rw [hw3]; exact (((Below.refl _ _).alloc (Nat.le_refl _) _).alloc (by simp) _).alloc (by simp; omega) _
  subst htv hrv
  have HS3 := Lib.hid hS3
  have HT3 := Lib.hid hT3
  have HR3 := Lib.hid hR3
  have HB3 := Lib.hid hb3
  have HW3 := Lib.hid hw3
  clear hS3 hT3 hR3 hb3 hw3
  have hch : (k = 2 ∧ ha = false) ∨ (k = 2 ∧ ha = true) ∨ (k = 3 ∧ ha = false) ∨ (k = 3 ∧ ha = true ∧ hb = false) ∨ (k = 3 ∧ ha = true ∧ hb = true) ∨ (k ≠ 2 ∧ k ≠ 3) := by
    cases ha <;> cases hb <;> simp <;> omega
  have HCE := Lib.hid (show ∀ W, Below w3.heap.size w3 W → (∀ i, W.cell? ⟨w.heap.size, i, none⟩ = (#[.slice to ts.length tc] : Array Value)[i]?) ∧ (∀ i, W.cell? ⟨w.heap.size + 1, i, none⟩ = (#[.string t.name, .slice ro t.rels.length rc] : Array Value)[i]?) ∧ (∀ i, W.cell? ⟨w.heap.size + 2, i, none⟩ = (#[.int .i64 k, .string ra, .string rb, .slice ao ps.length c] : Array Value)[i]?) from fun W hW => ⟨(HS3.out.below hW).cells, (HT3.out.below hW).cells, (HR3.out.below hW).cells⟩)
  obtain ⟨cS, cT, cR⟩ := HCE.out w3 (Below.refl _ _)
  rw [HW3.out] at cS cT cR
  go_enter Try.func57, Try.ntmps57
  rcases hch with ⟨rfl, rfl⟩ | ⟨rfl, rfl⟩ | ⟨rfl, rfl⟩ | ⟨rfl, rfl, rfl⟩ | ⟨rfl, rfl, rfl⟩ | ⟨h2, h3⟩
  · have HG := Lib.hid (show g = false from by rw [HE.out]; rfl)
    go_wp2_with fail
    rw [← HW3.out]
    clear cS cT cR
    refine (HT.out w3 HB3.out).mono ?_
    rintro e w4 ⟨rfl, hb4⟩
    obtain ⟨cS, cT, cR⟩ := HCE.out w4 hb4
    have HBE := Lib.hid (HB3.out.trans (hb4.mono HB3.out.size))
    clear hb4
    go_wp2_with fail
    go_ret
    exact ⟨by rw [HG.out]; rfl, HBE.out⟩
  · have HG := Lib.hid (show g = ps.all fun r => r.named ts t from by rw [HE.out]; simp)
    go_wp2_with fail
    rw [← HW3.out]
    clear cS cT cR
    refine (HT.out w3 HB3.out).mono ?_
    rintro e w4 ⟨rfl, hb4⟩
    obtain ⟨cS, cT, cR⟩ := HCE.out w4 hb4
    have HBL := Lib.hid hb4
    clear hb4
    go_wp2_with fail
    try rw [← HW3.out]
    clear cS cT cR
    go_loopw [41] (fun ii wr => ∃ i : Nat, i ≤ ps.length ∧ ii = .int .i64 i ∧ (∀ j (hj : j < ps.length), j < i → ps[j].named ts t = true) ∧ Below w3.heap.size w3 wr) (fun ii _ => ps.length - (intOf ii).toNat)
    case atStart => exact ⟨0, by omega, rfl, fun _ _ h => absurd h (by omega), HBL.out⟩
    case round =>
      obtain ⟨i, hi, rfl, hall, hb3r⟩ := hrel
      have HALL := Lib.hid hall
      have hbel : Below w.heap.size w wr := HB3.out.trans (hb3r.mono HB3.out.size)
      clear HBL hall
      by_cases hlt : i < ps.length
      · have HUP := fun h => Lib.hid (upto_succ (p := fun j hj => ps[j].named ts t = true) HALL.out hlt h)
        have HAN := fun (h : ps[i].named ts t = false) => Lib.hid (show g = false from by rw [HG.out]; exact List.all_eq_false.2 ⟨ps[i], List.getElem_mem hlt, by rw [h]; exact Bool.false_ne_true⟩)
        obtain ⟨b, off, pv2, hbo, hb, c0, c1, c2, c3, hat2⟩ := HC.out i hlt
        cases hbo
        have d0 := (hbel.cell (p := ⟨b, off + i * 4, none⟩) hb).trans c0
        have d1 := (hbel.cell (p := ⟨b, off + i * 4 + 1, none⟩) hb).trans c1
        have d2 := (hbel.cell (p := ⟨b, off + i * 4 + 2, none⟩) hb).trans c2
        have d3 := (hbel.cell (p := ⟨b, off + i * 4 + 3, none⟩) hb).trans c3
        obtain ⟨ao2, c2', rfl, -⟩ := hat2.rows
        have hb1 := hbel.alloc hbel.size (.cells #[.int .i64 ps[i].k, .string ps[i].a, .string ps[i].b, .slice ao2 ps[i].ps.length c2'] 72)
        have hat3 := hat2.up hb1
        have hbx := (Blk.made wr #[.int .i64 ps[i].k, .string ps[i].a, .string ps[i].b, .slice ao2 ps[i].ps.length c2'] 72).cells
        have HB1 := Lib.hid hb1
        clear c0 c1 c2 c3 hat2 hb1 hbel
        have HB3R := Lib.hid (hb3r.alloc hb3r.size (.cells #[.int .i64 ps[i].k, .string ps[i].a, .string ps[i].b, .slice ao2 ps[i].ps.length c2'] 72))
        obtain ⟨cS, cT, cR⟩ := HCE.out _ HB3R.out
        have HR := Lib.hid (HI.out ps[i] (List.getElem_mem hlt) _ _ (HTS.out.up HB1.out) (HRS.out.up HB1.out) hat3)
        unfold rV at HR
        clear hat3 hb3r
        generalize ps[i] = p at *
        cases hx : p.named ts t with
        | true =>
          rw [hx] at HR
          have HN := HUP hx
          clear HUP HAN hx
          go_wp2_with fail
          refine HR.out.mono ?_
          rintro e w6 ⟨rfl, hb6⟩
          have HB6 := Lib.hid (HB3R.out.trans (hb6.mono HB3R.out.size))
          clear HR hb6 hbx d0 d1 d2 d3 HB1 cS cT cR
          go_wp2_with fail
          go_roundw
          case rel => exact ⟨i + 1, by omega, by go_num, HN.out, HB6.out⟩
          case measure => simp [intOf]; omega
        | false =>
          rw [hx] at HR
          have HF := HAN hx
          clear HUP HAN hx
          go_wp2_with fail
          refine HR.out.mono ?_
          rintro e w6 ⟨rfl, hb6⟩
          have HB6 := Lib.hid (HB1.out.trans (hb6.mono HB1.out.size))
          clear HR hb6 hbx d0 d1 d2 d3 HB1 cS cT cR
          go_wp2_with fail
          go_ret
          exact ⟨by rw [HF.out]; rfl, HB6.out⟩
      · obtain rfl : i = ps.length := by omega
        have HF := Lib.hid (show g = true from by
          rw [HG.out, List.all_eq_true]
          intro x hx
          obtain ⟨j, hj, rfl⟩ := List.getElem_of_mem hx
          exact HALL.out j hj hj)
        have HBE := Lib.hid hbel
        clear hbel
        go_wp2_with fail
        go_ret
        exact ⟨by rw [HF.out]; rfl, HBE.out⟩
  · have HG := Lib.hid (show g = false from by rw [HE.out]; simp)
    go_wp2_with fail
    rw [← HW3.out]
    clear cS cT cR
    refine (HT.out w3 HB3.out).mono ?_
    rintro e w4 ⟨rfl, hb4⟩
    obtain ⟨cS, cT, cR⟩ := HCE.out w4 hb4
    have HBE := Lib.hid (HB3.out.trans (hb4.mono HB3.out.size))
    clear hb4
    go_wp2_with fail
    go_ret
    exact ⟨by rw [HG.out]; rfl, HBE.out⟩
  · have HG := Lib.hid (show g = false from by rw [HE.out]; simp)
    go_wp2_with fail
    rw [← HW3.out]
    clear cS cT cR
    refine (HT.out w3 HB3.out).mono ?_
    rintro e w4 ⟨rfl, hb4⟩
    obtain ⟨cS, cT, cR⟩ := HCE.out w4 hb4
    have HA4 := Lib.hid (HA.out w4 (HB3.out.trans (hb4.mono HB3.out.size)))
    go_wp2_with fail
    clear cS cT cR
    refine HA4.out.mono ?_
    rintro e w5 ⟨rfl, hb5⟩
    replace hb4 := hb4.trans (hb5.mono hb4.size)
    clear HA4 hb5
    obtain ⟨cS, cT, cR⟩ := HCE.out w5 hb4
    have HBE := Lib.hid (HB3.out.trans (hb4.mono HB3.out.size))
    clear hb4
    go_wp2_with fail
    go_ret
    exact ⟨by rw [HG.out]; rfl, HBE.out⟩
  · have HG := Lib.hid (show g = ps.all fun r => r.named ts t from by rw [HE.out]; simp)
    go_wp2_with fail
    rw [← HW3.out]
    clear cS cT cR
    refine (HT.out w3 HB3.out).mono ?_
    rintro e w4 ⟨rfl, hb4⟩
    obtain ⟨cS, cT, cR⟩ := HCE.out w4 hb4
    have HA4 := Lib.hid (HA.out w4 (HB3.out.trans (hb4.mono HB3.out.size)))
    go_wp2_with fail
    clear cS cT cR
    refine HA4.out.mono ?_
    rintro e w5 ⟨rfl, hb5⟩
    replace hb4 := hb4.trans (hb5.mono hb4.size)
    clear HA4 hb5
    obtain ⟨cS, cT, cR⟩ := HCE.out w5 hb4
    have HBL := Lib.hid hb4
    clear hb4
    go_wp2_with fail
    try rw [← HW3.out]
    clear cS cT cR
    go_loopw [41] (fun ii wr => ∃ i : Nat, i ≤ ps.length ∧ ii = .int .i64 i ∧ (∀ j (hj : j < ps.length), j < i → ps[j].named ts t = true) ∧ Below w3.heap.size w3 wr) (fun ii _ => ps.length - (intOf ii).toNat)
    case atStart => exact ⟨0, by omega, rfl, fun _ _ h => absurd h (by omega), HBL.out⟩
    case round =>
      obtain ⟨i, hi, rfl, hall, hb3r⟩ := hrel
      have HALL := Lib.hid hall
      have hbel : Below w.heap.size w wr := HB3.out.trans (hb3r.mono HB3.out.size)
      clear HBL hall
      by_cases hlt : i < ps.length
      · have HUP := fun h => Lib.hid (upto_succ (p := fun j hj => ps[j].named ts t = true) HALL.out hlt h)
        have HAN := fun (h : ps[i].named ts t = false) => Lib.hid (show g = false from by rw [HG.out]; exact List.all_eq_false.2 ⟨ps[i], List.getElem_mem hlt, by rw [h]; exact Bool.false_ne_true⟩)
        obtain ⟨b, off, pv2, hbo, hb, c0, c1, c2, c3, hat2⟩ := HC.out i hlt
        cases hbo
        have d0 := (hbel.cell (p := ⟨b, off + i * 4, none⟩) hb).trans c0
        have d1 := (hbel.cell (p := ⟨b, off + i * 4 + 1, none⟩) hb).trans c1
        have d2 := (hbel.cell (p := ⟨b, off + i * 4 + 2, none⟩) hb).trans c2
        have d3 := (hbel.cell (p := ⟨b, off + i * 4 + 3, none⟩) hb).trans c3
        obtain ⟨ao2, c2', rfl, -⟩ := hat2.rows
        have hb1 := hbel.alloc hbel.size (.cells #[.int .i64 ps[i].k, .string ps[i].a, .string ps[i].b, .slice ao2 ps[i].ps.length c2'] 72)
        have hat3 := hat2.up hb1
        have hbx := (Blk.made wr #[.int .i64 ps[i].k, .string ps[i].a, .string ps[i].b, .slice ao2 ps[i].ps.length c2'] 72).cells
        have HB1 := Lib.hid hb1
        clear c0 c1 c2 c3 hat2 hb1 hbel
        have HB3R := Lib.hid (hb3r.alloc hb3r.size (.cells #[.int .i64 ps[i].k, .string ps[i].a, .string ps[i].b, .slice ao2 ps[i].ps.length c2'] 72))
        obtain ⟨cS, cT, cR⟩ := HCE.out _ HB3R.out
        have HR := Lib.hid (HI.out ps[i] (List.getElem_mem hlt) _ _ (HTS.out.up HB1.out) (HRS.out.up HB1.out) hat3)
        unfold rV at HR
        clear hat3 hb3r
        generalize ps[i] = p at *
        cases hx : p.named ts t with
        | true =>
          rw [hx] at HR
          have HN := HUP hx
          clear HUP HAN hx
          go_wp2_with fail
          refine HR.out.mono ?_
          rintro e w6 ⟨rfl, hb6⟩
          have HB6 := Lib.hid (HB3R.out.trans (hb6.mono HB3R.out.size))
          clear HR hb6 hbx d0 d1 d2 d3 HB1 cS cT cR
          go_wp2_with fail
          go_roundw
          case rel => exact ⟨i + 1, by omega, by go_num, HN.out, HB6.out⟩
          case measure => simp [intOf]; omega
        | false =>
          rw [hx] at HR
          have HF := HAN hx
          clear HUP HAN hx
          go_wp2_with fail
          refine HR.out.mono ?_
          rintro e w6 ⟨rfl, hb6⟩
          have HB6 := Lib.hid (HB1.out.trans (hb6.mono HB1.out.size))
          clear HR hb6 hbx d0 d1 d2 d3 HB1 cS cT cR
          go_wp2_with fail
          go_ret
          exact ⟨by rw [HF.out]; rfl, HB6.out⟩
      · obtain rfl : i = ps.length := by omega
        have HF := Lib.hid (show g = true from by
          rw [HG.out, List.all_eq_true]
          intro x hx
          obtain ⟨j, hj, rfl⟩ := List.getElem_of_mem hx
          exact HALL.out j hj hj)
        have HBE := Lib.hid hbel
        clear hbel
        go_wp2_with fail
        go_ret
        exact ⟨by rw [HF.out]; rfl, HBE.out⟩
  · have hk2 : (k == 2) = false := by rw [beq_eq_false_iff_ne]; exact h2
    have hk3 : (k == 3) = false := by rw [beq_eq_false_iff_ne]; exact h3
    have HG := Lib.hid (show g = ps.all fun r => r.named ts t from by rw [HE.out, hk2, hk3]; simp)
    clear h2 h3
    have HBL := Lib.hid (Below.refl w3.heap.size w3)
    go_wp2_with fail
    try rw [← HW3.out]

    go_loopw [41] (fun ii wr => ∃ i : Nat, i ≤ ps.length ∧ ii = .int .i64 i ∧ (∀ j (hj : j < ps.length), j < i → ps[j].named ts t = true) ∧ Below w3.heap.size w3 wr) (fun ii _ => ps.length - (intOf ii).toNat)
    case atStart => exact ⟨0, by omega, rfl, fun _ _ h => absurd h (by omega), HBL.out⟩
    case round =>
      obtain ⟨i, hi, rfl, hall, hb3r⟩ := hrel
      have HALL := Lib.hid hall
      have hbel : Below w.heap.size w wr := HB3.out.trans (hb3r.mono HB3.out.size)
      clear HBL hall
      by_cases hlt : i < ps.length
      · have HUP := fun h => Lib.hid (upto_succ (p := fun j hj => ps[j].named ts t = true) HALL.out hlt h)
        have HAN := fun (h : ps[i].named ts t = false) => Lib.hid (show g = false from by rw [HG.out]; exact List.all_eq_false.2 ⟨ps[i], List.getElem_mem hlt, by rw [h]; exact Bool.false_ne_true⟩)
        obtain ⟨b, off, pv2, hbo, hb, c0, c1, c2, c3, hat2⟩ := HC.out i hlt
        cases hbo
        have d0 := (hbel.cell (p := ⟨b, off + i * 4, none⟩) hb).trans c0
        have d1 := (hbel.cell (p := ⟨b, off + i * 4 + 1, none⟩) hb).trans c1
        have d2 := (hbel.cell (p := ⟨b, off + i * 4 + 2, none⟩) hb).trans c2
        have d3 := (hbel.cell (p := ⟨b, off + i * 4 + 3, none⟩) hb).trans c3
        obtain ⟨ao2, c2', rfl, -⟩ := hat2.rows
        have hb1 := hbel.alloc hbel.size (.cells #[.int .i64 ps[i].k, .string ps[i].a, .string ps[i].b, .slice ao2 ps[i].ps.length c2'] 72)
        have hat3 := hat2.up hb1
        have hbx := (Blk.made wr #[.int .i64 ps[i].k, .string ps[i].a, .string ps[i].b, .slice ao2 ps[i].ps.length c2'] 72).cells
        have HB1 := Lib.hid hb1
        clear c0 c1 c2 c3 hat2 hb1 hbel
        have HB3R := Lib.hid (hb3r.alloc hb3r.size (.cells #[.int .i64 ps[i].k, .string ps[i].a, .string ps[i].b, .slice ao2 ps[i].ps.length c2'] 72))
        obtain ⟨cS, cT, cR⟩ := HCE.out _ HB3R.out
        have HR := Lib.hid (HI.out ps[i] (List.getElem_mem hlt) _ _ (HTS.out.up HB1.out) (HRS.out.up HB1.out) hat3)
        unfold rV at HR
        clear hat3 hb3r
        generalize ps[i] = p at *
        cases hx : p.named ts t with
        | true =>
          rw [hx] at HR
          have HN := HUP hx
          clear HUP HAN hx
          go_wp2_with fail
          refine HR.out.mono ?_
          rintro e w6 ⟨rfl, hb6⟩
          have HB6 := Lib.hid (HB3R.out.trans (hb6.mono HB3R.out.size))
          clear HR hb6 hbx d0 d1 d2 d3 HB1 cS cT cR
          go_wp2_with fail
          go_roundw
          case rel => exact ⟨i + 1, by omega, by go_num, HN.out, HB6.out⟩
          case measure => simp [intOf]; omega
        | false =>
          rw [hx] at HR
          have HF := HAN hx
          clear HUP HAN hx
          go_wp2_with fail
          refine HR.out.mono ?_
          rintro e w6 ⟨rfl, hb6⟩
          have HB6 := Lib.hid (HB1.out.trans (hb6.mono HB1.out.size))
          clear HR hb6 hbx d0 d1 d2 d3 HB1 cS cT cR
          go_wp2_with fail
          go_ret
          exact ⟨by rw [HF.out]; rfl, HB6.out⟩
      · obtain rfl : i = ps.length := by omega
        have HF := Lib.hid (show g = true from by
          rw [HG.out, List.all_eq_true]
          intro x hx
          obtain ⟨j, hj, rfl⟩ := List.getElem_of_mem hx
          exact HALL.out j hj hj)
        have HBE := Lib.hid hbel
        clear hbel
        go_wp2_with fail
        go_ret
        exact ⟨by rw [HF.out]; rfl, HBE.out⟩

end Go.Proofs.Ytipddhcfcehcaaa
