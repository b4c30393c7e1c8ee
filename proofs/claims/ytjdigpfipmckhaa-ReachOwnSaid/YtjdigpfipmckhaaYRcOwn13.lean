/- Lemmas for the claim, no condition. -/
import Derived.Test.YtjdigpfipmckhaaYRcOwn3
import Derived.Test.YtjdigpfipmckhaaYRcOwn0
namespace Go.Proofs.Ytjdigpfipmckhaa
open Go Go.RowKit
theorem kept_freeze {K : Nat → Prop} {w w' : World} (h : Kept K w w') {p : Addr} (hp : ¬ K p.block) (n : Nat) : Kept K w (w'.freeze p n) := by
  have hb := Lib.below_freeze (B := 0) (Below.refl 0 w') (p := p) (Nat.zero_le _) n
  refine h.trans ⟨hb.os, hb.tape, hb.output, hb.size, fun x hx => ?_⟩
  have hne : x ≠ p.block := fun e => hp (e ▸ hx)
  unfold World.freeze
  split
  · rfl
  · simp only [Array.getElem?_modify]
    rw [if_neg (Ne.symm hne)]
set_option maxRecDepth 100000 in
set_option maxHeartbeats 2000000 in
theorem wname_any {B b : Nat} {text : ByteArray} {odd : Bool} {w : World} (s : ByteArray) (h : WrB w B b text odd) (hlen : text.size + s.size ≤ 140737488355328) (hpos : 0 < text.size) (hs : s.size ≤ maxLen) (hBw : B ≤ w.heap.size) :
    Calls Try.prog 51 #[.pointer (some ⟨b, 0, none⟩), .string s] w fun e w' => e = .returned (.tuple #[]) ∧ WrB w' B b (text ++ s) (odd || !ownB s) ∧ WKept B b w w' := by
  have HN := Lib.hid (isName_any s hs w)
  obtain ⟨hc, hf⟩ := h.odd2
  have hB := h.1
  have HB := Lib.hid hB
  have HW := Lib.hid (fun o => writeString_any s (h.flag o) hlen (by omega) (by simpa using hBw))
  have HK := Lib.hid (fun v => WKept.flag (w := w) hB v)
  clear h hlen hpos hs hBw
  cases odd with
  | true =>
    go_enter Try.func51, Try.ntmps51
    go_wp2_with fail
    refine (HW.out true).mono ?_
    rintro e w2 ⟨rfl, hw, hk⟩
    have HF := Lib.hid hw
    have HE := Lib.hid (WKept.next (HK.out _) hk)
    clear HW hw hk hc hf HN
    go_wp2_with fail
    go_end0
    exact ⟨rfl, by rw [Bool.true_or]; exact HF.out, HE.out⟩
  | false =>
    cases hn : isNm s with
    | false =>
      rw [hn] at HN
      have HV := Lib.hid (show (false || !ownB s) = true from by rw [ownB, hn]; rfl)
      clear hn
      go_enter Try.func51, Try.ntmps51
      go_wp2_with fail
      refine HN.out.mono ?_
      rintro e w1 ⟨rfl, h1⟩
      have h2 := h1.symm
      subst h2
      clear h1 HN
      go_wp2_with fail
      refine (HW.out true).mono ?_
      rintro e w2 ⟨rfl, hw, hk⟩
      have HF := Lib.hid hw
      have HE := Lib.hid (WKept.next (HK.out _) hk)
      clear HW hw hk hc hf
      go_wp2_with fail
      go_end0
      exact ⟨rfl, by rw [HV.out]; exact HF.out, HE.out⟩
    | true =>
      rw [hn] at HN
      by_cases he : s = ⟨#[116, 104, 105, 115]⟩
      · have HV := Lib.hid (show (false || !ownB s) = true from by rw [ownB, he]; simp)
        subst he
        clear hn
        go_enter Try.func51, Try.ntmps51
        go_wp2_with fail
        refine HN.out.mono ?_
        rintro e w1 ⟨rfl, h1⟩
        have h2 := h1.symm
        subst h2
        clear h1 HN
        go_wp2_with fail
        refine (HW.out true).mono ?_
        rintro e w2 ⟨rfl, hw, hk⟩
        have HF := Lib.hid hw
        have HE := Lib.hid (WKept.next (HK.out _) hk)
        clear HW hw hk hc hf
        go_wp2_with fail
        go_end0
        exact ⟨rfl, by rw [HV.out]; exact HF.out, HE.out⟩
      · have HV := Lib.hid (show (false || !ownB s) = false from by rw [ownB, hn]; simp [he])
        have hne := ba_beq' he
        rw [← ByteArray.toList_eq, show (⟨#[116, 104, 105, 115]⟩ : ByteArray).data.toList = [116, 104, 105, 115] from rfl] at hne
        clear hn he
        go_enter Try.func51, Try.ntmps51
        go_wp2_with fail
        refine HN.out.mono ?_
        rintro e w1 ⟨rfl, h1⟩
        have h2 := h1.symm
        subst h2
        clear h1 HN
        go_wp2_with fail
        refine (HW.out false).mono ?_
        rintro e w2 ⟨rfl, hw, hk⟩
        have HF := Lib.hid hw
        have HE := Lib.hid (WKept.next (HK.out _) hk)
        clear HW hw hk hc hf
        go_wp2_with fail
        go_end0
        exact ⟨rfl, by rw [HV.out]; exact HF.out, HE.out⟩
set_option maxRecDepth 100000 in
set_option maxHeartbeats 2000000 in
theorem wstring_any {B b : Nat} {text : ByteArray} {odd : Bool} {w : World} (h : WrB w B b text odd) :
    Calls Try.prog 53 #[.pointer (some ⟨b, 0, none⟩)] w fun e w' => e = .returned (.string text) ∧ Below B w w' := by
  obtain ⟨hB, p, v, hp, hbk, hown, hnil⟩ := h
  have hUSn : ∀ (W : World) (q : Option Addr), (Builtin.unsafeString_ #[151, 3] 9 #[.pointer q, .int .i64 0]).run Try.prog W = .ok (.string .empty) W := fun W q => Lib.run_unsafeString_none W 151 3 9 q
  by_cases hs : text.size = 0
  · obtain rfl := hnil hs
    obtain rfl := ba_size_eq hs
    have c1 : w.drew.cell? ⟨b, 1, none⟩ = some (.slice none 0 0) := hbk.drew.cells 1
    have hSD : (Builtin.unsafeSliceData_ #[22] 151 #[.slice none 0 0]).run Try.prog w.drew = .ok (.pointer none) w.drew := rfl
    clear hbk hown hnil hs hp
    go_enter Try.func53, Try.ntmps53
    go_wp2_with fail
    obtain ⟨wd, hwd⟩ : ∃ wd, wd = w.drew := ⟨_, rfl⟩
    rw [← hwd] at c1 hSD
    have hbd : Below B w wd := by rw [hwd]; exact (Below.refl _ _).drew
    refine region_walkN (fun W => Kept (fun x => x = b) wd W ∧ Below B w W) (by rw [← hwd]; exact ⟨Kept.refl _ _, hbd⟩) (by kernel_rfl) (by kernel_rfl) (fun _ _ d _ _ h => by cases d <;> exact h) ?_
    rw [← hwd]
    have HBD := Lib.hid hbd
    have h1 : ∀ W, (Kept (fun x => x = b) wd W ∧ Below B w W) → W.cell? ⟨b, 1, none⟩ = some (.slice none 0 0) := fun W h => (World.cell?_of_block (h.1.block b rfl)).trans c1
    clear hwd c1 hbd
    ((refine WalkN.take 0 _ ?_ (by simp only [gtA, gtZ]; rfl) (by kernel_rfl) (by kernel_rfl) (by rfl) (fun W hW => ?_) ?_; rotate_left; · (go_simp; try with_reducible rfl)); simp only [Act.put, puA, puZ, puS]); ((refine WalkN.take 1 _ ?_ (by simp only [gtA, gtS, gtZ]; rfl) (by kernel_rfl) (by kernel_rfl) (by rfl) (fun W hW => ?_) ?_; rotate_left; · (go_simp; try with_reducible rfl)); simp only [Act.put, puA, puZ, puS]); ((refine WalkN.take 2 _ ?_ (by simp only [gtA, gtS, gtZ]; rfl) (by kernel_rfl) (by kernel_rfl) (by rfl) (fun W hW => ?_) ?_; rotate_left; · (go_simp; try with_reducible rfl)); simp only [Act.put, puA, puZ, puS]); ((refine WalkN.take 3 _ ?_ (by simp only [gtA, gtS, gtZ]; rfl) (by kernel_rfl) (by kernel_rfl) (by rfl) (fun W hW => ?_) ?_; rotate_left; · (go_simp; try with_reducible rfl)); simp only [Act.put, puA, puZ, puS]); ((refine WalkN.take 5 _ ?_ (by simp only [gtA, gtS, gtZ]; rfl) (by kernel_rfl) (by kernel_rfl) (by rfl) (fun W hW => ?_) ?_; rotate_left; · (go_simp; try with_reducible rfl)); simp only [Act.put, puA, puZ, puS]); ((refine WalkN.take 6 _ ?_ (by simp only [gtA, gtS, gtZ]; rfl) (by kernel_rfl) (by kernel_rfl) (by rfl) (fun W hW => ?_) ?_; rotate_left; · (go_simp; try with_reducible rfl)); simp only [Act.put, puA, puZ, puS]); ((refine WalkN.take 7 _ ?_ (by simp only [gtA, gtS, gtZ]; rfl) (by kernel_rfl) (by kernel_rfl) (by rfl) (fun W hW => ?_) ?_; rotate_left; · (go_simp; try with_reducible rfl)); simp only [Act.put, puA, puZ, puS]); ((refine WalkN.take 8 _ ?_ (by simp only [gtA, gtS, gtZ]; rfl) (by kernel_rfl) (by kernel_rfl) (by rfl) (fun W hW => ?_) ?_; rotate_left; · (go_simp; try with_reducible rfl)); simp only [Act.put, puA, puZ, puS]); ((refine WalkN.take 9 _ ?_ (by simp only [gtA, gtS, gtZ]; rfl) (by kernel_rfl) (by kernel_rfl) (by rfl) (fun W hW => ?_) ?_; rotate_left; · (go_simp; try with_reducible rfl)); simp only [Act.put, puA, puZ, puS])
    refine WalkN.one 4 (by kernel_rfl) ?_
    refine ⟨_, (by simp only [gtA, gtS, gtZ]; rfl), by rfl, fun K hK => ?_⟩
    go_simp
    refine hK.out _ _ ⟨Kept.refl _ _, HBD.out⟩ ?_
    clear hK
    try simp only [Act.put, puA, puZ, puS]
    refine WalkN.one 10 (by kernel_rfl) ?_
    refine ⟨_, (by simp only [gtA, gtS, gtZ]; rfl), by rfl, fun K hK => ?_⟩
    go_simp
    have hfin := HBD.out
    refine hK.out _ _ ⟨Kept.refl _ _, HBD.out⟩ ?_
    clear hK
    try simp only [Act.put, puA, puZ, puS]
    ((refine WalkN.take 11 _ ?_ (by simp only [gtA, gtS, gtZ]; rfl) (by kernel_rfl) (by kernel_rfl) (by rfl) (fun W hW => ?_) ?_; rotate_left; · (go_simp; try with_reducible rfl)); simp only [Act.put, puA, puZ, puS])
    refine WalkN.done (by kernel_rfl) ?_
    have HF := Lib.hid hfin
    clear h1 hfin
    go_wp2_with fail
    go_ret
    exact ⟨rfl, HF.out⟩
  · obtain ⟨n, hown⟩ := hown
    have hl : (Lib.strCells text).length = text.size := Lib.strCells_length text
    have hn : n = text.size := by have := hown.1; omega
    subst hn
    obtain ⟨g, cap, cur, rfl, hbg, hg, hnc, hcm, hcs, htake⟩ : ∃ g cap cur, v = .slice (some ⟨g, 0, none⟩) text.size cap ∧ B ≤ g ∧ w.heap[g]? = some (.cells cur 5 (0, 0)) ∧ text.size ≤ cap ∧ cap ≤ maxLen ∧ cur.size = cap * 1 ∧ cur.toList.take (text.size * 1) = Lib.strCells text := by
      rcases hown.2 with ⟨_, hz⟩ | ⟨g, cap, cur, hv, r⟩
      · exact absurd hz hs
      · exact ⟨g, cap, cur, hv, r⟩
    have c1 : w.drew.cell? ⟨b, 1, none⟩ = some (.slice (some ⟨g, 0, none⟩) text.size cap) := hbk.drew.cells 1
    have hSD : (Builtin.unsafeSliceData_ #[22] 151 #[.slice (some ⟨g, 0, none⟩) text.size cap]).run Try.prog w.drew = .ok (.pointer (some ⟨g, 0, none⟩)) w.drew :=
      Lib.run_unsafeSliceData_row _ _ _ _ _ _ (by omega)
    have htx : text = ⟨text.data.toList.toArray⟩ := rfl
    have hlen : text.data.toList.length = text.size := rfl
    have hUS : ∀ wd, wd = w.drew → (Builtin.unsafeString_ #[151, 3] 9 #[.pointer (some ⟨g, 0, none⟩), .int .i64 text.size]).run Try.prog wd = .ok (.string text) (wd.freeze ⟨g, 0, none⟩ text.size) := by
      rintro wd rfl
      have := Lib.run_unsafeString_row (P := Try.prog) w.drew 151 3 9 5 Try.underlying151 (by kernel_rfl) g cur.size (by have hg' : w.drew.heap[g]? = some (.cells cur 5 (0, 0)) := hg; simp [World.shape?, hg']) text.data.toList (by intro e; rw [e] at hlen; simp at hlen; omega) (by omega) (by unfold maxLen at hcm; omega) (fun j x hx => by
        have := hown.cells (g := g) rfl j (.int .u8 x.toNat) (by simp only [Lib.strCells, List.getElem?_map, hx, Option.map_some])
        exact this)
      rw [hlen] at this
      exact this
    have HGB := Lib.hid (show g ≠ b from (show Own w B 5 1 (.slice (some ⟨g, 0, none⟩) text.size cap) (Lib.strCells text) from ⟨_, hown⟩).notBlk hbk (by decide) g rfl)
    clear hbk hown hnil hp hcs htake hg hlen htx hl hs hUSn
    go_enter Try.func53, Try.ntmps53
    go_wp2_with fail
    obtain ⟨wd, hwd⟩ : ∃ wd, wd = w.drew := ⟨_, rfl⟩
    rw [← hwd] at c1 hSD
    have hUS := hUS wd hwd
    have hbd : Below B w wd := by rw [hwd]; exact (Below.refl _ _).drew
    refine region_walkN (fun W => Kept (fun x => x = b) wd W ∧ Below B w W) (by rw [← hwd]; exact ⟨Kept.refl _ _, hbd⟩) (by kernel_rfl) (by kernel_rfl) (fun _ _ d _ _ h => by cases d <;> exact h) ?_
    rw [← hwd]
    have HBD := Lib.hid hbd
    have h1 : ∀ W, (Kept (fun x => x = b) wd W ∧ Below B w W) → W.cell? ⟨b, 1, none⟩ = some (.slice (some ⟨g, 0, none⟩) text.size cap) := fun W h => (World.cell?_of_block (h.1.block b rfl)).trans c1
    clear hwd c1 hbd
    ((refine WalkN.take 0 _ ?_ (by simp only [gtA, gtZ]; rfl) (by kernel_rfl) (by kernel_rfl) (by rfl) (fun W hW => ?_) ?_; rotate_left; · (go_simp; try with_reducible rfl)); simp only [Act.put, puA, puZ, puS]); ((refine WalkN.take 1 _ ?_ (by simp only [gtA, gtS, gtZ]; rfl) (by kernel_rfl) (by kernel_rfl) (by rfl) (fun W hW => ?_) ?_; rotate_left; · (go_simp; try with_reducible rfl)); simp only [Act.put, puA, puZ, puS]); ((refine WalkN.take 2 _ ?_ (by simp only [gtA, gtS, gtZ]; rfl) (by kernel_rfl) (by kernel_rfl) (by rfl) (fun W hW => ?_) ?_; rotate_left; · (go_simp; try with_reducible rfl)); simp only [Act.put, puA, puZ, puS]); ((refine WalkN.take 3 _ ?_ (by simp only [gtA, gtS, gtZ]; rfl) (by kernel_rfl) (by kernel_rfl) (by rfl) (fun W hW => ?_) ?_; rotate_left; · (go_simp; try with_reducible rfl)); simp only [Act.put, puA, puZ, puS]); ((refine WalkN.take 5 _ ?_ (by simp only [gtA, gtS, gtZ]; rfl) (by kernel_rfl) (by kernel_rfl) (by rfl) (fun W hW => ?_) ?_; rotate_left; · (go_simp; try with_reducible rfl)); simp only [Act.put, puA, puZ, puS]); ((refine WalkN.take 6 _ ?_ (by simp only [gtA, gtS, gtZ]; rfl) (by kernel_rfl) (by kernel_rfl) (by rfl) (fun W hW => ?_) ?_; rotate_left; · (go_simp; try with_reducible rfl)); simp only [Act.put, puA, puZ, puS]); ((refine WalkN.take 7 _ ?_ (by simp only [gtA, gtS, gtZ]; rfl) (by kernel_rfl) (by kernel_rfl) (by rfl) (fun W hW => ?_) ?_; rotate_left; · (go_simp; try with_reducible rfl)); simp only [Act.put, puA, puZ, puS]); ((refine WalkN.take 8 _ ?_ (by simp only [gtA, gtS, gtZ]; rfl) (by kernel_rfl) (by kernel_rfl) (by rfl) (fun W hW => ?_) ?_; rotate_left; · (go_simp; try with_reducible rfl)); simp only [Act.put, puA, puZ, puS]); ((refine WalkN.take 9 _ ?_ (by simp only [gtA, gtS, gtZ]; rfl) (by kernel_rfl) (by kernel_rfl) (by rfl) (fun W hW => ?_) ?_; rotate_left; · (go_simp; try with_reducible rfl)); simp only [Act.put, puA, puZ, puS])
    refine WalkN.one 4 (by kernel_rfl) ?_
    refine ⟨_, (by simp only [gtA, gtS, gtZ]; rfl), by rfl, fun K hK => ?_⟩
    go_simp
    refine hK.out _ _ ⟨Kept.refl _ _, HBD.out⟩ ?_
    clear hK
    try simp only [Act.put, puA, puZ, puS]
    refine WalkN.one 10 (by kernel_rfl) ?_
    refine ⟨_, (by simp only [gtA, gtS, gtZ]; rfl), by rfl, fun K hK => ?_⟩
    go_simp
    have hfin : Below B w (wd.freeze ⟨g, 0, none⟩ text.size) := Lib.below_freeze HBD.out (p := ⟨g, 0, none⟩) hbg _
    refine hK.out _ _ ⟨kept_freeze (Kept.refl _ _) (fun e => HGB.out e) _, hfin⟩ ?_
    clear hK
    try simp only [Act.put, puA, puZ, puS]
    ((refine WalkN.take 11 _ ?_ (by simp only [gtA, gtS, gtZ]; rfl) (by kernel_rfl) (by kernel_rfl) (by rfl) (fun W hW => ?_) ?_; rotate_left; · (go_simp; try with_reducible rfl)); simp only [Act.put, puA, puZ, puS])
    refine WalkN.done (by kernel_rfl) ?_
    have HF := Lib.hid hfin
    clear h1 hfin
    go_wp2_with fail
    go_ret
    exact ⟨rfl, HF.out⟩
end Go.Proofs.Ytjdigpfipmckhaa
namespace Go.Proofs.Ytjdigpfipmckhaa
open Go Go.RowKit
def WRes (B wb : Nat) (w : World) (text : ByteArray) (ok : Bool) (add : ByteArray) (wt : Nat) (e : Ending) (w' : World) : Prop :=
  e = .returned (.tuple #[]) ∧ ∃ text', WrB w' B wb text' (!ok) ∧ text.size ≤ text'.size ∧ text'.size ≤ text.size + wt ∧ (ok = true → text' = text ++ add) ∧ WKept B wb w w'
theorem WRes.bad {B wb : Nat} {w w' : World} {text add : ByteArray} {wt : Nat} (h : WrB w' B wb text true) (hk : WKept B wb w w') : WRes B wb w text false add wt (.returned (.tuple #[])) w' :=
  ⟨rfl, text, h, Nat.le_refl _, Nat.le_add_right _ _, (fun h => by cases h), hk⟩
set_option maxRecDepth 100000 in
set_option maxHeartbeats 2000000 in
theorem wrule_odd {B wb : Nat} {text : ByteArray} {w : World} (k : Int) (ra rb : ByteArray) (n : Nat) (ao : Option Addr) (c : Nat) (d : Int) (h : WrB w B wb text true) (hBw : B ≤ w.heap.size) :
    Calls Try.prog 52 #[.pointer (some ⟨wb, 0, none⟩), .agg #[.int .i64 k, .string ra, .string rb, .slice ao n c], .int .i64 d] w fun e w' => e = .returned (.tuple #[]) ∧ WrB w' B wb text true ∧ WKept B wb w w' := by
  have HW0 := Lib.hid h
  have HB := Lib.hid h.1
  have HBW := Lib.hid hBw
  have HNE := Lib.hid (show w.heap.size ≠ wb from by have := h.lt; omega)
  clear h hBw
  by_cases k4 : k = 4
  · subst k4
    have HX := Lib.hid (Blk.made w #[.int .i64 4, .string ra, .string rb, .slice ao n c] 66)
    have HX1 := Lib.hid (HX.out.other (a := ⟨wb, 2, none⟩) HNE.out (.bool true))
    have HX2 := Lib.hid (HX1.out.other (a := ⟨wb, 2, none⟩) HNE.out (.bool true))
    have HW1 := Lib.hid ((HW0.out.up ((Below.refl _ w).alloc (Nat.le_refl _) (.cells #[.int .i64 4, .string ra, .string rb, .slice ao n c] 66))).flag true)
    have HW2 := Lib.hid (HW1.out.flag true)
    have HK2 := Lib.hid (WKept.next (WKept.next (WKept.of ((Below.refl _ w).alloc (Nat.le_refl _) (.cells #[.int .i64 4, .string ra, .string rb, .slice ao n c] 66)) HBW.out) (WKept.flag (b := wb) HB.out (.bool true))) (WKept.flag (b := wb) HB.out (.bool true)))
    have x0 := HX.out.cells
    have x1 := HX1.out.cells
    have x2 := HX2.out.cells
    obtain ⟨e0, f0⟩ := (HW0.out.up ((Below.refl _ w).alloc (Nat.le_refl _) (.cells #[.int .i64 4, .string ra, .string rb, .slice ao n c] 66))).odd2
    obtain ⟨e1, f1⟩ := HW1.out.odd2
    obtain ⟨e2, f2⟩ := HW2.out.odd2
    go_enter Try.func52, Try.ntmps52
    go_wp2_with fail
    (try simp only [Exit.inBlock, Exit.then])
    refine bodyPost_ret (results_none rfl _ _ _) rfl ?_
    exact ⟨rfl, HW2.out, HK2.out⟩
  by_cases k5 : k = 5
  · subst k5
    have HX := Lib.hid (Blk.made w #[.int .i64 5, .string ra, .string rb, .slice ao n c] 66)
    have HX1 := Lib.hid (HX.out.other (a := ⟨wb, 2, none⟩) HNE.out (.bool true))
    have HX2 := Lib.hid (HX1.out.other (a := ⟨wb, 2, none⟩) HNE.out (.bool true))
    have HW1 := Lib.hid ((HW0.out.up ((Below.refl _ w).alloc (Nat.le_refl _) (.cells #[.int .i64 5, .string ra, .string rb, .slice ao n c] 66))).flag true)
    have HW2 := Lib.hid (HW1.out.flag true)
    have HK2 := Lib.hid (WKept.next (WKept.next (WKept.of ((Below.refl _ w).alloc (Nat.le_refl _) (.cells #[.int .i64 5, .string ra, .string rb, .slice ao n c] 66)) HBW.out) (WKept.flag (b := wb) HB.out (.bool true))) (WKept.flag (b := wb) HB.out (.bool true)))
    have x0 := HX.out.cells
    have x1 := HX1.out.cells
    have x2 := HX2.out.cells
    obtain ⟨e0, f0⟩ := (HW0.out.up ((Below.refl _ w).alloc (Nat.le_refl _) (.cells #[.int .i64 5, .string ra, .string rb, .slice ao n c] 66))).odd2
    obtain ⟨e1, f1⟩ := HW1.out.odd2
    obtain ⟨e2, f2⟩ := HW2.out.odd2
    go_enter Try.func52, Try.ntmps52
    go_wp2_with fail
    (try simp only [Exit.inBlock, Exit.then])
    refine bodyPost_ret (results_none rfl _ _ _) rfl ?_
    exact ⟨rfl, HW2.out, HK2.out⟩
  have q4 : (k == 4) = false := by rw [beq_eq_false_iff_ne]; exact k4
  have q5 : (k == 5) = false := by rw [beq_eq_false_iff_ne]; exact k5
  clear k4 k5
  have HX := Lib.hid (Blk.made w #[.int .i64 k, .string ra, .string rb, .slice ao n c] 66)
  have HX1 := Lib.hid (HX.out.other (a := ⟨wb, 2, none⟩) HNE.out (.bool true))
  have HX2 := Lib.hid (HX1.out.other (a := ⟨wb, 2, none⟩) HNE.out (.bool true))
  have HW1 := Lib.hid ((HW0.out.up ((Below.refl _ w).alloc (Nat.le_refl _) (.cells #[.int .i64 k, .string ra, .string rb, .slice ao n c] 66))).flag true)
  have HW2 := Lib.hid (HW1.out.flag true)
  have HK2 := Lib.hid (WKept.next (WKept.next (WKept.of ((Below.refl _ w).alloc (Nat.le_refl _) (.cells #[.int .i64 k, .string ra, .string rb, .slice ao n c] 66)) HBW.out) (WKept.flag (b := wb) HB.out (.bool true))) (WKept.flag (b := wb) HB.out (.bool true)))
  have x0 := HX.out.cells
  have x1 := HX1.out.cells
  have x2 := HX2.out.cells
  obtain ⟨e0, f0⟩ := (HW0.out.up ((Below.refl _ w).alloc (Nat.le_refl _) (.cells #[.int .i64 k, .string ra, .string rb, .slice ao n c] 66))).odd2
  obtain ⟨e1, f1⟩ := HW1.out.odd2
  obtain ⟨e2, f2⟩ := HW2.out.odd2
  go_enter Try.func52, Try.ntmps52
  go_wp2_with fail
  (try simp only [Exit.inBlock, Exit.then])
  refine bodyPost_ret (results_none rfl _ _ _) rfl ?_
  exact ⟨rfl, HW2.out, HK2.out⟩
set_option maxRecDepth 100000 in
set_option maxHeartbeats 2000000 in
theorem wrule_k {B wb : Nat} {text : ByteArray} {w : World} (k : Int) (ra rb : ByteArray) (n : Nat) (ao : Option Addr) (c : Nat) (d : Int) (h : WrB w B wb text false) (hBw : B ≤ w.heap.size) (q1 : (k == 1) = false) (q2 : (k == 2) = false) (q3 : (k == 3) = false) (q4 : (k == 4) = false) (q5 : (k == 5) = false) :
    Calls Try.prog 52 #[.pointer (some ⟨wb, 0, none⟩), .agg #[.int .i64 k, .string ra, .string rb, .slice ao n c], .int .i64 d] w (WRes B wb w text (false) (⟨#[]⟩) (10 + ra.size + rb.size)) := by
  have HW0 := Lib.hid h
  have HB := Lib.hid h.1
  have HBW := Lib.hid hBw
  have HNE := Lib.hid (show w.heap.size ≠ wb from by have := h.lt; omega)
  clear h hBw
  have q2n : (k != 2) = true := by rw [bne, q2]; rfl
  have q3n : (k != 3) = true := by rw [bne, q3]; rfl
  by_cases hlp : 0 < n
  · have hpI : (0 : Int) < (n : Int) := by omega
    clear hlp
    have HX := Lib.hid (Blk.made w #[.int .i64 k, .string ra, .string rb, .slice ao n c] 66)
    have HX1 := Lib.hid (HX.out.other (a := ⟨wb, 2, none⟩) HNE.out (.bool true))
    have HX2 := Lib.hid (HX1.out.other (a := ⟨wb, 2, none⟩) HNE.out (.bool true))
    have HW1 := Lib.hid ((HW0.out.up ((Below.refl _ w).alloc (Nat.le_refl _) (.cells #[.int .i64 k, .string ra, .string rb, .slice ao n c] 66))).flag true)
    have HW2 := Lib.hid (HW1.out.flag true)
    have HK2 := Lib.hid (WKept.next (WKept.next (WKept.of ((Below.refl _ w).alloc (Nat.le_refl _) (.cells #[.int .i64 k, .string ra, .string rb, .slice ao n c] 66)) HBW.out) (WKept.flag (b := wb) HB.out (.bool true))) (WKept.flag (b := wb) HB.out (.bool true)))
    have x0 := HX.out.cells
    have x1 := HX1.out.cells
    have x2 := HX2.out.cells
    obtain ⟨e0, f0⟩ := (HW0.out.up ((Below.refl _ w).alloc (Nat.le_refl _) (.cells #[.int .i64 k, .string ra, .string rb, .slice ao n c] 66))).odd2
    obtain ⟨e1, f1⟩ := HW1.out.odd2
    obtain ⟨e2, f2⟩ := HW2.out.odd2
    go_enter Try.func52, Try.ntmps52
    go_wp2_with fail
    (try simp only [Exit.inBlock, Exit.then])
    refine bodyPost_ret (results_none rfl _ _ _) rfl ?_
    exact WRes.bad HW2.out HK2.out
  · obtain rfl : n = 0 := by omega
    clear hlp
    by_cases hnrb : rb.size = 0
    · obtain rfl := ba_size_eq hnrb
      clear hnrb
      by_cases hnra : ra.size = 0
      · obtain rfl := ba_size_eq hnra
        clear hnra
        have HX := Lib.hid (Blk.made w #[.int .i64 k, .string ⟨#[]⟩, .string ⟨#[]⟩, .slice ao 0 c] 66)
        have HX1 := Lib.hid (HX.out.other (a := ⟨wb, 2, none⟩) HNE.out (.bool false))
        have HX2 := Lib.hid (HX1.out.other (a := ⟨wb, 2, none⟩) HNE.out (.bool false))
        have HW1 := Lib.hid ((HW0.out.up ((Below.refl _ w).alloc (Nat.le_refl _) (.cells #[.int .i64 k, .string ⟨#[]⟩, .string ⟨#[]⟩, .slice ao 0 c] 66))).flag false)
        have HW2 := Lib.hid (HW1.out.flag false)
        have HW3 := Lib.hid (HW2.out.flag true)
        have HK3 := Lib.hid (WKept.next (WKept.next (WKept.next (WKept.of ((Below.refl _ w).alloc (Nat.le_refl _) (.cells #[.int .i64 k, .string ⟨#[]⟩, .string ⟨#[]⟩, .slice ao 0 c] 66)) HBW.out) (WKept.flag (b := wb) HB.out (.bool false))) (WKept.flag (b := wb) HB.out (.bool false))) (WKept.flag (b := wb) HB.out (.bool true)))
        have x0 := HX.out.cells
        have x1 := HX1.out.cells
        have x2 := HX2.out.cells
        obtain ⟨e0, f0⟩ := (HW0.out.up ((Below.refl _ w).alloc (Nat.le_refl _) (.cells #[.int .i64 k, .string ⟨#[]⟩, .string ⟨#[]⟩, .slice ao 0 c] 66))).odd2
        obtain ⟨e1, f1⟩ := HW1.out.odd2
        obtain ⟨e2, f2⟩ := HW2.out.odd2
        go_enter Try.func52, Try.ntmps52
        go_wp2_with fail
        go_end0
        exact WRes.bad HW3.out HK3.out
      · have hnera := ba_size_ne hnra
        clear hnra
        have HX := Lib.hid (Blk.made w #[.int .i64 k, .string ra, .string ⟨#[]⟩, .slice ao 0 c] 66)
        have HX1 := Lib.hid (HX.out.other (a := ⟨wb, 2, none⟩) HNE.out (.bool false))
        have HX2 := Lib.hid (HX1.out.other (a := ⟨wb, 2, none⟩) HNE.out (.bool true))
        have HW1 := Lib.hid ((HW0.out.up ((Below.refl _ w).alloc (Nat.le_refl _) (.cells #[.int .i64 k, .string ra, .string ⟨#[]⟩, .slice ao 0 c] 66))).flag false)
        have HW2 := Lib.hid (HW1.out.flag true)
        have HK2 := Lib.hid (WKept.next (WKept.next (WKept.of ((Below.refl _ w).alloc (Nat.le_refl _) (.cells #[.int .i64 k, .string ra, .string ⟨#[]⟩, .slice ao 0 c] 66)) HBW.out) (WKept.flag (b := wb) HB.out (.bool false))) (WKept.flag (b := wb) HB.out (.bool true)))
        have x0 := HX.out.cells
        have x1 := HX1.out.cells
        have x2 := HX2.out.cells
        obtain ⟨e0, f0⟩ := (HW0.out.up ((Below.refl _ w).alloc (Nat.le_refl _) (.cells #[.int .i64 k, .string ra, .string ⟨#[]⟩, .slice ao 0 c] 66))).odd2
        obtain ⟨e1, f1⟩ := HW1.out.odd2
        obtain ⟨e2, f2⟩ := HW2.out.odd2
        go_enter Try.func52, Try.ntmps52
        go_wp2_with fail
        (try simp only [Exit.inBlock, Exit.then])
        refine bodyPost_ret (results_none rfl _ _ _) rfl ?_
        exact WRes.bad HW2.out HK2.out
    · have hnerb := ba_size_ne hnrb
      clear hnrb
      have HX := Lib.hid (Blk.made w #[.int .i64 k, .string ra, .string rb, .slice ao 0 c] 66)
      have HX1 := Lib.hid (HX.out.other (a := ⟨wb, 2, none⟩) HNE.out (.bool false))
      have HX2 := Lib.hid (HX1.out.other (a := ⟨wb, 2, none⟩) HNE.out (.bool true))
      have HW1 := Lib.hid ((HW0.out.up ((Below.refl _ w).alloc (Nat.le_refl _) (.cells #[.int .i64 k, .string ra, .string rb, .slice ao 0 c] 66))).flag false)
      have HW2 := Lib.hid (HW1.out.flag true)
      have HK2 := Lib.hid (WKept.next (WKept.next (WKept.of ((Below.refl _ w).alloc (Nat.le_refl _) (.cells #[.int .i64 k, .string ra, .string rb, .slice ao 0 c] 66)) HBW.out) (WKept.flag (b := wb) HB.out (.bool false))) (WKept.flag (b := wb) HB.out (.bool true)))
      have x0 := HX.out.cells
      have x1 := HX1.out.cells
      have x2 := HX2.out.cells
      obtain ⟨e0, f0⟩ := (HW0.out.up ((Below.refl _ w).alloc (Nat.le_refl _) (.cells #[.int .i64 k, .string ra, .string rb, .slice ao 0 c] 66))).odd2
      obtain ⟨e1, f1⟩ := HW1.out.odd2
      obtain ⟨e2, f2⟩ := HW2.out.odd2
      go_enter Try.func52, Try.ntmps52
      go_wp2_with fail
      (try simp only [Exit.inBlock, Exit.then])
      refine bodyPost_ret (results_none rfl _ _ _) rfl ?_
      exact WRes.bad HW2.out HK2.out
end Go.Proofs.Ytjdigpfipmckhaa
