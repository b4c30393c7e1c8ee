/- Rows of tuples; the walk of the document's points. No condition: lemmas. -/
import Derived.Test.YtcbgemnmehoeaaaFlatZ
namespace Go.Proofs.Ytcbgemnmehoeaaa
open Go Go.RowKit Go.Maps

theorem tC_length (t : Tup) : (tC t).length = 6 := rfl
def tcs (l : List Tup) : List Value := l.flatMap tC
theorem tcs_one (l : List Tup) : ∀ u ∈ tcs l, u.oneCell' = true := by
  intro u hu
  obtain ⟨t, _, h⟩ := List.mem_flatMap.1 hu
  simp only [tC, List.mem_cons, List.not_mem_nil, or_false] at h
  rcases h with rfl | rfl | rfl | rfl | rfl | rfl <;> rfl
theorem tcs_length (l : List Tup) : (tcs l).length = 6 * l.length := by
  rw [tcs, flat_length tC_length]; omega
theorem tcs_append (a b : List Tup) : tcs (a ++ b) = tcs a ++ tcs b := List.flatMap_append
theorem tcs_single (t : Tup) : tcs [t] = tC t := by simp [tcs]
theorem tups_rows {S : Nat → Prop} {w : World} {v : Value} {l : List Tup} (h : Sl S w 6 v (tcs l)) :
    ∃ ao c, v = .slice ao l.length c ∧ l.length ≤ c ∧ c ≤ 9223372036854775807 ∧ ∀ i (hi : i < l.length), ∃ b off, ao = some ⟨b, off, none⟩ ∧ S b ∧
      w.cell? ⟨b, off + i * 6, none⟩ = some (.string l[i].o.t) ∧ w.cell? ⟨b, off + i * 6 + 1, none⟩ = some (.string l[i].o.i) ∧ w.cell? ⟨b, off + i * 6 + 2, none⟩ = some (.string l[i].o.r) ∧
      w.cell? ⟨b, off + i * 6 + 3, none⟩ = some (.string l[i].s.t) ∧ w.cell? ⟨b, off + i * 6 + 4, none⟩ = some (.string l[i].s.i) ∧ w.cell? ⟨b, off + i * 6 + 5, none⟩ = some (.string l[i].s.r) := by
  obtain ⟨ao, c, rfl, h1, h2, hc⟩ := Sl.rows tC_length (by decide) (show Sl S w 6 v (l.flatMap tC) from h)
  refine ⟨ao, c, rfl, h1, h2, fun i hi => ?_⟩
  obtain ⟨b, off, rfl, hb, hc⟩ := hc (by omega)
  exact ⟨b, off, rfl, hb, hc i hi 0 _ rfl, hc i hi 1 _ rfl, hc i hi 2 _ rfl, hc i hi 3 _ rfl, hc i hi 4 _ rfl, hc i hi 5 _ rfl⟩
theorem pts_rows {S : Nat → Prop} {w : World} {v : Value} {l : List P3} (h : Sl S w 3 v (pcs l)) :
    ∃ ao c, v = .slice ao l.length c ∧ l.length ≤ c ∧ c ≤ 9223372036854775807 ∧ ∀ i (hi : i < l.length), ∃ b off, ao = some ⟨b, off, none⟩ ∧ S b ∧
      w.cell? ⟨b, off + i * 3, none⟩ = some (.string l[i].t) ∧ w.cell? ⟨b, off + i * 3 + 1, none⟩ = some (.string l[i].i) ∧ w.cell? ⟨b, off + i * 3 + 2, none⟩ = some (.string l[i].r) := by
  obtain ⟨ao, c, rfl, h1, h2, hc⟩ := Sl.rows pC_length (by decide) (show Sl S w 3 v (l.flatMap pC) from h)
  refine ⟨ao, c, rfl, h1, h2, fun i hi => ?_⟩
  obtain ⟨b, off, rfl, hb, hc⟩ := hc (by omega)
  exact ⟨b, off, rfl, hb, hc i hi 0 _ rfl, hc i hi 1 _ rfl, hc i hi 2 _ rfl⟩
theorem obj_neq (a1 a2 b1 b2 : ByteArray) (W : World) : (binOp BinOp.neq 28 (.agg #[.string a1, .string a2]) (.agg #[.string b1, .string b2])).run Try.prog W = .ok (.bool (!decide (a1 = b1 ∧ a2 = b2))) W := by
  go_simp
  simp only [ba_toList]
  by_cases h1 : a1 = b1 <;> by_cases h2 : a2 = b2 <;> simp [h1, h2]
theorem obj_eql (a1 a2 b1 b2 : ByteArray) (W : World) : (binOp BinOp.eql 28 (.agg #[.string a1, .string a2]) (.agg #[.string b1, .string b2])).run Try.prog W = .ok (.bool (decide (a1 = b1 ∧ a2 = b2))) W := by
  go_simp
  simp only [ba_toList]
  by_cases h1 : a1 = b1 <;> by_cases h2 : a2 = b2 <;> simp [h1, h2]

/-- The points' loop, plainly. -/
structure PtsI (l : List Tup) (p : P3) (out : List P3) : Prop where
  nd : out.Nodup
  head : p ∈ out
  fwd : ∀ q ∈ out, Fwd (· ∈ l) p q
theorem PtsI.first (l : List Tup) (p : P3) : PtsI l p [p] := ⟨by simp, by simp, fun q hq => by obtain rfl : q = p := (by simpa using hq); exact .refl⟩
theorem PtsI.len {l : List Tup} {p : P3} {out : List P3} (h : PtsI l p out) : out.length ≤ l.length + 1 := by
  have := nodup_le (m := p :: l.map (·.s)) h.nd (fun q hq => by
    cases h.fwd q hq with
    | refl => simp
    | @tail t _ ht _ => exact List.mem_cons_of_mem _ (List.mem_map.2 ⟨t, ht, rfl⟩))
  simpa using this
theorem PtsI.add {l : List Tup} {p : P3} {out : List P3} (h : PtsI l p out) {t : Tup} (ht : t ∈ l) (ho : t.o ∈ out) (hs : t.s.isSet) (hn : t.s ∉ out) : PtsI l p (out ++ [t.s]) :=
  ⟨by
    rw [List.nodup_append]
    exact ⟨h.nd, by simp, fun a ha b hb => by obtain rfl : b = t.s := (by simpa using hb); rintro rfl; exact hn ha⟩, by simp [h.head], fun q hq => by
    rcases List.mem_append.1 hq with hq | hq
    · exact h.fwd q hq
    · obtain rfl : q = t.s := by simpa using hq
      exact .tail (h.fwd _ ho) ht hs⟩
/-- What a point leads to, by some tuples, is there. -/
def Clo (l : List Tup) (q : P3) (out : List P3) : Prop := ∀ t ∈ l, t.o = q → t.s.isSet → t.s ∈ out
theorem PtsI.last {l : List Tup} {p : P3} {out : List P3} (h : PtsI l p out) (hc : ∀ q ∈ out, Clo l q out) (q : P3) : q ∈ out ↔ Fwd (· ∈ l) p q := by
  refine ⟨h.fwd q, fun hf => ?_⟩
  induction hf with
  | refl => exact h.head
  | tail _ ht hs ih => exact hc _ ih _ ht rfl hs
theorem Clo.more {l : List Tup} {q : P3} {out : List P3} (h : Clo l q out) (ext : List P3) : Clo l q (out ++ ext) := fun t ht ho hs => List.mem_append_left _ (h t ht ho hs)
theorem Clo.step {l : List Tup} {i : Nat} (hi : i < l.length) {q : P3} {out : List P3} (h : Clo (l.take i) q out) (h2 : l[i].o = q → l[i].s.isSet → l[i].s ∈ out) : Clo (l.take (i + 1)) q out := by
  intro t ht ho hs
  rw [List.take_succ_eq_append_getElem hi, List.mem_append, List.mem_singleton] at ht
  rcases ht with ht | rfl
  · exact h t ht ho hs
  · exact h2 ho hs

set_option maxRecDepth 100000 in
set_option maxHeartbeats 8000000 in
theorem refPoints_any (v : Value) (l : List Tup) (p : P3) (w : World) (h : Sl (· < w.heap.size) w 6 v (tcs l)) (hl : l.length ≤ 100) : Calls Try.prog 31 #[v, pV p] w fun e w' => ∃ (v' : Value) (out : List P3), e = .returned v' ∧ (∀ q, q ∈ out ↔ Fwd (· ∈ l) p q) ∧ out.length ≤ l.length + 1 ∧ Own w' w.heap.size 37 3 v' (pcs out) ∧ Below w.heap.size w w' := by
  obtain ⟨ao, c, rfl, hlc, hcm, hcell⟩ := tups_rows h
  have HC := Lib.hid hcell
  have HL := Lib.hid hl
  clear hcell h hl
  obtain ⟨pt, pi, pr⟩ := p
  have hP0 := (Blk.made w #[.string pt, .string pi, .string pr] 37).cells
  have hb1 : Below w.heap.size w (w.alloc (.cells #[.string pt, .string pi, .string pr] 37)) := (Below.refl _ _).alloc (Nat.le_refl _) _
  have hb2 : Below w.heap.size w ((w.alloc (.cells #[.string pt, .string pi, .string pr] 37)).alloc (.cells #[.string pt, .string pi, .string pr] 37)) := hb1.alloc hb1.size _
  have HO1 := Lib.hid (show Own ((w.alloc (.cells #[.string pt, .string pi, .string pr] 37)).alloc (.cells #[.string pt, .string pi, .string pr] 37)) w.heap.size 37 3 (.slice (some ⟨w.heap.size + 1, 0, none⟩) 1 1) (pcs [⟨pt, pi, pr⟩]) from by
    refine ⟨1, rfl, .inr ⟨w.heap.size + 1, 1, #[.string pt, .string pi, .string pr], rfl, by omega, ?_, Nat.le_refl _, by unfold maxLen; omega, rfl, rfl⟩⟩
    have := heap_alloc_new (w.alloc (.cells #[.string pt, .string pi, .string pr] 37)) (.cells #[.string pt, .string pi, .string pr] 37)
    rwa [World.size_alloc] at this)
  have HB2 := Lib.hid hb2
  clear hb1 hb2
  unfold pV
  dsimp only
  go_enter Try.func31, Try.ntmps31
  go_wp2_with fail
  generalize (w.alloc (.cells #[.string pt, .string pi, .string pr] 37)).alloc (.cells #[.string pt, .string pi, .string pr] 37) = w2 at *
  clear hP0
  go_loopw [5, 6] (fun vv ii wr => ∃ (i : Nat) (out : List P3), i ≤ out.length ∧ ii = .int .i64 i ∧ Own wr w.heap.size 37 3 vv (pcs out) ∧ PtsI l ⟨pt, pi, pr⟩ out ∧ (∀ q ∈ out.take i, Clo l q out) ∧ Below w.heap.size w wr) (fun _ ii _ => l.length + 1 - (intOf ii).toNat)
  case atStart => exact ⟨0, [⟨pt, pi, pr⟩], by simp, rfl, HO1.out, PtsI.first _ _, by simp, HB2.out⟩
  case round =>
    obtain ⟨i, out, hi, rfl, hown, hpi, hcl, hbel⟩ := hrel
    have HPI := Lib.hid hpi
    have HCL := Lib.hid hcl
    have HOW := Lib.hid hown
    have HBEL := Lib.hid hbel
    have hol := hpi.len
    obtain ⟨oo, oc, rfl, hoc, hocm, hocell⟩ := pts_rows hown.sl
    have HOC := Lib.hid hocell
    clear HO1 HB2 hcl hpi hown hbel hocell
    by_cases hlt : i < out.length
    · have hcd : ∃ cur, cur = out[i] := ⟨_, rfl⟩
      obtain ⟨cur, hcur⟩ := hcd
      have HCUR := Lib.hid hcur
      obtain ⟨ct, ci, cr⟩ := cur
      clear hcur
      go_wp2_with fail
      go_loopw [5, 23] (fun vv jj wr => ∃ (j : Nat) (ext : List P3), j ≤ l.length ∧ jj = .int .i64 j ∧ Own wr w.heap.size 37 3 vv (pcs (out ++ ext)) ∧ PtsI l ⟨pt, pi, pr⟩ (out ++ ext) ∧ Clo (l.take j) ⟨ct, ci, cr⟩ (out ++ ext) ∧ Below w.heap.size w wr) (fun _ jj _ => l.length - (intOf jj).toNat)
      case atStart => exact ⟨0, [], by omega, rfl, by rw [List.append_nil]; exact HOW.out, by rw [List.append_nil]; exact HPI.out, fun t ht => by simp at ht, HBEL.out⟩
      case round =>
        obtain ⟨j, ext, hj, rfl, hown, hpj, hclj, hbel⟩ := hrel
        have HPj := Lib.hid hpj
        have HCj := Lib.hid hclj
        have HOWj := Lib.hid hown
        have HBj := Lib.hid hbel
        have hel := hpj.len
        obtain ⟨eo, ec, rfl, hec, hecm, hecell⟩ := pts_rows hown.sl
        have hie : i < (out ++ ext).length := by rw [List.length_append]; omega
        obtain ⟨gb, go, rfl, hgb, g0, g1, g2⟩ := hecell i hie
        rw [show (out ++ ext)[i] = ⟨ct, ci, cr⟩ from by rw [List.getElem_append_left hlt]; exact HCUR.out.symm] at g0 g1 g2
        dsimp only at g0 g1 g2
        have hcin : (⟨ct, ci, cr⟩ : P3) ∈ out ++ ext := by rw [HCUR.out]; exact List.mem_append_left _ (List.getElem_mem hlt)
        have HCIN := Lib.hid hcin
        clear hown hpj hclj hecell HOW HBEL hcin
        generalize hen : (out ++ ext).length = en at *
        have HEN := Lib.hid hen
        clear hen
        by_cases hjl : j < l.length
        · obtain ⟨b, off, rfl, hb, c0, c1, c2, c3, c4, c5⟩ := HC.out j hjl
          have d0 := (hbel.cell (p := ⟨b, off + j * 6, none⟩) hb).trans c0
          have d1 := (hbel.cell (p := ⟨b, off + j * 6 + 1, none⟩) hb).trans c1
          have d2 := (hbel.cell (p := ⟨b, off + j * 6 + 2, none⟩) hb).trans c2
          have d3 := (hbel.cell (p := ⟨b, off + j * 6 + 3, none⟩) hb).trans c3
          have d4 := (hbel.cell (p := ⟨b, off + j * 6 + 4, none⟩) hb).trans c4
          have d5 := (hbel.cell (p := ⟨b, off + j * 6 + 5, none⟩) hb).trans c5
          have HST := fun (out' : List P3) (h1 : Clo (l.take j) ⟨ct, ci, cr⟩ out') (h2 : l[j].o = ⟨ct, ci, cr⟩ → l[j].s.isSet → l[j].s ∈ out') => Lib.hid (Clo.step hjl h1 h2)
          have HLJ := Lib.hid (List.getElem_mem hjl)
          clear c0 c1 c2 c3 c4 c5 hb hbel
          generalize l[j] = t at *
          obtain ⟨⟨ot, oi, or_⟩, ⟨st, si, sr⟩⟩ := t
          dsimp only at *
          obtain ⟨wT, hwT⟩ : ∃ wT, wT = wr.alloc (.cells #[.string ot, .string oi, .string or_, .string st, .string si, .string sr] 32) := ⟨_, rfl⟩
          have hBT : Blk wT wr.heap.size #[.string ot, .string oi, .string or_, .string st, .string si, .string sr] 32 := by rw [hwT]; exact Blk.made wr _ _
          have hET : Ext wr wT := by rw [hwT]; exact Ext.alloc _ _
          by_cases hA : ot = ct ∧ oi = ci
          rotate_left
          · have hno := fun W => obj_neq ot oi ct ci W
            rw [show (!decide (ot = ct ∧ oi = ci)) = true from by simp [hA]] at hno
            have HNO := Lib.hid (show (⟨ot, oi, or_⟩ : P3) ≠ ⟨ct, ci, cr⟩ from fun e => hA (by injection e with e1 e2 _; exact ⟨e1, e2⟩))
            clear hA
            go_wp2_with fail
            try rw [← hwT]
            clear hwT d0 d1 d2 d3 d4 d5
            go_wp2_with fail
            obtain ⟨wd, hwd⟩ : ∃ wd, wd = wT.drew := ⟨_, rfl⟩
            have hBd : Blk wd wr.heap.size #[.string ot, .string oi, .string or_, .string st, .string si, .string sr] 32 := by rw [hwd]; exact hBT.drew
            have hEd : Ext wr wd := by rw [hwd]; exact hET.trans (Ext.drew _)
            refine region_walkN (Ext wd) (by rw [← hwd]; exact Ext.refl _) (by kernel_rfl) (by kernel_rfl) (fun _ _ d _ _ h => by cases d <;> exact h) ?_
            rw [← hwd]
            clear hwd
            have h1 : ∀ W, Ext wd W → ∀ i, W.cell? ⟨wr.heap.size, i, none⟩ = (#[.string ot, .string oi, .string or_, .string st, .string si, .string sr] : Array Value)[i]? := fun W h => (hBd.below h).cells
            have k0 : ∀ W, Ext wd W → W.cell? ⟨gb, go + i * 3, none⟩ = _ := fun W h => Ext.cell (hEd.trans h) g0
            have k1 : ∀ W, Ext wd W → W.cell? ⟨gb, go + i * 3 + 1, none⟩ = _ := fun W h => Ext.cell (hEd.trans h) g1
            have k2 : ∀ W, Ext wd W → W.cell? ⟨gb, go + i * 3 + 2, none⟩ = _ := fun W h => Ext.cell (hEd.trans h) g2
            ((refine WalkN.take 0 _ ?_ (by simp only [List.getElem?_toArray, List.getElem?_cons_zero]; rfl) (by kernel_rfl) (by kernel_rfl) (by rfl) (fun W hW => ?_) ?_; rotate_left; · (go_simp; try with_reducible rfl)); simp only [Act.put, List.setIfInBounds_toArray, List.set_cons_zero, List.set_cons_succ]); ((refine WalkN.take 1 _ ?_ (by simp only [List.getElem?_toArray, List.getElem?_cons_succ, List.getElem?_cons_zero]; rfl) (by kernel_rfl) (by kernel_rfl) (by rfl) (fun W hW => ?_) ?_; rotate_left; · (go_simp; try with_reducible rfl)); simp only [Act.put, List.setIfInBounds_toArray, List.set_cons_zero, List.set_cons_succ]); ((refine WalkN.take 2 _ ?_ (by simp only [List.getElem?_toArray, List.getElem?_cons_succ, List.getElem?_cons_zero]; rfl) (by kernel_rfl) (by kernel_rfl) (by rfl) (fun W hW => ?_) ?_; rotate_left; · (go_simp; try with_reducible rfl)); simp only [Act.put, List.setIfInBounds_toArray, List.set_cons_zero, List.set_cons_succ]); ((refine WalkN.take 3 _ ?_ (by simp only [List.getElem?_toArray, List.getElem?_cons_succ, List.getElem?_cons_zero]; rfl) (by kernel_rfl) (by kernel_rfl) (by rfl) (fun W hW => ?_) ?_; rotate_left; · (go_simp; try with_reducible rfl)); simp only [Act.put, List.setIfInBounds_toArray, List.set_cons_zero, List.set_cons_succ]); ((refine WalkN.take 4 _ ?_ (by simp only [List.getElem?_toArray, List.getElem?_cons_succ, List.getElem?_cons_zero]; rfl) (by kernel_rfl) (by kernel_rfl) (by rfl) (fun W hW => ?_) ?_; rotate_left; · (go_simp; try with_reducible rfl)); simp only [Act.put, List.setIfInBounds_toArray, List.set_cons_zero, List.set_cons_succ]); ((refine WalkN.take 5 _ ?_ (by simp only [List.getElem?_toArray, List.getElem?_cons_succ, List.getElem?_cons_zero]; rfl) (by kernel_rfl) (by kernel_rfl) (by rfl) (fun W hW => ?_) ?_; rotate_left; · (go_simp; try with_reducible rfl)); simp only [Act.put, List.setIfInBounds_toArray, List.set_cons_zero, List.set_cons_succ]); ((refine WalkN.take 6 _ ?_ (by simp only [List.getElem?_toArray, List.getElem?_cons_succ, List.getElem?_cons_zero]; rfl) (by kernel_rfl) (by kernel_rfl) (by rfl) (fun W hW => ?_) ?_; rotate_left; · (go_simp; try with_reducible rfl)); simp only [Act.put, List.setIfInBounds_toArray, List.set_cons_zero, List.set_cons_succ]); ((refine WalkN.take 7 _ ?_ (by simp only [List.getElem?_toArray, List.getElem?_cons_succ, List.getElem?_cons_zero]; rfl) (by kernel_rfl) (by kernel_rfl) (by rfl) (fun W hW => ?_) ?_; rotate_left; · (go_simp; try with_reducible rfl)); simp only [Act.put, List.setIfInBounds_toArray, List.set_cons_zero, List.set_cons_succ]); ((refine WalkN.take 8 _ ?_ (by simp only [List.getElem?_toArray, List.getElem?_cons_succ, List.getElem?_cons_zero]; rfl) (by kernel_rfl) (by kernel_rfl) (by rfl) (fun W hW => ?_) ?_; rotate_left; · (go_simp; try with_reducible rfl)); simp only [Act.put, List.setIfInBounds_toArray, List.set_cons_zero, List.set_cons_succ])
            (refine WalkN.skip 9 _ (by simp only [List.getElem?_toArray, List.getElem?_cons_succ, List.getElem?_cons_zero]; rfl) (by kernel_rfl) (by kernel_rfl) (by rfl) ?_; simp only [Act.put, List.setIfInBounds_toArray, List.set_cons_zero, List.set_cons_succ]); (refine WalkN.skip 10 _ (by simp only [List.getElem?_toArray, List.getElem?_cons_succ, List.getElem?_cons_zero]; rfl) (by kernel_rfl) (by kernel_rfl) (by rfl) ?_; simp only [Act.put, List.setIfInBounds_toArray, List.set_cons_zero, List.set_cons_succ]); (refine WalkN.skip 11 _ (by simp only [List.getElem?_toArray, List.getElem?_cons_succ, List.getElem?_cons_zero]; rfl) (by kernel_rfl) (by kernel_rfl) (by rfl) ?_; simp only [Act.put, List.setIfInBounds_toArray, List.set_cons_zero, List.set_cons_succ]); (refine WalkN.skip 12 _ (by simp only [List.getElem?_toArray, List.getElem?_cons_succ, List.getElem?_cons_zero]; rfl) (by kernel_rfl) (by kernel_rfl) (by rfl) ?_; simp only [Act.put, List.setIfInBounds_toArray, List.set_cons_zero, List.set_cons_succ]); (refine WalkN.skip 13 _ (by simp only [List.getElem?_toArray, List.getElem?_cons_succ, List.getElem?_cons_zero]; rfl) (by kernel_rfl) (by kernel_rfl) (by rfl) ?_; simp only [Act.put, List.setIfInBounds_toArray, List.set_cons_zero, List.set_cons_succ]); (refine WalkN.skip 14 _ (by simp only [List.getElem?_toArray, List.getElem?_cons_succ, List.getElem?_cons_zero]; rfl) (by kernel_rfl) (by kernel_rfl) (by rfl) ?_; simp only [Act.put, List.setIfInBounds_toArray, List.set_cons_zero, List.set_cons_succ]); (refine WalkN.skip 15 _ (by simp only [List.getElem?_toArray, List.getElem?_cons_succ, List.getElem?_cons_zero]; rfl) (by kernel_rfl) (by kernel_rfl) (by rfl) ?_; simp only [Act.put, List.setIfInBounds_toArray, List.set_cons_zero, List.set_cons_succ]); (refine WalkN.skip 16 _ (by simp only [List.getElem?_toArray, List.getElem?_cons_succ, List.getElem?_cons_zero]; rfl) (by kernel_rfl) (by kernel_rfl) (by rfl) ?_; simp only [Act.put, List.setIfInBounds_toArray, List.set_cons_zero, List.set_cons_succ])
            ((refine WalkN.take 17 _ ?_ (by simp only [List.getElem?_toArray, List.getElem?_cons_succ, List.getElem?_cons_zero]; rfl) (by kernel_rfl) (by kernel_rfl) (by rfl) (fun W hW => ?_) ?_; rotate_left; · (go_simp; try with_reducible rfl)); simp only [Act.put, List.setIfInBounds_toArray, List.set_cons_zero, List.set_cons_succ]); ((refine WalkN.take 18 _ ?_ (by simp only [List.getElem?_toArray, List.getElem?_cons_succ, List.getElem?_cons_zero]; rfl) (by kernel_rfl) (by kernel_rfl) (by rfl) (fun W hW => ?_) ?_; rotate_left; · (go_simp; try with_reducible rfl)); simp only [Act.put, List.setIfInBounds_toArray, List.set_cons_zero, List.set_cons_succ])
            (refine WalkN.skip 19 _ (by simp only [List.getElem?_toArray, List.getElem?_cons_succ, List.getElem?_cons_zero]; rfl) (by kernel_rfl) (by kernel_rfl) (by rfl) ?_; simp only [Act.put, List.setIfInBounds_toArray, List.set_cons_zero, List.set_cons_succ]); (refine WalkN.skip 20 _ (by simp only [List.getElem?_toArray, List.getElem?_cons_succ, List.getElem?_cons_zero]; rfl) (by kernel_rfl) (by kernel_rfl) (by rfl) ?_; simp only [Act.put, List.setIfInBounds_toArray, List.set_cons_zero, List.set_cons_succ]); (refine WalkN.skip 21 _ (by simp only [List.getElem?_toArray, List.getElem?_cons_succ, List.getElem?_cons_zero]; rfl) (by kernel_rfl) (by kernel_rfl) (by rfl) ?_; simp only [Act.put, List.setIfInBounds_toArray, List.set_cons_zero, List.set_cons_succ]); (refine WalkN.skip 22 _ (by simp only [List.getElem?_toArray, List.getElem?_cons_succ, List.getElem?_cons_zero]; rfl) (by kernel_rfl) (by kernel_rfl) (by rfl) ?_; simp only [Act.put, List.setIfInBounds_toArray, List.set_cons_zero, List.set_cons_succ])
            ((refine WalkN.take 23 _ ?_ (by simp only [List.getElem?_toArray, List.getElem?_cons_succ, List.getElem?_cons_zero]; rfl) (by kernel_rfl) (by kernel_rfl) (by rfl) (fun W hW => ?_) ?_; rotate_left; · (go_simp; try with_reducible rfl)); simp only [Act.put, List.setIfInBounds_toArray, List.set_cons_zero, List.set_cons_succ])
            refine WalkN.done (by kernel_rfl) ?_
            have HOWE := Lib.hid (HOWj.out.below hEd)
            have HBE := Lib.hid (HBj.out.trans (Below.mono hEd HBj.out.size))
            have HPE := HPj
            clear h1 k0 k1 k2
            clear hno hBd hEd hBT hET g0 g1 g2
            have HNX := Lib.hid ((HST _ HCj.out (fun e => absurd e HNO.out)).out)
            go_wp2_with fail
            go_roundw
            case rel => exact ⟨j + 1, ext, by omega, by go_num, HOWE.out, HPE.out, HNX.out, HBE.out⟩
            case measure => simp [intOf]; omega
          obtain ⟨rfl, rfl⟩ := hA
          by_cases hB : or_ = cr
          rotate_left
          · have hno := ba_beq' hB
            rw [← ByteArray.toList_eq, ← ByteArray.toList_eq] at hno
            have HNO := Lib.hid (show (⟨ot, oi, or_⟩ : P3) ≠ ⟨ot, oi, cr⟩ from fun e => hB (by injection e))
            clear hB
            go_wp2_with fail
            try rw [← hwT]
            clear hwT d0 d1 d2 d3 d4 d5
            go_wp2_with fail
            obtain ⟨wd, hwd⟩ : ∃ wd, wd = wT.drew := ⟨_, rfl⟩
            have hBd : Blk wd wr.heap.size #[.string ot, .string oi, .string or_, .string st, .string si, .string sr] 32 := by rw [hwd]; exact hBT.drew
            have hEd : Ext wr wd := by rw [hwd]; exact hET.trans (Ext.drew _)
            refine region_walkN (Ext wd) (by rw [← hwd]; exact Ext.refl _) (by kernel_rfl) (by kernel_rfl) (fun _ _ d _ _ h => by cases d <;> exact h) ?_
            rw [← hwd]
            clear hwd
            have h1 : ∀ W, Ext wd W → ∀ i, W.cell? ⟨wr.heap.size, i, none⟩ = (#[.string ot, .string oi, .string or_, .string st, .string si, .string sr] : Array Value)[i]? := fun W h => (hBd.below h).cells
            have k0 : ∀ W, Ext wd W → W.cell? ⟨gb, go + i * 3, none⟩ = _ := fun W h => Ext.cell (hEd.trans h) g0
            have k1 : ∀ W, Ext wd W → W.cell? ⟨gb, go + i * 3 + 1, none⟩ = _ := fun W h => Ext.cell (hEd.trans h) g1
            have k2 : ∀ W, Ext wd W → W.cell? ⟨gb, go + i * 3 + 2, none⟩ = _ := fun W h => Ext.cell (hEd.trans h) g2
            ((refine WalkN.take 0 _ ?_ (by simp only [List.getElem?_toArray, List.getElem?_cons_zero]; rfl) (by kernel_rfl) (by kernel_rfl) (by rfl) (fun W hW => ?_) ?_; rotate_left; · (go_simp; try with_reducible rfl)); simp only [Act.put, List.setIfInBounds_toArray, List.set_cons_zero, List.set_cons_succ]); ((refine WalkN.take 1 _ ?_ (by simp only [List.getElem?_toArray, List.getElem?_cons_succ, List.getElem?_cons_zero]; rfl) (by kernel_rfl) (by kernel_rfl) (by rfl) (fun W hW => ?_) ?_; rotate_left; · (go_simp; try with_reducible rfl)); simp only [Act.put, List.setIfInBounds_toArray, List.set_cons_zero, List.set_cons_succ]); ((refine WalkN.take 2 _ ?_ (by simp only [List.getElem?_toArray, List.getElem?_cons_succ, List.getElem?_cons_zero]; rfl) (by kernel_rfl) (by kernel_rfl) (by rfl) (fun W hW => ?_) ?_; rotate_left; · (go_simp; try with_reducible rfl)); simp only [Act.put, List.setIfInBounds_toArray, List.set_cons_zero, List.set_cons_succ]); ((refine WalkN.take 3 _ ?_ (by simp only [List.getElem?_toArray, List.getElem?_cons_succ, List.getElem?_cons_zero]; rfl) (by kernel_rfl) (by kernel_rfl) (by rfl) (fun W hW => ?_) ?_; rotate_left; · (go_simp; try with_reducible rfl)); simp only [Act.put, List.setIfInBounds_toArray, List.set_cons_zero, List.set_cons_succ]); ((refine WalkN.take 4 _ ?_ (by simp only [List.getElem?_toArray, List.getElem?_cons_succ, List.getElem?_cons_zero]; rfl) (by kernel_rfl) (by kernel_rfl) (by rfl) (fun W hW => ?_) ?_; rotate_left; · (go_simp; try with_reducible rfl)); simp only [Act.put, List.setIfInBounds_toArray, List.set_cons_zero, List.set_cons_succ]); ((refine WalkN.take 5 _ ?_ (by simp only [List.getElem?_toArray, List.getElem?_cons_succ, List.getElem?_cons_zero]; rfl) (by kernel_rfl) (by kernel_rfl) (by rfl) (fun W hW => ?_) ?_; rotate_left; · (go_simp; try with_reducible rfl)); simp only [Act.put, List.setIfInBounds_toArray, List.set_cons_zero, List.set_cons_succ]); ((refine WalkN.take 6 _ ?_ (by simp only [List.getElem?_toArray, List.getElem?_cons_succ, List.getElem?_cons_zero]; rfl) (by kernel_rfl) (by kernel_rfl) (by rfl) (fun W hW => ?_) ?_; rotate_left; · (go_simp; try with_reducible rfl)); simp only [Act.put, List.setIfInBounds_toArray, List.set_cons_zero, List.set_cons_succ]); ((refine WalkN.take 7 _ ?_ (by simp only [List.getElem?_toArray, List.getElem?_cons_succ, List.getElem?_cons_zero]; rfl) (by kernel_rfl) (by kernel_rfl) (by rfl) (fun W hW => ?_) ?_; rotate_left; · (go_simp; try with_reducible rfl)); simp only [Act.put, List.setIfInBounds_toArray, List.set_cons_zero, List.set_cons_succ]); ((refine WalkN.take 8 _ ?_ (by simp only [List.getElem?_toArray, List.getElem?_cons_succ, List.getElem?_cons_zero]; rfl) (by kernel_rfl) (by kernel_rfl) (by rfl) (fun W hW => ?_) ?_; rotate_left; · (go_simp; try with_reducible rfl)); simp only [Act.put, List.setIfInBounds_toArray, List.set_cons_zero, List.set_cons_succ]); ((refine WalkN.take 9 _ ?_ (by simp only [List.getElem?_toArray, List.getElem?_cons_succ, List.getElem?_cons_zero]; rfl) (by kernel_rfl) (by kernel_rfl) (by rfl) (fun W hW => ?_) ?_; rotate_left; · (go_simp; try with_reducible rfl)); simp only [Act.put, List.setIfInBounds_toArray, List.set_cons_zero, List.set_cons_succ]); ((refine WalkN.take 10 _ ?_ (by simp only [List.getElem?_toArray, List.getElem?_cons_succ, List.getElem?_cons_zero]; rfl) (by kernel_rfl) (by kernel_rfl) (by rfl) (fun W hW => ?_) ?_; rotate_left; · (go_simp; try with_reducible rfl)); simp only [Act.put, List.setIfInBounds_toArray, List.set_cons_zero, List.set_cons_succ]); ((refine WalkN.take 11 _ ?_ (by simp only [List.getElem?_toArray, List.getElem?_cons_succ, List.getElem?_cons_zero]; rfl) (by kernel_rfl) (by kernel_rfl) (by rfl) (fun W hW => ?_) ?_; rotate_left; · (go_simp; try with_reducible rfl)); simp only [Act.put, List.setIfInBounds_toArray, List.set_cons_zero, List.set_cons_succ]); ((refine WalkN.take 12 _ ?_ (by simp only [List.getElem?_toArray, List.getElem?_cons_succ, List.getElem?_cons_zero]; rfl) (by kernel_rfl) (by kernel_rfl) (by rfl) (fun W hW => ?_) ?_; rotate_left; · (go_simp; try with_reducible rfl)); simp only [Act.put, List.setIfInBounds_toArray, List.set_cons_zero, List.set_cons_succ]); ((refine WalkN.take 13 _ ?_ (by simp only [List.getElem?_toArray, List.getElem?_cons_succ, List.getElem?_cons_zero]; rfl) (by kernel_rfl) (by kernel_rfl) (by rfl) (fun W hW => ?_) ?_; rotate_left; · (go_simp; try with_reducible rfl)); simp only [Act.put, List.setIfInBounds_toArray, List.set_cons_zero, List.set_cons_succ]); ((refine WalkN.take 14 _ ?_ (by simp only [List.getElem?_toArray, List.getElem?_cons_succ, List.getElem?_cons_zero]; rfl) (by kernel_rfl) (by kernel_rfl) (by rfl) (fun W hW => ?_) ?_; rotate_left; · (go_simp; try with_reducible rfl)); simp only [Act.put, List.setIfInBounds_toArray, List.set_cons_zero, List.set_cons_succ]); ((refine WalkN.take 15 _ ?_ (by simp only [List.getElem?_toArray, List.getElem?_cons_succ, List.getElem?_cons_zero]; rfl) (by kernel_rfl) (by kernel_rfl) (by rfl) (fun W hW => ?_) ?_; rotate_left; · (go_simp; try with_reducible rfl)); simp only [Act.put, List.setIfInBounds_toArray, List.set_cons_zero, List.set_cons_succ]); ((refine WalkN.take 16 _ ?_ (by simp only [List.getElem?_toArray, List.getElem?_cons_succ, List.getElem?_cons_zero]; rfl) (by kernel_rfl) (by kernel_rfl) (by rfl) (fun W hW => ?_) ?_; rotate_left; · (go_simp; try with_reducible rfl)); simp only [Act.put, List.setIfInBounds_toArray, List.set_cons_zero, List.set_cons_succ]); ((refine WalkN.take 17 _ ?_ (by simp only [List.getElem?_toArray, List.getElem?_cons_succ, List.getElem?_cons_zero]; rfl) (by kernel_rfl) (by kernel_rfl) (by rfl) (fun W hW => ?_) ?_; rotate_left; · (go_simp; try with_reducible rfl)); simp only [Act.put, List.setIfInBounds_toArray, List.set_cons_zero, List.set_cons_succ]); ((refine WalkN.take 18 _ ?_ (by simp only [List.getElem?_toArray, List.getElem?_cons_succ, List.getElem?_cons_zero]; rfl) (by kernel_rfl) (by kernel_rfl) (by rfl) (fun W hW => ?_) ?_; rotate_left; · (go_simp; try with_reducible rfl)); simp only [Act.put, List.setIfInBounds_toArray, List.set_cons_zero, List.set_cons_succ])
            (refine WalkN.skip 19 _ (by simp only [List.getElem?_toArray, List.getElem?_cons_succ, List.getElem?_cons_zero]; rfl) (by kernel_rfl) (by kernel_rfl) (by rfl) ?_; simp only [Act.put, List.setIfInBounds_toArray, List.set_cons_zero, List.set_cons_succ]); (refine WalkN.skip 20 _ (by simp only [List.getElem?_toArray, List.getElem?_cons_succ, List.getElem?_cons_zero]; rfl) (by kernel_rfl) (by kernel_rfl) (by rfl) ?_; simp only [Act.put, List.setIfInBounds_toArray, List.set_cons_zero, List.set_cons_succ]); (refine WalkN.skip 21 _ (by simp only [List.getElem?_toArray, List.getElem?_cons_succ, List.getElem?_cons_zero]; rfl) (by kernel_rfl) (by kernel_rfl) (by rfl) ?_; simp only [Act.put, List.setIfInBounds_toArray, List.set_cons_zero, List.set_cons_succ]); (refine WalkN.skip 22 _ (by simp only [List.getElem?_toArray, List.getElem?_cons_succ, List.getElem?_cons_zero]; rfl) (by kernel_rfl) (by kernel_rfl) (by rfl) ?_; simp only [Act.put, List.setIfInBounds_toArray, List.set_cons_zero, List.set_cons_succ])
            ((refine WalkN.take 23 _ ?_ (by simp only [List.getElem?_toArray, List.getElem?_cons_succ, List.getElem?_cons_zero]; rfl) (by kernel_rfl) (by kernel_rfl) (by rfl) (fun W hW => ?_) ?_; rotate_left; · (go_simp; try with_reducible rfl)); simp only [Act.put, List.setIfInBounds_toArray, List.set_cons_zero, List.set_cons_succ])
            refine WalkN.done (by kernel_rfl) ?_
            have HOWE := Lib.hid (HOWj.out.below hEd)
            have HBE := Lib.hid (HBj.out.trans (Below.mono hEd HBj.out.size))
            have HPE := HPj
            clear h1 k0 k1 k2
            clear hno hBd hEd hBT hET g0 g1 g2
            have HNX := Lib.hid ((HST _ HCj.out (fun e => absurd e HNO.out)).out)
            go_wp2_with fail
            go_roundw
            case rel => exact ⟨j + 1, ext, by omega, by go_num, HOWE.out, HPE.out, HNX.out, HBE.out⟩
            case measure => simp [intOf]; omega
          subst hB
          by_cases h0 : sr.size = 0
          · obtain rfl := ba_size_eq h0
            clear h0
            go_wp2_with fail
            try rw [← hwT]
            clear hwT d0 d1 d2 d3 d4 d5
            go_wp2_with fail
            obtain ⟨wd, hwd⟩ : ∃ wd, wd = wT.drew := ⟨_, rfl⟩
            have hBd : Blk wd wr.heap.size #[.string ot, .string oi, .string or_, .string st, .string si, .string ⟨#[]⟩] 32 := by rw [hwd]; exact hBT.drew
            have hEd : Ext wr wd := by rw [hwd]; exact hET.trans (Ext.drew _)
            refine region_walkN (Ext wd) (by rw [← hwd]; exact Ext.refl _) (by kernel_rfl) (by kernel_rfl) (fun _ _ d _ _ h => by cases d <;> exact h) ?_
            rw [← hwd]
            clear hwd
            have h1 : ∀ W, Ext wd W → ∀ i, W.cell? ⟨wr.heap.size, i, none⟩ = (#[.string ot, .string oi, .string or_, .string st, .string si, .string ⟨#[]⟩] : Array Value)[i]? := fun W h => (hBd.below h).cells
            have k0 : ∀ W, Ext wd W → W.cell? ⟨gb, go + i * 3, none⟩ = _ := fun W h => Ext.cell (hEd.trans h) g0
            have k1 : ∀ W, Ext wd W → W.cell? ⟨gb, go + i * 3 + 1, none⟩ = _ := fun W h => Ext.cell (hEd.trans h) g1
            have k2 : ∀ W, Ext wd W → W.cell? ⟨gb, go + i * 3 + 2, none⟩ = _ := fun W h => Ext.cell (hEd.trans h) g2
            ((refine WalkN.take 0 _ ?_ (by simp only [List.getElem?_toArray, List.getElem?_cons_zero]; rfl) (by kernel_rfl) (by kernel_rfl) (by rfl) (fun W hW => ?_) ?_; rotate_left; · (go_simp; try with_reducible rfl)); simp only [Act.put, List.setIfInBounds_toArray, List.set_cons_zero, List.set_cons_succ]); ((refine WalkN.take 1 _ ?_ (by simp only [List.getElem?_toArray, List.getElem?_cons_succ, List.getElem?_cons_zero]; rfl) (by kernel_rfl) (by kernel_rfl) (by rfl) (fun W hW => ?_) ?_; rotate_left; · (go_simp; try with_reducible rfl)); simp only [Act.put, List.setIfInBounds_toArray, List.set_cons_zero, List.set_cons_succ]); ((refine WalkN.take 2 _ ?_ (by simp only [List.getElem?_toArray, List.getElem?_cons_succ, List.getElem?_cons_zero]; rfl) (by kernel_rfl) (by kernel_rfl) (by rfl) (fun W hW => ?_) ?_; rotate_left; · (go_simp; try with_reducible rfl)); simp only [Act.put, List.setIfInBounds_toArray, List.set_cons_zero, List.set_cons_succ]); ((refine WalkN.take 3 _ ?_ (by simp only [List.getElem?_toArray, List.getElem?_cons_succ, List.getElem?_cons_zero]; rfl) (by kernel_rfl) (by kernel_rfl) (by rfl) (fun W hW => ?_) ?_; rotate_left; · (go_simp; try with_reducible rfl)); simp only [Act.put, List.setIfInBounds_toArray, List.set_cons_zero, List.set_cons_succ]); ((refine WalkN.take 4 _ ?_ (by simp only [List.getElem?_toArray, List.getElem?_cons_succ, List.getElem?_cons_zero]; rfl) (by kernel_rfl) (by kernel_rfl) (by rfl) (fun W hW => ?_) ?_; rotate_left; · (go_simp; try with_reducible rfl)); simp only [Act.put, List.setIfInBounds_toArray, List.set_cons_zero, List.set_cons_succ]); ((refine WalkN.take 5 _ ?_ (by simp only [List.getElem?_toArray, List.getElem?_cons_succ, List.getElem?_cons_zero]; rfl) (by kernel_rfl) (by kernel_rfl) (by rfl) (fun W hW => ?_) ?_; rotate_left; · (go_simp; try with_reducible rfl)); simp only [Act.put, List.setIfInBounds_toArray, List.set_cons_zero, List.set_cons_succ]); ((refine WalkN.take 6 _ ?_ (by simp only [List.getElem?_toArray, List.getElem?_cons_succ, List.getElem?_cons_zero]; rfl) (by kernel_rfl) (by kernel_rfl) (by rfl) (fun W hW => ?_) ?_; rotate_left; · (go_simp; try with_reducible rfl)); simp only [Act.put, List.setIfInBounds_toArray, List.set_cons_zero, List.set_cons_succ]); ((refine WalkN.take 7 _ ?_ (by simp only [List.getElem?_toArray, List.getElem?_cons_succ, List.getElem?_cons_zero]; rfl) (by kernel_rfl) (by kernel_rfl) (by rfl) (fun W hW => ?_) ?_; rotate_left; · (go_simp; try with_reducible rfl)); simp only [Act.put, List.setIfInBounds_toArray, List.set_cons_zero, List.set_cons_succ]); ((refine WalkN.take 8 _ ?_ (by simp only [List.getElem?_toArray, List.getElem?_cons_succ, List.getElem?_cons_zero]; rfl) (by kernel_rfl) (by kernel_rfl) (by rfl) (fun W hW => ?_) ?_; rotate_left; · (go_simp; try with_reducible rfl)); simp only [Act.put, List.setIfInBounds_toArray, List.set_cons_zero, List.set_cons_succ]); ((refine WalkN.take 9 _ ?_ (by simp only [List.getElem?_toArray, List.getElem?_cons_succ, List.getElem?_cons_zero]; rfl) (by kernel_rfl) (by kernel_rfl) (by rfl) (fun W hW => ?_) ?_; rotate_left; · (go_simp; try with_reducible rfl)); simp only [Act.put, List.setIfInBounds_toArray, List.set_cons_zero, List.set_cons_succ]); ((refine WalkN.take 10 _ ?_ (by simp only [List.getElem?_toArray, List.getElem?_cons_succ, List.getElem?_cons_zero]; rfl) (by kernel_rfl) (by kernel_rfl) (by rfl) (fun W hW => ?_) ?_; rotate_left; · (go_simp; try with_reducible rfl)); simp only [Act.put, List.setIfInBounds_toArray, List.set_cons_zero, List.set_cons_succ]); ((refine WalkN.take 11 _ ?_ (by simp only [List.getElem?_toArray, List.getElem?_cons_succ, List.getElem?_cons_zero]; rfl) (by kernel_rfl) (by kernel_rfl) (by rfl) (fun W hW => ?_) ?_; rotate_left; · (go_simp; try with_reducible rfl)); simp only [Act.put, List.setIfInBounds_toArray, List.set_cons_zero, List.set_cons_succ]); ((refine WalkN.take 12 _ ?_ (by simp only [List.getElem?_toArray, List.getElem?_cons_succ, List.getElem?_cons_zero]; rfl) (by kernel_rfl) (by kernel_rfl) (by rfl) (fun W hW => ?_) ?_; rotate_left; · (go_simp; try with_reducible rfl)); simp only [Act.put, List.setIfInBounds_toArray, List.set_cons_zero, List.set_cons_succ]); ((refine WalkN.take 13 _ ?_ (by simp only [List.getElem?_toArray, List.getElem?_cons_succ, List.getElem?_cons_zero]; rfl) (by kernel_rfl) (by kernel_rfl) (by rfl) (fun W hW => ?_) ?_; rotate_left; · (go_simp; try with_reducible rfl)); simp only [Act.put, List.setIfInBounds_toArray, List.set_cons_zero, List.set_cons_succ]); ((refine WalkN.take 14 _ ?_ (by simp only [List.getElem?_toArray, List.getElem?_cons_succ, List.getElem?_cons_zero]; rfl) (by kernel_rfl) (by kernel_rfl) (by rfl) (fun W hW => ?_) ?_; rotate_left; · (go_simp; try with_reducible rfl)); simp only [Act.put, List.setIfInBounds_toArray, List.set_cons_zero, List.set_cons_succ]); ((refine WalkN.take 15 _ ?_ (by simp only [List.getElem?_toArray, List.getElem?_cons_succ, List.getElem?_cons_zero]; rfl) (by kernel_rfl) (by kernel_rfl) (by rfl) (fun W hW => ?_) ?_; rotate_left; · (go_simp; try with_reducible rfl)); simp only [Act.put, List.setIfInBounds_toArray, List.set_cons_zero, List.set_cons_succ]); ((refine WalkN.take 16 _ ?_ (by simp only [List.getElem?_toArray, List.getElem?_cons_succ, List.getElem?_cons_zero]; rfl) (by kernel_rfl) (by kernel_rfl) (by rfl) (fun W hW => ?_) ?_; rotate_left; · (go_simp; try with_reducible rfl)); simp only [Act.put, List.setIfInBounds_toArray, List.set_cons_zero, List.set_cons_succ]); ((refine WalkN.take 17 _ ?_ (by simp only [List.getElem?_toArray, List.getElem?_cons_succ, List.getElem?_cons_zero]; rfl) (by kernel_rfl) (by kernel_rfl) (by rfl) (fun W hW => ?_) ?_; rotate_left; · (go_simp; try with_reducible rfl)); simp only [Act.put, List.setIfInBounds_toArray, List.set_cons_zero, List.set_cons_succ]); ((refine WalkN.take 18 _ ?_ (by simp only [List.getElem?_toArray, List.getElem?_cons_succ, List.getElem?_cons_zero]; rfl) (by kernel_rfl) (by kernel_rfl) (by rfl) (fun W hW => ?_) ?_; rotate_left; · (go_simp; try with_reducible rfl)); simp only [Act.put, List.setIfInBounds_toArray, List.set_cons_zero, List.set_cons_succ]); ((refine WalkN.take 19 _ ?_ (by simp only [List.getElem?_toArray, List.getElem?_cons_succ, List.getElem?_cons_zero]; rfl) (by kernel_rfl) (by kernel_rfl) (by rfl) (fun W hW => ?_) ?_; rotate_left; · (go_simp; try with_reducible rfl)); simp only [Act.put, List.setIfInBounds_toArray, List.set_cons_zero, List.set_cons_succ]); ((refine WalkN.take 20 _ ?_ (by simp only [List.getElem?_toArray, List.getElem?_cons_succ, List.getElem?_cons_zero]; rfl) (by kernel_rfl) (by kernel_rfl) (by rfl) (fun W hW => ?_) ?_; rotate_left; · (go_simp; try with_reducible rfl)); simp only [Act.put, List.setIfInBounds_toArray, List.set_cons_zero, List.set_cons_succ]); ((refine WalkN.take 21 _ ?_ (by simp only [List.getElem?_toArray, List.getElem?_cons_succ, List.getElem?_cons_zero]; rfl) (by kernel_rfl) (by kernel_rfl) (by rfl) (fun W hW => ?_) ?_; rotate_left; · (go_simp; try with_reducible rfl)); simp only [Act.put, List.setIfInBounds_toArray, List.set_cons_zero, List.set_cons_succ]); ((refine WalkN.take 22 _ ?_ (by simp only [List.getElem?_toArray, List.getElem?_cons_succ, List.getElem?_cons_zero]; rfl) (by kernel_rfl) (by kernel_rfl) (by rfl) (fun W hW => ?_) ?_; rotate_left; · (go_simp; try with_reducible rfl)); simp only [Act.put, List.setIfInBounds_toArray, List.set_cons_zero, List.set_cons_succ]); ((refine WalkN.take 23 _ ?_ (by simp only [List.getElem?_toArray, List.getElem?_cons_succ, List.getElem?_cons_zero]; rfl) (by kernel_rfl) (by kernel_rfl) (by rfl) (fun W hW => ?_) ?_; rotate_left; · (go_simp; try with_reducible rfl)); simp only [Act.put, List.setIfInBounds_toArray, List.set_cons_zero, List.set_cons_succ])
            refine WalkN.done (by kernel_rfl) ?_
            have HOWE := Lib.hid (HOWj.out.below hEd)
            have HBE := Lib.hid (HBj.out.trans (Below.mono hEd HBj.out.size))
            have HPE := HPj
            clear h1 k0 k1 k2
            clear hBd hEd hBT hET g0 g1 g2
            have HNX := Lib.hid ((HST _ HCj.out (fun _ h => absurd rfl h)).out)
            go_wp2_with fail
            go_roundw
            case rel => exact ⟨j + 1, ext, by omega, by go_num, HOWE.out, HPE.out, HNX.out, HBE.out⟩
            case measure => simp [intOf]; omega
          have hne := ba_size_ne h0
          have HSET := Lib.hid (show P3.isSet ⟨st, si, sr⟩ from h0)
          clear h0
          go_wp2_with fail
          try rw [← hwT]
          clear hwT d0 d1 d2 d3 d4 d5
          go_wp2_with fail
          obtain ⟨wd, hwd⟩ : ∃ wd, wd = wT.drew := ⟨_, rfl⟩
          have hBd : Blk wd wr.heap.size #[.string ot, .string oi, .string or_, .string st, .string si, .string sr] 32 := by rw [hwd]; exact hBT.drew
          have hEd : Ext wr wd := by rw [hwd]; exact hET.trans (Ext.drew _)
          refine region_walkN (Ext wd) (by rw [← hwd]; exact Ext.refl _) (by kernel_rfl) (by kernel_rfl) (fun _ _ d _ _ h => by cases d <;> exact h) ?_
          rw [← hwd]
          clear hwd
          have h1 : ∀ W, Ext wd W → ∀ i, W.cell? ⟨wr.heap.size, i, none⟩ = (#[.string ot, .string oi, .string or_, .string st, .string si, .string sr] : Array Value)[i]? := fun W h => (hBd.below h).cells
          have k0 : ∀ W, Ext wd W → W.cell? ⟨gb, go + i * 3, none⟩ = _ := fun W h => Ext.cell (hEd.trans h) g0
          have k1 : ∀ W, Ext wd W → W.cell? ⟨gb, go + i * 3 + 1, none⟩ = _ := fun W h => Ext.cell (hEd.trans h) g1
          have k2 : ∀ W, Ext wd W → W.cell? ⟨gb, go + i * 3 + 2, none⟩ = _ := fun W h => Ext.cell (hEd.trans h) g2
          ((refine WalkN.take 0 _ ?_ (by simp only [List.getElem?_toArray, List.getElem?_cons_zero]; rfl) (by kernel_rfl) (by kernel_rfl) (by rfl) (fun W hW => ?_) ?_; rotate_left; · (go_simp; try with_reducible rfl)); simp only [Act.put, List.setIfInBounds_toArray, List.set_cons_zero, List.set_cons_succ]); ((refine WalkN.take 1 _ ?_ (by simp only [List.getElem?_toArray, List.getElem?_cons_succ, List.getElem?_cons_zero]; rfl) (by kernel_rfl) (by kernel_rfl) (by rfl) (fun W hW => ?_) ?_; rotate_left; · (go_simp; try with_reducible rfl)); simp only [Act.put, List.setIfInBounds_toArray, List.set_cons_zero, List.set_cons_succ]); ((refine WalkN.take 2 _ ?_ (by simp only [List.getElem?_toArray, List.getElem?_cons_succ, List.getElem?_cons_zero]; rfl) (by kernel_rfl) (by kernel_rfl) (by rfl) (fun W hW => ?_) ?_; rotate_left; · (go_simp; try with_reducible rfl)); simp only [Act.put, List.setIfInBounds_toArray, List.set_cons_zero, List.set_cons_succ]); ((refine WalkN.take 3 _ ?_ (by simp only [List.getElem?_toArray, List.getElem?_cons_succ, List.getElem?_cons_zero]; rfl) (by kernel_rfl) (by kernel_rfl) (by rfl) (fun W hW => ?_) ?_; rotate_left; · (go_simp; try with_reducible rfl)); simp only [Act.put, List.setIfInBounds_toArray, List.set_cons_zero, List.set_cons_succ]); ((refine WalkN.take 4 _ ?_ (by simp only [List.getElem?_toArray, List.getElem?_cons_succ, List.getElem?_cons_zero]; rfl) (by kernel_rfl) (by kernel_rfl) (by rfl) (fun W hW => ?_) ?_; rotate_left; · (go_simp; try with_reducible rfl)); simp only [Act.put, List.setIfInBounds_toArray, List.set_cons_zero, List.set_cons_succ]); ((refine WalkN.take 5 _ ?_ (by simp only [List.getElem?_toArray, List.getElem?_cons_succ, List.getElem?_cons_zero]; rfl) (by kernel_rfl) (by kernel_rfl) (by rfl) (fun W hW => ?_) ?_; rotate_left; · (go_simp; try with_reducible rfl)); simp only [Act.put, List.setIfInBounds_toArray, List.set_cons_zero, List.set_cons_succ]); ((refine WalkN.take 6 _ ?_ (by simp only [List.getElem?_toArray, List.getElem?_cons_succ, List.getElem?_cons_zero]; rfl) (by kernel_rfl) (by kernel_rfl) (by rfl) (fun W hW => ?_) ?_; rotate_left; · (go_simp; try with_reducible rfl)); simp only [Act.put, List.setIfInBounds_toArray, List.set_cons_zero, List.set_cons_succ]); ((refine WalkN.take 7 _ ?_ (by simp only [List.getElem?_toArray, List.getElem?_cons_succ, List.getElem?_cons_zero]; rfl) (by kernel_rfl) (by kernel_rfl) (by rfl) (fun W hW => ?_) ?_; rotate_left; · (go_simp; try with_reducible rfl)); simp only [Act.put, List.setIfInBounds_toArray, List.set_cons_zero, List.set_cons_succ]); ((refine WalkN.take 8 _ ?_ (by simp only [List.getElem?_toArray, List.getElem?_cons_succ, List.getElem?_cons_zero]; rfl) (by kernel_rfl) (by kernel_rfl) (by rfl) (fun W hW => ?_) ?_; rotate_left; · (go_simp; try with_reducible rfl)); simp only [Act.put, List.setIfInBounds_toArray, List.set_cons_zero, List.set_cons_succ]); ((refine WalkN.take 9 _ ?_ (by simp only [List.getElem?_toArray, List.getElem?_cons_succ, List.getElem?_cons_zero]; rfl) (by kernel_rfl) (by kernel_rfl) (by rfl) (fun W hW => ?_) ?_; rotate_left; · (go_simp; try with_reducible rfl)); simp only [Act.put, List.setIfInBounds_toArray, List.set_cons_zero, List.set_cons_succ]); ((refine WalkN.take 10 _ ?_ (by simp only [List.getElem?_toArray, List.getElem?_cons_succ, List.getElem?_cons_zero]; rfl) (by kernel_rfl) (by kernel_rfl) (by rfl) (fun W hW => ?_) ?_; rotate_left; · (go_simp; try with_reducible rfl)); simp only [Act.put, List.setIfInBounds_toArray, List.set_cons_zero, List.set_cons_succ]); ((refine WalkN.take 11 _ ?_ (by simp only [List.getElem?_toArray, List.getElem?_cons_succ, List.getElem?_cons_zero]; rfl) (by kernel_rfl) (by kernel_rfl) (by rfl) (fun W hW => ?_) ?_; rotate_left; · (go_simp; try with_reducible rfl)); simp only [Act.put, List.setIfInBounds_toArray, List.set_cons_zero, List.set_cons_succ]); ((refine WalkN.take 12 _ ?_ (by simp only [List.getElem?_toArray, List.getElem?_cons_succ, List.getElem?_cons_zero]; rfl) (by kernel_rfl) (by kernel_rfl) (by rfl) (fun W hW => ?_) ?_; rotate_left; · (go_simp; try with_reducible rfl)); simp only [Act.put, List.setIfInBounds_toArray, List.set_cons_zero, List.set_cons_succ]); ((refine WalkN.take 13 _ ?_ (by simp only [List.getElem?_toArray, List.getElem?_cons_succ, List.getElem?_cons_zero]; rfl) (by kernel_rfl) (by kernel_rfl) (by rfl) (fun W hW => ?_) ?_; rotate_left; · (go_simp; try with_reducible rfl)); simp only [Act.put, List.setIfInBounds_toArray, List.set_cons_zero, List.set_cons_succ]); ((refine WalkN.take 14 _ ?_ (by simp only [List.getElem?_toArray, List.getElem?_cons_succ, List.getElem?_cons_zero]; rfl) (by kernel_rfl) (by kernel_rfl) (by rfl) (fun W hW => ?_) ?_; rotate_left; · (go_simp; try with_reducible rfl)); simp only [Act.put, List.setIfInBounds_toArray, List.set_cons_zero, List.set_cons_succ]); ((refine WalkN.take 15 _ ?_ (by simp only [List.getElem?_toArray, List.getElem?_cons_succ, List.getElem?_cons_zero]; rfl) (by kernel_rfl) (by kernel_rfl) (by rfl) (fun W hW => ?_) ?_; rotate_left; · (go_simp; try with_reducible rfl)); simp only [Act.put, List.setIfInBounds_toArray, List.set_cons_zero, List.set_cons_succ]); ((refine WalkN.take 16 _ ?_ (by simp only [List.getElem?_toArray, List.getElem?_cons_succ, List.getElem?_cons_zero]; rfl) (by kernel_rfl) (by kernel_rfl) (by rfl) (fun W hW => ?_) ?_; rotate_left; · (go_simp; try with_reducible rfl)); simp only [Act.put, List.setIfInBounds_toArray, List.set_cons_zero, List.set_cons_succ]); ((refine WalkN.take 17 _ ?_ (by simp only [List.getElem?_toArray, List.getElem?_cons_succ, List.getElem?_cons_zero]; rfl) (by kernel_rfl) (by kernel_rfl) (by rfl) (fun W hW => ?_) ?_; rotate_left; · (go_simp; try with_reducible rfl)); simp only [Act.put, List.setIfInBounds_toArray, List.set_cons_zero, List.set_cons_succ]); ((refine WalkN.take 18 _ ?_ (by simp only [List.getElem?_toArray, List.getElem?_cons_succ, List.getElem?_cons_zero]; rfl) (by kernel_rfl) (by kernel_rfl) (by rfl) (fun W hW => ?_) ?_; rotate_left; · (go_simp; try with_reducible rfl)); simp only [Act.put, List.setIfInBounds_toArray, List.set_cons_zero, List.set_cons_succ]); ((refine WalkN.take 19 _ ?_ (by simp only [List.getElem?_toArray, List.getElem?_cons_succ, List.getElem?_cons_zero]; rfl) (by kernel_rfl) (by kernel_rfl) (by rfl) (fun W hW => ?_) ?_; rotate_left; · (go_simp; try with_reducible rfl)); simp only [Act.put, List.setIfInBounds_toArray, List.set_cons_zero, List.set_cons_succ]); ((refine WalkN.take 20 _ ?_ (by simp only [List.getElem?_toArray, List.getElem?_cons_succ, List.getElem?_cons_zero]; rfl) (by kernel_rfl) (by kernel_rfl) (by rfl) (fun W hW => ?_) ?_; rotate_left; · (go_simp; try with_reducible rfl)); simp only [Act.put, List.setIfInBounds_toArray, List.set_cons_zero, List.set_cons_succ]); ((refine WalkN.take 21 _ ?_ (by simp only [List.getElem?_toArray, List.getElem?_cons_succ, List.getElem?_cons_zero]; rfl) (by kernel_rfl) (by kernel_rfl) (by rfl) (fun W hW => ?_) ?_; rotate_left; · (go_simp; try with_reducible rfl)); simp only [Act.put, List.setIfInBounds_toArray, List.set_cons_zero, List.set_cons_succ]); ((refine WalkN.take 22 _ ?_ (by simp only [List.getElem?_toArray, List.getElem?_cons_succ, List.getElem?_cons_zero]; rfl) (by kernel_rfl) (by kernel_rfl) (by rfl) (fun W hW => ?_) ?_; rotate_left; · (go_simp; try with_reducible rfl)); simp only [Act.put, List.setIfInBounds_toArray, List.set_cons_zero, List.set_cons_succ]); ((refine WalkN.take 23 _ ?_ (by simp only [List.getElem?_toArray, List.getElem?_cons_succ, List.getElem?_cons_zero]; rfl) (by kernel_rfl) (by kernel_rfl) (by rfl) (fun W hW => ?_) ?_; rotate_left; · (go_simp; try with_reducible rfl)); simp only [Act.put, List.setIfInBounds_toArray, List.set_cons_zero, List.set_cons_succ])
          refine WalkN.done (by kernel_rfl) ?_
          have HOWE := Lib.hid (HOWj.out.below hEd)
          have HBE := Lib.hid (HBj.out.trans (Below.mono hEd HBj.out.size))
          have HPE := HPj
          clear h1 k0 k1 k2
          have hcT := hBd.cells
          have hE5 : Ext wd (wd.alloc (.cells #[.string st, .string si, .string sr] 37)) := Ext.alloc _ _
          have hBQ := Blk.made wd #[.string st, .string si, .string sr] 37
          have HOWQ := Lib.hid (HOWE.out.below hE5)
          have HBQ := Lib.hid (HBE.out.trans (Below.mono hE5 HBE.out.size))
          clear hBd hEd hBT hET g0 g1 g2 hE5
          go_wp2_with fail
          clear hcT
          generalize wd.alloc (.cells #[.string st, .string si, .string sr] 37) = wq at *
          generalize wd.heap.size = qb at *
          go_loopw [10, 60] (fun ag mm wr2 => ∃ m : Nat, m ≤ en ∧ ag = .bool (decide ((⟨st, si, sr⟩ : P3) ∈ (out ++ ext).take m)) ∧ mm = .int .i64 m ∧ Ext wq wr2) (fun _ mm _ => en - (intOf mm).toNat)
          case atStart => exact ⟨0, by omega, by simp, rfl, Ext.refl _⟩
          case round =>
            obtain ⟨m, hm, rfl, rfl, hxt⟩ := hrel
            have HXT := Lib.hid hxt
            have hag : ∃ d, d = decide ((⟨st, si, sr⟩ : P3) ∈ (out ++ ext).take m) := ⟨_, rfl⟩
            obtain ⟨d, hd⟩ := hag
            rw [← hd]
            have HD := Lib.hid hd
            clear hd
            by_cases hmn : m < en
            · have hml : m < (out ++ ext).length := by rw [HEN.out]; exact hmn
              obtain ⟨x, hX⟩ : ∃ x, x = (out ++ ext)[m] := ⟨_, rfl⟩
              obtain ⟨hx0, hx1, hx2⟩ : wr.cell? ⟨gb, go + m * 3, none⟩ = some (.string x.t) ∧ wr.cell? ⟨gb, go + m * 3 + 1, none⟩ = some (.string x.i) ∧ wr.cell? ⟨gb, go + m * 3 + 2, none⟩ = some (.string x.r) := by
                obtain ⟨ao', c', hv, _, _, hcl⟩ := pts_rows (HOWQ.out.below hxt).sl
                injection hv with e1 e2 e3
                obtain ⟨b', off', hv2, _, y0, y1, y2⟩ := hcl m hml
                rw [← e1] at hv2
                injection hv2 with hv2
                injection hv2 with e4 e5 e6
                subst e4 e5
                rw [hX]
                exact ⟨y0, y1, y2⟩
              have HTK : (out ++ ext).take (m + 1) = (out ++ ext).take m ++ [x] := by rw [hX]; exact List.take_succ_eq_append_getElem hml
              have HTKS := Lib.hid HTK
              clear HTK hX
              have hq0 := (hBQ.below hxt).cells
              have hEX : Ext wq (wr.alloc (.cells #[.string x.t, .string x.i, .string x.r] 37)) := hxt.trans (Ext.alloc _ _)
              have hq1 := (hBQ.below hEX).cells
              have HEX := Lib.hid hEX
              have hbx := (Blk.made wr #[.string x.t, .string x.i, .string x.r] 37).cells
              clear hxt hEX
              obtain ⟨xt, xi, xr⟩ := x
              dsimp only at *
              cases d with
              | true =>
                go_wp2_with fail
                go_roundw
                case rel => exact ⟨m + 1, by omega, by rw [HTKS.out]; have := HD.out; simp at this; simp [this], by go_num, HEX.out⟩
                case measure => simp [intOf]; omega
              | false =>
                have heq := fun W => p3_eql ⟨xt, xi, xr⟩ ⟨st, si, sr⟩ W
                unfold pV at heq
                dsimp only at heq
                obtain ⟨dq, hdq⟩ : ∃ dq, dq = decide ((⟨xt, xi, xr⟩ : P3) = ⟨st, si, sr⟩) := ⟨_, rfl⟩
                simp only [← hdq] at heq
                have HDQ := Lib.hid hdq
                clear hdq
                go_wp2_with fail
                go_roundw
                case rel =>
                  refine ⟨m + 1, by omega, ?_, by go_num, HEX.out⟩
                  congr 1
                  rw [HTKS.out, HDQ.out]
                  have := HD.out
                  have h2 := of_decide_eq_false this.symm
                  rw [decide_eq_decide, List.mem_append, List.mem_singleton]
                  exact ⟨fun h => .inr h.symm, fun h => (h.resolve_left h2).symm⟩
                case measure => simp [intOf]; omega
            · obtain rfl : m = en := by omega
              have hdn : d = decide ((⟨st, si, sr⟩ : P3) ∈ out ++ ext) := by have := HD.out; rw [← HEN.out, List.take_length] at this; exact this
              have HDN := Lib.hid hdn
              have hq1 := (hBQ.below hxt).cells
              have HOX := Lib.hid (HOWQ.out.below hxt)
              have HBX := Lib.hid (HBQ.out.trans (Below.mono hxt HBQ.out.size))
              clear hdn hxt
              cases d with
              | true =>
                have hmem := of_decide_eq_true HDN.out.symm
                have HNX := Lib.hid ((HST _ HCj.out (fun _ _ => hmem)).out)
                clear hmem
                go_wp2_with fail
                go_roundw
                case rel => exact ⟨j + 1, ext, by omega, by go_num, HOX.out, HPE.out, HNX.out, HBX.out⟩
                case measure => simp [intOf]; omega
              | false =>
                have hmem := of_decide_eq_false HDN.out.symm
                have HPA := Lib.hid (HPE.out.add HLJ.out HCIN.out HSET.out hmem)
                have HNX := Lib.hid ((HST (out ++ ext ++ [⟨st, si, sr⟩]) (HCj.out.more _) (fun _ _ => by simp)).out)
                clear hmem
                have hsl := Sl.made wr (fun _ => True) 3 1 37 #[.string st, .string si, .string sr] rfl (by decide) trivial
                have hll : (pcs (out ++ ext)).length + 3 ≤ 1649267441667 := by
                  rw [pcs_length, HEN.out]
                  have := HL.out
                  omega
                have HO4 := Lib.hid (HOX.out.below (Ext.alloc wr (.cells #[.string st, .string si, .string sr] 37)))
                have HB4 := Lib.hid (HBX.out.trans (Below.mono (Ext.alloc wr (.cells #[.string st, .string si, .string sr] 37)) HBX.out.size))
                have HSL := Lib.hid hsl
                have HLL := Lib.hid hll
                clear hsl hll
                go_wp2_with (at_builtin; go_must (refine wpList_own pointsT rfl (.tmp 73) (.tmp 75) rfl rfl HO4.out rfl HSL.out (pC_one ⟨st, si, sr⟩) (by have := HLL.out; show _ + 3 ≤ _; omega) (by have := HLL.out; show (_ + 3) * 48 ≤ _; omega) HB4.out.size ?_); intro vL w6 hown6 hb6 _)
                have HO6 := Lib.hid hown6
                have HB6 := Lib.hid hb6
                clear hown6 hb6
                go_wp2_with fail
                go_roundw
                case rel =>
                  refine ⟨j + 1, ext ++ [⟨st, si, sr⟩], by omega, by go_num, ?_, ?_, ?_, HB4.out.trans HB6.out⟩
                  · rw [← List.append_assoc, pcs_append, pcs_single]; exact HO6.out
                  · rw [← List.append_assoc]; exact HPA.out
                  · rw [← List.append_assoc]; exact HNX.out
                case measure => simp [intOf]; omega
        · obtain rfl : j = l.length := by omega
          rw [List.take_length] at HCj
          have HFI := Lib.hid (show ∀ q ∈ (out ++ ext).take (i + 1), Clo l q (out ++ ext) from fun q hq => by
            rw [List.take_append_of_le_length (by omega), List.take_succ_eq_append_getElem hlt, List.mem_append, List.mem_singleton] at hq
            rcases hq with hq | rfl
            · exact (HCL.out q hq).more ext
            · rw [← HCUR.out]; exact HCj.out)
          clear g0 g1 g2 hbel
          go_wp2_with fail
          go_roundw
          case rel => exact ⟨i + 1, out ++ ext, by rw [HEN.out]; omega, by go_num, HOWj.out, HPj.out, HFI.out, HBj.out⟩
          case measure => simp [intOf]; omega
    · obtain rfl : i = out.length := by omega
      rw [List.take_length] at HCL
      go_wp2_with fail
      go_ret
      exact ⟨_, out, rfl, HPI.out.last HCL.out, hol, HOW.out, HBEL.out⟩

end Go.Proofs.Ytcbgemnmehoeaaa
