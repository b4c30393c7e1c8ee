/- Lemmas for the claim, no condition. -/
import Derived.Test.YtjdigpfipmckhaaRows
import Derived.SizedLaws
import Derived.Test.YtjdigpfipmckhaaYRcMost16
import Derived.Test.YtjdigpfipmckhaaYRcMost1
import Derived.Test.YtjdigpfipmckhaaYRcMost14
import Derived.Test.YtjdigpfipmckhaaYRcMost3
import Derived.Test.YtjdigpfipmckhaaYRcMost10
import Derived.Test.YtjdigpfipmckhaaYRcMost4
namespace Go.Proofs.Ytjdigpfipmckhaa
open Go Go.RowKit Go.ChangeShapes Go.WideShapes Go.ChangeAt
section
variable {H : Type} {enc : TypeId × Value → H} {P : Program} {w : World}
end
mutual
def RT.bk : RT → Nat | .mk _ a b ps => 5 + a.size + b.size + bkL ps
def bkL : List RT → Nat | [] => 0 | r :: rs => r.bk + bkL rs
end
def relBk (x : ByteArray × RT) : Nat := 2 + x.1.size + x.2.bk
def sumN {α : Type} (f : α → Nat) : List α → Nat | [] => 0 | x :: l => f x + sumN f l
theorem relBk_eq (x : ByteArray × RT) : relBk x = 2 + x.1.size + x.2.bk := rfl
def tyBk (t : TyS) : Nat := 2 + t.name.size + sumN relBk t.rels
theorem tyBk_eq (t : TyS) : tyBk t = 2 + t.name.size + sumN relBk t.rels := rfl
theorem bkL_sum (l : List RT) : bkL l = sumN RT.bk l := by
  induction l with
  | nil => rfl
  | cons x l ih => rw [bkL, sumN, ih]
theorem sumN_mem {α : Type} (f : α → Nat) {a : α} : ∀ {l : List α}, a ∈ l → f a ≤ sumN f l
  | x :: l, h => by
    rw [sumN]
    rcases List.mem_cons.1 h with rfl | h
    · omega
    · have := sumN_mem f h; omega
section
variable {H : Type} {enc : TypeId × Value → H} {W : World} {base : Nat} {v : Value} {d : DataW H} {ps : List MemPlace}
def schBk (ts : List TyS) : Nat := sumN tyBk ts
end
theorem sz_bk (r : RT) : 5 * r.sz ≤ r.bk ∧ 5 + r.a.size + r.b.size ≤ r.bk := by
  induction r using RT.ind with
  | h r ih =>
    obtain ⟨k, a, b, ps⟩ := r
    have : 5 * szL ps ≤ bkL ps := by
      have hh : ∀ p ∈ ps, 5 * p.sz ≤ p.bk := fun p hp => (ih p hp).1
      clear ih
      induction ps with
      | nil => simp [szL, bkL]
      | cons x ps ih =>
        rw [szL, bkL]
        have h1 := hh x List.mem_cons_self
        have h2 := ih fun p hp => hh p (List.mem_cons_of_mem _ hp)
        omega
    rw [RT.sz, RT.bk]
    refine ⟨by omega, ?_⟩
    show 5 + a.size + b.size ≤ _
    omega
theorem rels_bk (l : List (ByteArray × RT)) : l.length ≤ sumN relBk l := by
  induction l with
  | nil => simp
  | cons x l ih => rw [sumN, List.length_cons]; have := relBk_eq x; omega
theorem names_bk (ts : List TyS) : (namesOf ts).length ≤ schBk ts ∧ (refsOf ts).length ≤ schBk ts := by
  induction ts with
  | nil => exact ⟨Nat.zero_le _, Nat.zero_le _⟩
  | cons t ts ih =>
    have h1 := rels_bk t.rels
    unfold schBk namesOf refsOf at ih ⊢
    rw [List.flatMap_cons, List.flatMap_cons, List.length_append, List.length_append, sumN]
    have h2 : (relsOf t.name t.rels).length = t.rels.length := by unfold relsOf; rw [List.length_map]
    have h3 : (namesT t).length ≤ t.rels.length + 1 := by unfold namesT; simp
    have := tyBk_eq t
    omega
theorem sz_sch {ts : List TyS} (h : schBk ts ≤ 1048576) : ∀ t ∈ ts, ∀ r ∈ t.rels, r.2.sz ≤ 1000000 := fun t ht r hr => by
  have h1 := sumN_mem tyBk ht
  have h2 := sumN_mem relBk hr
  have h3 := (sz_bk r.2).1
  unfold schBk at h
  have h4 := tyBk_eq t
  have h5 := relBk_eq r
  omega
theorem wt_bk (r : RT) : r.wt + 8 ≤ 4 * r.bk := by
  induction r using RT.ind with
  | h r ih =>
    obtain ⟨k, a, b, ps⟩ := r
    have : wtL ps ≤ 4 * bkL ps := by
      have hh : ∀ p ∈ ps, p.wt + 8 ≤ 4 * p.bk := fun p hp => ih p hp
      clear ih
      induction ps with
      | nil => simp [wtL, bkL]
      | cons x ps ih =>
        rw [wtL, bkL]
        have h1 := hh x List.mem_cons_self
        have h2 := ih fun p hp => hh p (List.mem_cons_of_mem _ hp)
        omega
    rw [RT.wt, RT.bk]
    omega
theorem relB_bk (l : List (ByteArray × RT)) : relB l ≤ 5 * sumN relBk l := by
  induction l with
  | nil => simp [relB]
  | cons x l ih =>
    rw [relB, sumN]
    have := wt_bk x.2
    have := relBk_eq x
    omega
theorem schB_bk (ts : List TyS) : schB ts ≤ 5 * schBk ts := by
  induction ts with
  | nil => simp [schB]
  | cons t ts ih =>
    rw [schB]
    have := relB_bk t.rels
    unfold schBk at ih ⊢
    rw [sumN]
    have := tyBk_eq t
    omega
end Go.Proofs.Ytjdigpfipmckhaa
namespace Go.Proofs.Ytjdigpfipmckhaa
open Go Go.RowKit Go.Maps Go.Shelf
theorem rels_look {l : List (ByteArray × RT)} (n : ByteArray) {rel : ByteArray} {i : Nat} (hi : i < l.length) (hr : l[i].1 = rel) (hb : ∀ j (hj : j < l.length), j < i → l[j].1 ≠ rel) : lookA (relsOf n l) ⟨n, rel⟩ = some l[i].2 := by
  induction l generalizing i with
  | nil => simp at hi
  | cons x l ih =>
    unfold relsOf
    rw [List.map_cons, lookA]
    cases i with
    | zero => rw [if_pos (by simpa using congrArg (R2.mk n) hr)]; rfl
    | succ i =>
      have h0 := hb 0 (by simp) (by omega)
      rw [if_neg (by intro e; injection e with _ e; exact h0 e)]
      exact ih (by simpa using hi) (by simpa using hr) fun j hj hji => by
        have := hb (j + 1) (by simpa using hj) (by omega)
        simpa using this
theorem RTAt.nil (S : Nat → Prop) (w : World) (k : Int) (a b : ByteArray) : RTAt S w (.mk k a b []) (.slice none 0 0) := (RTAt.iff _ _).2 ⟨[], rfl, by simp, Sl.nil _ _ _⟩
theorem look_app {a b : List (R2 × RT)} {k : R2} (h : lookA a k = none) : lookA (a ++ b) k = lookA b k := by
  induction a with
  | nil => rfl
  | cons x a ih =>
    rw [List.cons_append, lookA]
    rw [lookA] at h
    split at h
    · cases h
    · rename_i hn
      rw [if_neg hn]
      exact ih h
theorem look_app_some {a b : List (R2 × RT)} {k : R2} {r : RT} (h : lookA a k = some r) : lookA (a ++ b) k = some r := by
  induction a with
  | nil => cases h
  | cons x a ih =>
    rw [List.cons_append, lookA]
    rw [lookA] at h
    split at h
    · rename_i hp
      rw [if_pos hp]; exact h
    · rename_i hn
      rw [if_neg hn]
      exact ih h
theorem refs_pre {ts : List TyS} {i : Nat} {ty rel : ByteArray} (hb : ∀ j (hj : j < ts.length), j < i → ts[j].name ≠ ty) : lookA (refsOf (ts.take i)) ⟨ty, rel⟩ = none := by
  refine look_none_iff.2 fun p hp e => ?_
  obtain ⟨t, ht, hp⟩ := List.mem_flatMap.1 hp
  obtain ⟨r, hr, rfl⟩ := List.mem_map.1 hp
  obtain ⟨m, hm, rfl⟩ := List.getElem_of_mem ht
  rw [List.length_take] at hm
  rw [List.getElem_take] at e
  injection e with e1 _
  exact hb m (by omega) (by omega) e1
theorem refs_split {ts : List TyS} {i : Nat} (hi : i < ts.length) : refsOf ts = refsOf (ts.take i) ++ (relsOf ts[i].name ts[i].rels ++ refsOf (ts.drop (i + 1))) := by
  conv => lhs; rw [← List.take_append_drop i ts, refsOf_append, List.drop_eq_getElem_cons hi]
  rfl
theorem refs_hit {ts : List TyS} {i k : Nat} {ty rel : ByteArray} (hi : i < ts.length) (hn : ts[i].name = ty) (hb : ∀ j (hj : j < ts.length), j < i → ts[j].name ≠ ty) (hk : k < ts[i].rels.length) (hr : ts[i].rels[k].1 = rel) (hb2 : ∀ j (hj : j < ts[i].rels.length), j < k → ts[i].rels[j].1 ≠ rel) : lookA (refsOf ts) ⟨ty, rel⟩ = some ts[i].rels[k].2 := by
  rw [refs_split hi, look_app (refs_pre hb)]
  refine look_app_some ?_
  rw [← hn]
  exact rels_look _ hk hr hb2
theorem refs_miss {ts : List TyS} (hu : uniqOk ts = true) {i : Nat} {ty rel : ByteArray} (hi : i < ts.length) (hn : ts[i].name = ty) (hb2 : ∀ j (hj : j < ts[i].rels.length), ts[i].rels[j].1 ≠ rel) : lookA (refsOf ts) ⟨ty, rel⟩ = none := by
  refine look_none_iff.2 fun p hp e => ?_
  obtain ⟨t, ht, r, hr, rfl⟩ := refs_mem.1 hp
  injection e with e1 e2
  obtain rfl := uniq_eq hu ht (List.getElem_mem hi) (e1.trans hn.symm)
  obtain ⟨m, hm, rfl⟩ := List.getElem_of_mem hr
  exact hb2 m hm e2
theorem refs_out {ts : List TyS} {ty rel : ByteArray} (hb : ∀ j (hj : j < ts.length), ts[j].name ≠ ty) : lookA (refsOf ts) ⟨ty, rel⟩ = none := by
  have := refs_pre (ts := ts) (i := ts.length) (rel := rel) fun j hj _ => hb j hj
  rwa [List.take_length] at this
set_option maxRecDepth 100000 in
set_option maxHeartbeats 4000000 in
theorem find06_any (ts : List TyS) (tv : Value) (ty rel : ByteArray) (w : World) (h : TysAt (· < w.heap.size) w ts tv) (hu : uniqOk ts = true) :
    Calls Try.prog 31 #[.agg #[tv], .string ty, .string rel] w fun e w' => ∃ z : RV, e = .returned (.tuple #[rvV z, .bool (lookA (refsOf ts) ⟨ty, rel⟩).isSome]) ∧ RTAt (· < w'.heap.size) w' z.1 z.2 ∧ (∀ r, lookA (refsOf ts) ⟨ty, rel⟩ = some r → z.1 = r) ∧ (lookA (refsOf ts) ⟨ty, rel⟩ = none → z = (.mk 0 ByteArray.empty ByteArray.empty [], .slice none 0 0)) ∧ Below w.heap.size w w' := by
  obtain ⟨ao, c, rfl, hlc, hcm, hcell⟩ := h.rows
  have HC := Lib.hid hcell
  have HU := Lib.hid hu
  obtain ⟨w1, hw1⟩ : ∃ x, x = w.alloc (.cells #[.slice ao ts.length c] 29) := ⟨_, rfl⟩
  obtain ⟨w2, hw2⟩ : ∃ x, x = w1.alloc (.cells #[.int .i64 0, .string ⟨#[]⟩, .string ⟨#[]⟩, .slice none 0 0] 66) := ⟨_, rfl⟩
  have e1 : w1.heap.size = w.heap.size + 1 := by rw [hw1]; simp
  have x01 : Ext w w1 := by rw [hw1]; exact Ext.alloc _ _
  have x12 : Ext w1 w2 := by rw [hw2]; exact Ext.alloc _ _
  have hs2 := (show Blk w2 w.heap.size #[.slice ao ts.length c] 29 from Blk.below (by rw [hw1]; exact Blk.made _ _ _) x12).cells
  have HR := Lib.hid (show Blk w2 (w.heap.size + 1) #[.int .i64 0, .string ⟨#[]⟩, .string ⟨#[]⟩, .slice none 0 0] 66 from by rw [hw2, ← e1]; exact Blk.made _ _ _)
  have HB2 := Lib.hid (show Below w.heap.size w w2 from x01.trans x12)
  subst hw2 hw1
  clear h hcell hu e1 x01 x12
  go_enter Try.func31, Try.ntmps31
  go_wp2_with fail
  obtain ⟨w2, hw2⟩ : ∃ x, x = (w.alloc (.cells #[.slice ao ts.length c] 29)).alloc (.cells #[.int .i64 0, .string ⟨#[]⟩, .string ⟨#[]⟩, .slice none 0 0] 66) := ⟨_, rfl⟩
  rw [← hw2] at HR HB2 ⊢
  clear hw2 hs2
  obtain ⟨br, hbr⟩ : ∃ x, x = w.heap.size + 1 := ⟨_, rfl⟩
  rw [← hbr] at HR ⊢
  have HBR := Lib.hid (show w.heap.size ≤ br from by omega)
  clear hbr
  go_loopw [15] (fun ii wr => ∃ i : Nat, i ≤ ts.length ∧ ii = .int .i64 i ∧ (∀ j (hj : j < ts.length), j < i → ts[j].name ≠ ty) ∧ Blk wr br #[.int .i64 0, .string ⟨#[]⟩, .string ⟨#[]⟩, .slice none 0 0] 66 ∧ Below w.heap.size w wr) (fun ii _ => ts.length - (intOf ii).toNat)
  case atStart => exact ⟨0, by omega, rfl, fun _ _ h => absurd h (by omega), HR.out, HB2.out⟩
  case round =>
    rename World => wo
    obtain ⟨i, hi, rfl, hall, hblk, hbel⟩ := hrel
    have HALL := Lib.hid hall
    have HRO := Lib.hid hblk
    have HBO := Lib.hid hbel
    clear HR HB2 hall hblk
    by_cases hlt : i < ts.length
    · have HUP := fun h => Lib.hid (upto_succ (p := fun j hj => ts[j].name ≠ ty) HALL.out hlt h)
      have HMISS := fun (h : ts[i].name = ty) => Lib.hid (fun (hb2 : ∀ j (hj : j < ts[i].rels.length), ts[i].rels[j].1 ≠ rel) => refs_miss HU.out hlt h hb2)
      have HHIT := fun (h : ts[i].name = ty) => Lib.hid (fun k hk hr hb2 => refs_hit (k := k) (rel := rel) hlt h HALL.out hk hr hb2)
      obtain ⟨b, off, pv2, hbo, hb, c0, c1, hat2⟩ := HC.out i hlt
      cases hbo
      have d0 := (hbel.cell (p := ⟨b, off + i * 2, none⟩) hb).trans c0
      have d1 := (hbel.cell (p := ⟨b, off + i * 2 + 1, none⟩) hb).trans c1
      obtain ⟨ao2, c2', rfl, hlc2, hcm2, hcell2⟩ := hat2.rows
      have HC2 := Lib.hid hcell2
      have hb1 := hbel.alloc hbel.size (.cells #[.string ts[i].name, .slice ao2 ts[i].rels.length c2'] 62)
      have HB1 := Lib.hid hb1
      have HRT := Lib.hid (HRO.out.below (Ext.alloc wo (.cells #[.string ts[i].name, .slice ao2 ts[i].rels.length c2'] 62)))
      have hbx := (Blk.made wo #[.string ts[i].name, .slice ao2 ts[i].rels.length c2'] 62).cells
      clear c0 c1 hat2 hcell2 hb1 hbel
      generalize ts[i] = x at *
      obtain ⟨xn, l⟩ := x
      dsimp only at *
      by_cases he : xn = ty
      · have HM := HMISS he
        have HH := HHIT he
        subst he
        clear HUP HMISS HHIT
        go_wp2_with fail
        obtain ⟨wq, hwq⟩ : ∃ x, x = wo.alloc (.cells #[.string xn, .slice ao2 l.length c2'] 62) := ⟨_, rfl⟩
        rw [← hwq] at HB1 HRT ⊢
        clear hwq hbx d0 d1
        go_loopw [26] (fun kk wr => ∃ k : Nat, k ≤ l.length ∧ kk = .int .i64 k ∧ (∀ j (hj : j < l.length), j < k → l[j].1 ≠ rel) ∧ Blk wr br #[.int .i64 0, .string ⟨#[]⟩, .string ⟨#[]⟩, .slice none 0 0] 66 ∧ Below w.heap.size w wr) (fun kk _ => l.length - (intOf kk).toNat)
        case atStart => exact ⟨0, by omega, rfl, fun _ _ h => absurd h (by omega), HRT.out, HB1.out⟩
        case round =>
          obtain ⟨k, hk, rfl, hall2, hblk, hbel⟩ := hrel
          have HALL2 := Lib.hid hall2
          have HRR := Lib.hid hblk
          have HBQ := Lib.hid hbel
          clear HRT HB1 hall2 hblk
          by_cases hlt2 : k < l.length
          · have HUP2 := fun h => Lib.hid (upto_succ (p := fun j hj => l[j].1 ≠ rel) HALL2.out hlt2 h)
            have HFND := fun (h : l[k].1 = rel) => Lib.hid (HH.out k hlt2 h HALL2.out)
            obtain ⟨b2, off2, pv3, hbo, hb2, c0, c1, c2, c3, c4, hat3⟩ := HC2.out k hlt2
            cases hbo
            have d0 := (hbel.cell (p := ⟨b2, off2 + k * 5, none⟩) hb2).trans c0
            have d1 := (hbel.cell (p := ⟨b2, off2 + k * 5 + 1, none⟩) hb2).trans c1
            have d2 := (hbel.cell (p := ⟨b2, off2 + k * 5 + 2, none⟩) hb2).trans c2
            have d3 := (hbel.cell (p := ⟨b2, off2 + k * 5 + 3, none⟩) hb2).trans c3
            have d4 := (hbel.cell (p := ⟨b2, off2 + k * 5 + 4, none⟩) hb2).trans c4
            obtain ⟨ao3, c3', rfl, -⟩ := hat3.rows
            obtain ⟨wx, hwx⟩ : ∃ x, x = wr.alloc (.cells #[.string l[k].1, .int .i64 l[k].2.k, .string l[k].2.a, .string l[k].2.b, .slice ao3 l[k].2.ps.length c3'] 69) := ⟨_, rfl⟩
            have xrx : Ext wr wx := by rw [hwx]; exact Ext.alloc _ _
            have hbx := (show Blk wx wr.heap.size #[.string l[k].1, .int .i64 l[k].2.k, .string l[k].2.a, .string l[k].2.b, .slice ao3 l[k].2.ps.length c3'] 69 from by rw [hwx]; exact Blk.made _ _ _).cells
            have HRX := Lib.hid (HRR.out.below xrx)
            have HBX := Lib.hid (show Below w.heap.size w wx from HBQ.out.trans (xrx.mono HBQ.out.size))
            have HAT := Lib.hid hat3
            have hne : br ≠ wr.heap.size := by have := HRR.out.lt; omega
            clear c0 c1 c2 c3 c4 hat3 xrx hbel
            generalize l[k] = y at *
            obtain ⟨yn, p⟩ := y
            dsimp only at *
            by_cases he2 : yn = rel
            · have HF := HFND he2
              subst he2
              have r3 := HRX.out.cells
              have f3 := HRX.out.free
              have hs1 := HRX.out.set_to 0 (.int .i64 p.k) rfl
              have hs2 := hs1.set_to 1 (.string p.a) rfl
              have hs3 := hs2.set_to 2 (.string p.b) rfl
              have hs4 := hs3.set_to 3 (.slice ao3 p.ps.length c3') rfl
              have HS4 := Lib.hid hs4
              have HBE := Lib.hid (show Below w.heap.size w ((((wx.setCell ⟨br, 0, none⟩ (.int .i64 p.k)).setCell ⟨br, 1, none⟩ (.string p.a)).setCell ⟨br, 2, none⟩ (.string p.b)).setCell ⟨br, 3, none⟩ (.slice ao3 p.ps.length c3')) from (((HBX.out.setCell HBR.out _).setCell HBR.out _).setCell HBR.out _).setCell HBR.out _)
              clear hs1 hs2 hs3 hs4 HUP2 HFND
              subst hwx
              go_wp2_with fail
              refine bodyPost_ret (v := .tuple #[.agg #[.int .i64 p.k, .string p.a, .string p.b, .slice ao3 p.ps.length c3'], .bool true]) ?_ rfl ⟨(p, .slice ao3 p.ps.length c3'), ?_, ?_, fun r hr => ?_, fun hr => ?_, HBE.out⟩
              · rw [results_cell_tmp rfl]
                have hl := run_loadVar_row (P := Try.prog) _ br _ 66 _ _ _ HS4.out Try.underlying66 rfl (by kernel_rfl)
                simp [asAddr, hl, Result.andThen]
              · unfold rvV rV
                rw [HF.out]; rfl
              · exact HAT.out.up HBE.out
              · rw [HF.out] at hr; cases hr; rfl
              · rw [HF.out] at hr; cases hr
            · have HN := HUP2 he2
              have hne2 := ba_beq' he2
              rw [← ByteArray.toList_eq, ← ByteArray.toList_eq] at hne2
              clear HUP2 HFND he2
              subst hwx
              go_wp2_with fail
              go_roundw
              case rel => exact ⟨k + 1, by omega, by go_num, HN.out, HRX.out, HBX.out⟩
              case measure => simp [intOf]; omega
          · obtain rfl : k = l.length := by omega
            have HF := Lib.hid (HM.out fun j hj => HALL2.out j hj hj)
            have r3 := HRR.out.cells
            have f3 := HRR.out.free
            have hs1 := HRR.out.set_to 0 (.int .i64 0) rfl
            have hs2 := hs1.set_to 1 (.string ⟨#[]⟩) rfl
            have hs3 := hs2.set_to 2 (.string ⟨#[]⟩) rfl
            have hs4 := hs3.set_to 3 (.slice none 0 0) rfl
            have HS4 := Lib.hid hs4
            have HBE := Lib.hid (show Below w.heap.size w ((((wr.setCell ⟨br, 0, none⟩ (.int .i64 0)).setCell ⟨br, 1, none⟩ (.string ⟨#[]⟩)).setCell ⟨br, 2, none⟩ (.string ⟨#[]⟩)).setCell ⟨br, 3, none⟩ (.slice none 0 0)) from (((HBQ.out.setCell HBR.out _).setCell HBR.out _).setCell HBR.out _).setCell HBR.out _)
            clear hs1 hs2 hs3 hs4 hbel
            go_wp2_with fail
            refine bodyPost_ret (v := .tuple #[.agg #[.int .i64 0, .string ⟨#[]⟩, .string ⟨#[]⟩, .slice none 0 0], .bool false]) ?_ rfl ⟨(.mk 0 ByteArray.empty ByteArray.empty [], .slice none 0 0), ?_, ?_, fun r hr => ?_, fun hr => rfl, HBE.out⟩
            · rw [results_cell_tmp rfl]
              have hl := run_loadVar_row (P := Try.prog) _ br _ 66 _ _ _ HS4.out Try.underlying66 rfl (by kernel_rfl)
              simp [asAddr, hl, Result.andThen]
            · rw [HF.out]; rfl
            · exact RTAt.nil _ _ _ _ _
            · rw [HF.out] at hr; cases hr
      · have HN := HUP he
        have hne := ba_beq' he
        rw [← ByteArray.toList_eq, ← ByteArray.toList_eq] at hne
        clear HUP HMISS HHIT he
        go_wp2_with fail
        go_roundw
        case rel => exact ⟨i + 1, by omega, by go_num, HN.out, HRT.out, HB1.out⟩
        case measure => simp [intOf]; omega
    · obtain rfl : i = ts.length := by omega
      have HF := Lib.hid (refs_out (rel := rel) fun j hj => HALL.out j hj hj)
      have r3 := HRO.out.cells
      have f3 := HRO.out.free
      have hs1 := HRO.out.set_to 0 (.int .i64 0) rfl
      have hs2 := hs1.set_to 1 (.string ⟨#[]⟩) rfl
      have hs3 := hs2.set_to 2 (.string ⟨#[]⟩) rfl
      have hs4 := hs3.set_to 3 (.slice none 0 0) rfl
      have HS4 := Lib.hid hs4
      have HBE := Lib.hid (show Below w.heap.size w ((((wo.setCell ⟨br, 0, none⟩ (.int .i64 0)).setCell ⟨br, 1, none⟩ (.string ⟨#[]⟩)).setCell ⟨br, 2, none⟩ (.string ⟨#[]⟩)).setCell ⟨br, 3, none⟩ (.slice none 0 0)) from (((HBO.out.setCell HBR.out _).setCell HBR.out _).setCell HBR.out _).setCell HBR.out _)
      clear hs1 hs2 hs3 hs4 hbel
      go_wp2_with fail
      refine bodyPost_ret (v := .tuple #[.agg #[.int .i64 0, .string ⟨#[]⟩, .string ⟨#[]⟩, .slice none 0 0], .bool false]) ?_ rfl ⟨(.mk 0 ByteArray.empty ByteArray.empty [], .slice none 0 0), ?_, ?_, fun r hr => ?_, fun hr => rfl, HBE.out⟩
      · rw [results_cell_tmp rfl]
        have hl := run_loadVar_row (P := Try.prog) _ br _ 66 _ _ _ HS4.out Try.underlying66 rfl (by kernel_rfl)
        simp [asAddr, hl, Result.andThen]
      · rw [HF.out]; rfl
      · exact RTAt.nil _ _ _ _ _
      · rw [HF.out] at hr; cases hr
end Go.Proofs.Ytjdigpfipmckhaa
namespace Go.Proofs.Ytjdigpfipmckhaa
open Go Go.RowKit Go.Maps Go.Shelf
theorem tyIn_take {ts : List TyS} {i : Nat} (hi : i < ts.length) (n : ByteArray) : tyIn (ts.take (i + 1)) n = (tyIn (ts.take i) n || decide (ts[i].name = n)) := by
  unfold tyIn
  rw [List.take_succ_eq_append_getElem hi, List.any_append]
  simp
set_option maxRecDepth 100000 in
set_option maxHeartbeats 4000000 in
theorem writes06_any (ts : List TyS) (tv : Value) (t : Tup) (w : World) (h : TysAt (· < w.heap.size) w ts tv) (hu : uniqOk ts = true) (ht : t.Ok) :
    Calls Try.prog 18 #[.agg #[tv], tV t] w fun e w' => e = .returned (.int .i64 (wrN ts t)) ∧ Below w.heap.size w w' := by
  obtain ⟨⟨ot, oi, or_⟩, ⟨st, si, sr⟩⟩ := t
  obtain ⟨ao, c, rfl, hlc, hcm, hcell⟩ := h.rows
  have HC := Lib.hid hcell
  have hx1 : Ext w ((w.alloc (.cells #[.slice ao ts.length c] 29)).alloc (.cells #[.string ot, .string oi, .string or_, .string st, .string si, .string sr] 55)) := (Ext.alloc _ _).trans (Ext.alloc _ _)
  have HX := Lib.hid hx1
  have HCK := Lib.hid (refCheck_any ⟨⟨ot, oi, or_⟩, ⟨st, si, sr⟩⟩ ht ((w.alloc (.cells #[.slice ao ts.length c] 29)).alloc (.cells #[.string ot, .string oi, .string or_, .string st, .string si, .string sr] 55)))
  have HS := Lib.hid ((Blk.made w #[.slice ao ts.length c] 29).alloc (.cells #[.string ot, .string oi, .string or_, .string st, .string si, .string sr] 55))
  have HT := Lib.hid (Blk.made' (w := w.alloc (.cells #[.slice ao ts.length c] 29)) (B := w.heap.size + 1) (by simp) #[.string ot, .string oi, .string or_, .string st, .string si, .string sr] 55)
  have HTS := Lib.hid h
  have HU := Lib.hid hu
  have hS := HS.out.cells
  have hT := HT.out.cells
  have HW0 := Lib.hid (show wrN ts ⟨⟨ot, oi, or_⟩, ⟨st, si, sr⟩⟩ = if chkT ⟨⟨ot, oi, or_⟩, ⟨st, si, sr⟩⟩ then wrM ts ⟨⟨ot, oi, or_⟩, ⟨st, si, sr⟩⟩ else 2 from rfl)
  unfold tV at HCK
  unfold tV
  dsimp only at HCK ⊢
  clear h hu ht hx1 hcell
  go_enter Try.func18, Try.ntmps18
  go_wp2_with fail
  refine HCK.out.mono ?_
  rintro e w2 ⟨rfl, hb2⟩
  have HB2 := Lib.hid (show Below w.heap.size w w2 from Ext.trans HX.out hb2)
  have HS2 := Lib.hid (HS.out.below hb2)
  have HT2 := Lib.hid (HT.out.below hb2)
  have s2 := HS2.out.cells
  have t2 := HT2.out.cells
  clear HCK hS hT hb2
  unfold chkN
  cases hck : chkT ⟨⟨ot, oi, or_⟩, ⟨st, si, sr⟩⟩ with
  | false =>
    have HF := Lib.hid (show wrN ts ⟨⟨ot, oi, or_⟩, ⟨st, si, sr⟩⟩ = 2 from by rw [HW0.out, hck]; rfl)
    rw [show (if false = true then (0 : Int) else 2) = 2 from rfl]
    clear hck
    go_wp2_with fail
    go_ret
    exact ⟨by rw [HF.out]; rfl, HB2.out⟩
  | true =>
  have HW := Lib.hid (show wrN ts ⟨⟨ot, oi, or_⟩, ⟨st, si, sr⟩⟩ = wrM ts ⟨⟨ot, oi, or_⟩, ⟨st, si, sr⟩⟩ from by rw [HW0.out, hck]; rfl)
  rw [show (if true = true then (0 : Int) else 2) = 0 from rfl]
  have HO := Lib.hid (find06_any ts (.slice ao ts.length c) ot or_ w2 (HTS.out.up HB2.out) HU.out)
  clear hck HW0
  go_wp2_with fail
  refine HO.out.mono ?_
  rintro e w3 ⟨z, rfl, hzat, hz1, hz0, hb3⟩
  have HB3 := Lib.hid (show Below w.heap.size w w3 from HB2.out.trans (hb3.mono HB2.out.size))
  obtain ⟨zo, zc, hzv, -⟩ := hzat.rows
  have HZ1 := Lib.hid hz1
  have HZA := Lib.hid hzat
  generalize hokk : (lookA (refsOf ts) ⟨ot, or_⟩).isSome = ok at *
  have HOKK := Lib.hid hokk
  unfold rvV rV
  rw [hzv]
  obtain ⟨w4, hw4⟩ : ∃ x, x = w3.alloc (.cells #[.int .i64 z.1.k, .string z.1.a, .string z.1.b, .slice zo z.1.ps.length zc] 66) := ⟨_, rfl⟩
  have x34 : Ext w3 w4 := by rw [hw4]; exact Ext.alloc _ _
  have HS4 := Lib.hid (HS2.out.below (hb3.trans (Below.mono x34 hb3.size)))
  have HT4 := Lib.hid (HT2.out.below (hb3.trans (Below.mono x34 hb3.size)))
  have HR4 := Lib.hid (show Blk w4 w3.heap.size #[.int .i64 z.1.k, .string z.1.a, .string z.1.b, .slice zo z.1.ps.length zc] 66 from by rw [hw4]; exact Blk.made _ _ _)
  have HZ4 := Lib.hid (hzat.up x34)
  have HB4 := Lib.hid (show Below w.heap.size w w4 from HB3.out.trans (x34.mono HB3.out.size))
  have s4 := HS4.out.cells
  clear HO hb3 hzat hz1 hz0 hokk s2 t2 x34
  subst hw4
  go_wp2_with fail
  obtain ⟨w4, hw4⟩ : ∃ x, x = w3.alloc (.cells #[.int .i64 z.1.k, .string z.1.a, .string z.1.b, .slice zo z.1.ps.length zc] 66) := ⟨_, rfl⟩
  rw [← hw4] at HS4 HT4 HR4 HZ4 HB4 ⊢
  clear hw4 s4
  generalize w3.heap.size = br at *
  go_loopw [8, 31] (fun ov ii wr => ∃ (i : Nat) (o : Bool), i ≤ ts.length ∧ ii = .int .i64 i ∧ ov = .bool o ∧ o = tyIn (ts.take i) st ∧ Below w4.heap.size w4 wr) (fun _ ii _ => ts.length - (intOf ii).toNat)
  case atStart => exact ⟨0, false, by omega, rfl, rfl, rfl, Below.refl _ _⟩
  case round =>
    obtain ⟨i, o, hi, rfl, rfl, ho, hbel⟩ := hrel
    have HO := Lib.hid ho
    have HBL := Lib.hid hbel
    have HBW := Lib.hid (HB4.out.trans (hbel.mono HB4.out.size))
    clear ho
    by_cases hlt : i < ts.length
    · have HOS := Lib.hid (tyIn_take hlt st)
      obtain ⟨b, off, pv2, hbo, hb, c0, c1, hat2⟩ := HC.out i hlt
      cases hbo
      have d0 := (HBW.out.cell (p := ⟨b, off + i * 2, none⟩) hb).trans c0
      have d1 := (HBW.out.cell (p := ⟨b, off + i * 2 + 1, none⟩) hb).trans c1
      obtain ⟨ao2, c2', rfl, hlc2, hcm2, hcell2⟩ := hat2.rows
      have xa : Ext wr (wr.alloc (.cells #[.string ts[i].name, .slice ao2 ts[i].rels.length c2'] 62)) := Ext.alloc _ _
      have HXA := Lib.hid (show Below w4.heap.size w4 (wr.alloc (.cells #[.string ts[i].name, .slice ao2 ts[i].rels.length c2'] 62)) from hbel.trans (xa.mono hbel.size))
      have ta := (HT4.out.below HXA.out).cells
      have hbx := (Blk.made wr #[.string ts[i].name, .slice ao2 ts[i].rels.length c2'] 62).cells
      clear c0 c1 hat2 hcell2 hbel xa
      generalize ts[i] = x at *
      obtain ⟨xn, l⟩ := x
      dsimp only at *
      cases o with
      | true =>
        have HN := Lib.hid (show true = tyIn (ts.take (i + 1)) st from by rw [HOS.out, ← HO.out]; rfl)
        go_wp2_with fail
        go_roundw
        case rel => exact ⟨i + 1, true, by omega, by go_num, rfl, HN.out, HXA.out⟩
        case measure => simp [intOf]; omega
      | false =>
        by_cases he : xn = st
        · have HN := Lib.hid (show true = tyIn (ts.take (i + 1)) st from by rw [HOS.out, he]; simp)
          subst he
          go_wp2_with fail
          go_roundw
          case rel => exact ⟨i + 1, true, by omega, by go_num, rfl, HN.out, HXA.out⟩
          case measure => simp [intOf]; omega
        · have HN := Lib.hid (show false = tyIn (ts.take (i + 1)) st from by rw [HOS.out, ← HO.out]; simp [he])
          have hne := ba_beq' he
          rw [← ByteArray.toList_eq, ← ByteArray.toList_eq] at hne
          clear he
          go_wp2_with fail
          go_roundw
          case rel => exact ⟨i + 1, false, by omega, by go_num, rfl, HN.out, HXA.out⟩
          case measure => simp [intOf]; omega
    · obtain rfl : i = ts.length := by omega
      rw [List.take_length] at HO
      have HTR := Lib.hid (HT4.out.below hbel)
      have HSR := Lib.hid (HS4.out.below hbel)
      have HRR := Lib.hid (HR4.out.below hbel)
      have HZR := Lib.hid (HZ4.out.up hbel)
      have tr := HTR.out.cells
      have sr2 := HSR.out.cells
      have rr := HRR.out.cells
      clear hbel HSR
      by_cases hsr : sr.size = 0
      · obtain rfl := ba_size_eq hsr
        clear hsr
        cases ok with
        | false =>
          have HF := Lib.hid (show wrN ts ⟨⟨ot, oi, or_⟩, ⟨st, si, ⟨#[]⟩⟩⟩ = 4 from by
            rw [HW.out]
            unfold wrM; dsimp only; rw [HOKK.out]; rfl)
          go_wp2_with fail
          go_ret
          exact ⟨by rw [HF.out]; rfl, HBW.out⟩
        | true =>
        cases o with
        | false =>
          have HF := Lib.hid (show wrN ts ⟨⟨ot, oi, or_⟩, ⟨st, si, ⟨#[]⟩⟩⟩ = 4 from by
            rw [HW.out]
            unfold wrM; dsimp only; rw [HOKK.out, ← HO.out]; rfl)
          go_wp2_with fail
          go_ret
          exact ⟨by rw [HF.out]; rfl, HBW.out⟩
        | true =>
          have HTHC := Lib.hid (this06_any z.1 z.2 wr HZR.out)
          unfold rV at HTHC
          rw [hzv] at HTHC
          have HM := Lib.hid (show wrN ts ⟨⟨ot, oi, or_⟩, ⟨st, si, ⟨#[]⟩⟩⟩ = if z.1.this then 0 else 9 from by
            rw [HW.out]
            unfold wrM
            dsimp only
            rw [HOKK.out, ← HO.out]
            obtain ⟨r, hr⟩ := Option.isSome_iff_exists.1 HOKK.out
            rw [hr, HZ1.out r hr]
            rfl)
          go_wp2_with fail
          refine HTHC.out.mono ?_
          rintro e w9 ⟨rfl, hb9⟩
          have HBE := Lib.hid (HBW.out.trans (hb9.mono HBW.out.size))
          clear HTHC hb9 tr sr2 rr
          cases hth : z.1.this with
          | true =>
            have HF := Lib.hid (HM.out.trans (by rw [hth]; rfl : _ = (0 : Int)))
            clear hth
            go_wp2_with fail
            go_ret
            exact ⟨by rw [HF.out]; rfl, HBE.out⟩
          | false =>
            have HF := Lib.hid (HM.out.trans (by rw [hth]; rfl : _ = (9 : Int)))
            clear hth
            go_wp2_with fail
            go_ret
            exact ⟨by rw [HF.out]; rfl, HBE.out⟩
      have hnesr := ba_size_ne hsr
      have HSR := Lib.hid hsr
      have HOF := Lib.hid (find06_any ts (.slice ao ts.length c) st sr wr (HTS.out.up HBW.out) HU.out)
      clear hsr
      go_wp2_with fail
      refine HOF.out.mono ?_
      rintro e w5 ⟨y, rfl, hyat, -, -, hb5⟩
      obtain ⟨yo, yc, hyv, -⟩ := hyat.rows
      generalize hsub : (lookA (refsOf ts) ⟨st, sr⟩).isSome = sub at *
      have HSUB := Lib.hid hsub
      unfold rvV rV
      rw [hyv]
      obtain ⟨w6, hw6⟩ : ∃ x, x = w5.alloc (.cells #[.int .i64 y.1.k, .string y.1.a, .string y.1.b, .slice yo y.1.ps.length yc] 66) := ⟨_, rfl⟩
      have x56 : Ext w5 w6 := by rw [hw6]; exact Ext.alloc _ _
      have HB5 := Lib.hid (show Below wr.heap.size wr w6 from hb5.trans (x56.mono hb5.size))
      have HB6 := Lib.hid (HBW.out.trans (HB5.out.mono HBW.out.size))
      have HZ6 := Lib.hid (HZR.out.up HB5.out)
      have r6 := (HRR.out.below HB5.out).cells
      clear HOF hsub hyat x56 hb5 tr sr2 rr
      subst hw6
      cases ok with
      | false =>
        cases o with
        | false =>
          have HF := Lib.hid (show wrN ts ⟨⟨ot, oi, or_⟩, ⟨st, si, sr⟩⟩ = 4 from by
            rw [HW.out]
            unfold wrM; dsimp only; rw [HOKK.out]; rfl)
          go_wp2_with fail
          go_ret
          exact ⟨by rw [HF.out]; rfl, HB6.out⟩
        | true =>
          have HF := Lib.hid (show wrN ts ⟨⟨ot, oi, or_⟩, ⟨st, si, sr⟩⟩ = 4 from by
            rw [HW.out]
            unfold wrM; dsimp only; rw [HOKK.out]; rfl)
          go_wp2_with fail
          go_ret
          exact ⟨by rw [HF.out]; rfl, HB6.out⟩
      | true =>
      cases o with
      | false =>
        have HF := Lib.hid (show wrN ts ⟨⟨ot, oi, or_⟩, ⟨st, si, sr⟩⟩ = 4 from by
          rw [HW.out]
          unfold wrM; dsimp only; rw [HOKK.out, ← HO.out]; rfl)
        go_wp2_with fail
        go_ret
        exact ⟨by rw [HF.out]; rfl, HB6.out⟩
      | true =>
      cases sub with
      | false =>
        have HF := Lib.hid (show wrN ts ⟨⟨ot, oi, or_⟩, ⟨st, si, sr⟩⟩ = 4 from by
          rw [HW.out]
          unfold wrM; dsimp only; rw [HOKK.out, ← HO.out, HSUB.out]; simp [HSR.out])
        go_wp2_with fail
        go_ret
        exact ⟨by rw [HF.out]; rfl, HB6.out⟩
      | true =>
        have HTHC := Lib.hid (this06_any z.1 z.2 _ HZ6.out)
        unfold rV at HTHC
        rw [hzv] at HTHC
        have HM := Lib.hid (show wrN ts ⟨⟨ot, oi, or_⟩, ⟨st, si, sr⟩⟩ = if z.1.this then 0 else 9 from by
          rw [HW.out]
          unfold wrM
          dsimp only
          rw [HOKK.out, ← HO.out, HSUB.out]
          obtain ⟨r, hr⟩ := Option.isSome_iff_exists.1 HOKK.out
          rw [hr, HZ1.out r hr]
          simp)
        go_wp2_with fail
        refine HTHC.out.mono ?_
        rintro e w9 ⟨rfl, hb9⟩
        have HBE := Lib.hid (HB6.out.trans (hb9.mono HB6.out.size))
        clear HTHC hb9 r6
        cases hth : z.1.this with
        | true =>
          have HF := Lib.hid (HM.out.trans (by rw [hth]; rfl : _ = (0 : Int)))
          clear hth
          go_wp2_with fail
          go_ret
          exact ⟨by rw [HF.out]; rfl, HBE.out⟩
        | false =>
          have HF := Lib.hid (HM.out.trans (by rw [hth]; rfl : _ = (9 : Int)))
          clear hth
          go_wp2_with fail
          go_ret
          exact ⟨by rw [HF.out]; rfl, HBE.out⟩
end Go.Proofs.Ytjdigpfipmckhaa
