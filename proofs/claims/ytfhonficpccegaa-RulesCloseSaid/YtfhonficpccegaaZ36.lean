/- The document's Barren: its plain side. The walk of the document's Barren. No condition: lemmas. -/
import Derived.Test.YtfhonficpccegaaZ35
import Derived.Test.YtfhonficpccegaaZ32
namespace Go.Proofs.Ytfhonficpccegaa
open Go Go.RowKit Go.Maps

theorem nodup_get {α : Type} {l : List α} (h : l.Nodup) {i j : Nat} (hi : i < l.length) (hj : j < l.length) (he : l[i] = l[j]) : i = j := by
  rcases Nat.lt_trichotomy i j with hl | hl | hl
  · exact absurd he (List.pairwise_iff_getElem.1 h i j hi hj hl)
  · exact hl
  · exact absurd he.symm (List.pairwise_iff_getElem.1 h j i hj hi hl)
theorem uniq_names {ts : List TyS} (hu : uniqOk ts = true) : (ts.map (·.name)).Nodup ∧ ∀ t ∈ ts, (t.rels.map (·.1)).Nodup := by
  unfold uniqOk at hu
  rw [Bool.and_eq_true, decide_eq_true_eq, List.all_eq_true] at hu
  exact ⟨hu.1, fun t ht => by simpa using hu.2 t ht⟩
/-- A relation is found where it stands. -/
theorem look_here {ts : List TyS} (hu : uniqOk ts = true) {i k : Nat} (hi : i < ts.length) (hk : k < ts[i].rels.length) : lookA (refsOf ts) ⟨ts[i].name, ts[i].rels[k].1⟩ = some ts[i].rels[k].2 := by
  obtain ⟨h1, h2⟩ := uniq_names hu
  refine refs_hit hi rfl (fun j hj hji e => ?_) hk rfl (fun j hj hjk e => ?_)
  · have := nodup_get h1 (i := j) (j := i) (by simpa using hj) (by simpa using hi) (by simpa using e)
    omega
  · have := nodup_get (h2 ts[i] (List.getElem_mem hi)) (i := j) (j := k) (by simpa using hj) (by simpa using hk) (by simpa using e)
    omega
theorem look_refs {ts : List TyS} {x : R2} (h : x ∈ (refsOf ts).map (·.1)) : ∃ r, lookA (refsOf ts) x = some r := by
  cases hl : lookA (refsOf ts) x with
  | some r => exact ⟨r, rfl⟩
  | none =>
    obtain ⟨p, hp, rfl⟩ := List.mem_map.1 h
    exact absurd rfl (look_none_iff.1 hl p hp)
theorem UpR.nodup {l : List R2} (h : UpR l) : l.Nodup := List.Pairwise.imp (fun h e => by subst e; rw [ltR_irr] at h; cases h) h
theorem LeastP.congr {ts : List TyS} {S T : List R2} (h : LeastP ts S) (hm : ∀ x, x ∈ T ↔ x ∈ S) : LeastP ts T := ⟨fun x hx => h.sub x ((hm x).1 hx), fun U hU x hx => h.least U hU x ((hm x).1 hx)⟩

/-- Where the document's Barren stands within a round. -/
structure BI (ts : List TyS) (N0 : Nat) (L A : List R2) (ch : Bool) (pr : List (R2 × RT)) : Prop where
  upL : UpR L
  upA : UpR A
  least : LeastP ts L
  subA : ∀ x ∈ A, x ∈ (refsOf ts).map (·.1)
  len0 : N0 ≤ L.length
  more : ch = true → N0 < L.length
  done : ∀ p ∈ pr, p.1 ∈ A ∧ (ch = false → p.2.pcan (refsOf ts) L p.1.t = true → p.1 ∈ L)
theorem BI.lenL {ts : List TyS} {N0 : Nat} {L A : List R2} {ch : Bool} {pr : List (R2 × RT)} (h : BI ts N0 L A ch pr) : L.length ≤ (refsOf ts).length := h.least.len h.upL.nodup
theorem BI.lenA {ts : List TyS} {N0 : Nat} {L A : List R2} {ch : Bool} {pr : List (R2 × RT)} (h : BI ts N0 L A ch pr) : A.length ≤ (refsOf ts).length := by
  have := nodup_le h.upA.nodup h.subA
  rwa [List.length_map] at this
theorem BI.start {ts : List TyS} {L A : List R2} (hL : UpR L) (hA : UpR A) (hl : LeastP ts L) (hs : ∀ x ∈ A, x ∈ (refsOf ts).map (·.1)) : BI ts L.length L A false [] :=
  ⟨hL, hA, hl, hs, Nat.le_refl _, fun h => (by cases h), fun p hp => (by cases hp)⟩
theorem BI.skip {ts : List TyS} {N0 : Nat} {L A A' : List R2} {ch : Bool} {pr : List (R2 × RT)} (h : BI ts N0 L A ch pr) {x : R2} {r : RT} (hx : (x, r) ∈ refsOf ts) (hA : Ins A x A') (hc : x ∈ L ∨ r.pcan (refsOf ts) L x.t = false) : BI ts N0 L A' ch (pr ++ [(x, r)]) :=
  ⟨h.upL, hA.up, h.least, fun y hy => by
    rcases (hA.mem y).1 hy with rfl | hy
    · exact List.mem_map.2 ⟨_, hx, rfl⟩
    · exact h.subA y hy, h.len0, h.more, fun p hp => by
    rcases List.mem_append.1 hp with hp | hp
    · exact ⟨(hA.mem _).2 (.inr (h.done p hp).1), (h.done p hp).2⟩
    · obtain rfl := List.mem_singleton.1 hp
      refine ⟨(hA.mem _).2 (.inl rfl), fun _ hcn => ?_⟩
      rcases hc with hc | hc
      · exact hc
      · dsimp only at hcn; rw [hc] at hcn; cases hcn⟩
theorem BI.add {ts : List TyS} {N0 : Nat} {L L' A A' : List R2} {ch : Bool} {pr : List (R2 × RT)} (h : BI ts N0 L A ch pr) {x : R2} {r : RT} (hx : (x, r) ∈ refsOf ts) (hA : Ins A x A') (hL : Ins L x L') (hn : ¬ x ∈ L) (hp : r.pcan (refsOf ts) L x.t = true) : BI ts N0 L' A' true (pr ++ [(x, r)]) := by
  have hlen : L.length + 1 ≤ L'.length := by
    have := nodup_le (l := x :: L) (u := L') (List.nodup_cons.2 ⟨hn, h.upL.nodup⟩) fun y hy => (hL.mem y).2 (List.mem_cons.1 hy)
    simpa using this
  exact ⟨hL.up, hA.up, (h.least.add hx hp).congr fun y => by rw [hL.mem, addR_mem]; exact or_comm, fun y hy => by
    rcases (hA.mem y).1 hy with rfl | hy
    · exact List.mem_map.2 ⟨_, hx, rfl⟩
    · exact h.subA y hy, by have := h.len0; omega, fun _ => by have := h.len0; omega, fun p hp => by
    rcases List.mem_append.1 hp with hp | hp
    · exact ⟨(hA.mem _).2 (.inr (h.done p hp).1), fun e => (by cases e)⟩
    · obtain rfl := List.mem_singleton.1 hp
      exact ⟨(hA.mem _).2 (.inl rfl), fun e => (by cases e)⟩⟩
theorem BI.closed {ts : List TyS} {N0 : Nat} {L A : List R2} (h : BI ts N0 L A false (refsOf ts)) : ClosedP ts L := fun x r hx hc => (h.done (x, r) hx).2 rfl hc
theorem BI.all {ts : List TyS} {N0 : Nat} {L A : List R2} {ch : Bool} (h : BI ts N0 L A ch (refsOf ts)) : ∀ x ∈ (refsOf ts).map (·.1), x ∈ A := fun x hx => by
  obtain ⟨p, hp, rfl⟩ := List.mem_map.1 hx
  exact (h.done p hp).1
theorem refs_take {ts : List TyS} {i : Nat} (hi : i < ts.length) : refsOf (ts.take (i + 1)) = refsOf (ts.take i) ++ relsOf ts[i].name ts[i].rels := by
  rw [List.take_succ_eq_append_getElem hi, refsOf_append]
  unfold refsOf
  simp
theorem rels_take {n : ByteArray} {l : List (ByteArray × RT)} {j : Nat} (hj : j < l.length) : relsOf n (l.take (j + 1)) = relsOf n (l.take j) ++ [(⟨n, l[j].1⟩, l[j].2)] := by
  unfold relsOf
  rw [List.take_succ_eq_append_getElem hj, List.map_append]
  rfl
theorem refs_at {ts : List TyS} {i j : Nat} (hi : i < ts.length) (hj : j < ts[i].rels.length) : ((⟨ts[i].name, ts[i].rels[j].1⟩ : R2), ts[i].rels[j].2) ∈ refsOf ts :=
  refs_mem.2 ⟨ts[i], List.getElem_mem hi, ts[i].rels[j], List.getElem_mem hj, rfl⟩
def boolN : Value → Nat | .bool true => 1 | _ => 0

end Go.Proofs.Ytfhonficpccegaa
namespace Go.Proofs.Ytfhonficpccegaa
open Go Go.RowKit Go.Maps

/-- put06_any, with whatever footprint. -/
theorem put06_up (v : Value) (l : List R2) (r : R2) (w : World) (h : Sl (· < w.heap.size) w 2 v (r2cs l)) (hu : UpR l) (hl : l.length ≤ 1000000000) : Calls Try.prog 38 #[v, r2V r] w fun e w' => ∃ v' l', e = .returned v' ∧ Ins l r l' ∧ Sl (· < w'.heap.size) w' 2 v' (r2cs l') ∧ Below w.heap.size w w' :=
  (put06_any v l r w (fun _ h => h) h hu hl).mono fun e w' hr => by
    obtain ⟨v', l', rfl, hi, _, hs, hb⟩ := hr
    exact ⟨v', l', rfl, hi, hs.mono fun b hb' => hb'.elim (fun h => Nat.lt_of_lt_of_le h hb.size) (fun h => h.2), hb⟩

set_option maxRecDepth 100000 in
set_option maxHeartbeats 600000 in
theorem barren06_any (ts : List TyS) (tv : Value) (w : World) (h : TysAt (· < w.heap.size) w ts tv) (hu : uniqOk ts = true) (hsz : (refsOf ts).length ≤ 1000000) (htl : ts.length ≤ 1000000) (hrl : ∀ t ∈ ts, t.rels.length ≤ 1000000 ∧ ∀ r ∈ t.rels, r.2.sz ≤ 1000000) :
    Calls Try.prog 14 #[.agg #[tv]] w fun e w' => ∃ (v : Value) (ss S : List R2), e = .returned v ∧ LeastP ts S ∧ ClosedP ts S ∧ UpR ss ∧ (∀ x, x ∈ ss ↔ x ∈ (refsOf ts).map (·.1) ∧ ¬ x ∈ S) ∧ Sl (· < w'.heap.size) w' 2 v (r2cs ss) ∧ Below w.heap.size w w' := by
  obtain ⟨aot, ct, rfl, hlct, hcmt, htcell⟩ := h.rows
  have HTC := Lib.hid htcell
  have HTY := Lib.hid h
  have HU := Lib.hid hu
  have HSZ := Lib.hid hsz
  have HTL := Lib.hid htl
  have HRL := Lib.hid hrl
  have HX := Lib.hid (Ext.alloc w (.cells #[.slice aot ts.length ct] 24))
  have HSB := Lib.hid (Blk.made w #[.slice aot ts.length ct] 24)
  have htl' := htl
  clear h hu hsz htl hrl htcell
  go_enter Try.func14, Try.ntmps14
  go_wp2_with fail
  obtain ⟨w1, hw1⟩ : ∃ x, x = w.alloc (.cells #[.slice aot ts.length ct] 24) := ⟨_, rfl⟩
  rw [← hw1] at HX HSB ⊢
  clear hw1
  go_loopw [3, 4, 5] (fun lv av cv wr => ∃ (L A : List R2) (ch : Bool), cv = .bool ch ∧ Sl (· < wr.heap.size) wr 2 lv (r2cs L) ∧ Sl (· < wr.heap.size) wr 2 av (r2cs A) ∧ UpR L ∧ UpR A ∧ LeastP ts L ∧ (∀ x ∈ A, x ∈ (refsOf ts).map (·.1)) ∧ (ch = false → ClosedP ts L ∧ ∀ x ∈ (refsOf ts).map (·.1), x ∈ A) ∧ Ext w1 wr) (fun lv _ cv _ => ((refsOf ts).length - sliceLen lv) * 2 + boolN cv)
  case atStart => exact ⟨[], [], true, rfl, Sl.nil _ _ _, Sl.nil _ _ _, List.Pairwise.nil, List.Pairwise.nil, LeastP.nil ts, fun x hx => (by cases hx), fun e => (by cases e), Ext.refl _⟩
  case round =>
    obtain ⟨L, A, ch, rfl, hL, hA, huL, huA, hle, hsA, hfin, hext⟩ := hrel
    have HL := Lib.hid hL
    have HA := Lib.hid hA
    have HUL := Lib.hid huL
    have HUA := Lib.hid huA
    have HLE := Lib.hid hle
    have HSA := Lib.hid hsA
    have HEX := Lib.hid hext
    have hsb := (HSB.out.below hext).cells
    obtain ⟨aol, cl, rfl, -, -, -⟩ := refs_rows hL
    obtain ⟨aoa, ca, rfl, -, -, -⟩ := refs_rows hA
    have HMS := Lib.hid (show sliceLen (.slice aol L.length cl) = L.length from rfl)
    cases ch with
    | true =>
      clear hL hA huL huA hle hsA hfin hext
      go_wp2_with fail
      clear hsb
      obtain ⟨N0, hN0⟩ : ∃ x, x = L.length := ⟨_, rfl⟩
      have HN0 := Lib.hid hN0
      have HST := Lib.hid (show BI ts N0 L A false (refsOf (ts.take 0)) from by rw [hN0]; exact BI.start HUL.out HUA.out HLE.out HSA.out)
      clear hN0
      rename World => wo
      go_loopw [3, 4, 5, 22] (fun lv av cv iv wr => ∃ (i : Nat) (L A : List R2) (ch : Bool), i ≤ ts.length ∧ iv = .int .i64 i ∧ cv = .bool ch ∧ Sl (· < wr.heap.size) wr 2 lv (r2cs L) ∧ Sl (· < wr.heap.size) wr 2 av (r2cs A) ∧ BI ts N0 L A ch (refsOf (ts.take i)) ∧ Ext w1 wr) (fun _ _ _ iv _ => ts.length - (intOf iv).toNat)
      case atStart => exact ⟨0, L, A, false, by omega, rfl, rfl, HL.out, HA.out, HST.out, HEX.out⟩
      case round =>
        clear HL HA HUL HUA HLE HSA HEX HST
        obtain ⟨i, L1, A1, ch1, hi, rfl, rfl, hL, hA, hbi, hext⟩ := hrel
        have HL1 := Lib.hid hL
        have HA1 := Lib.hid hA
        have HBI1 := Lib.hid hbi
        have HEX1 := Lib.hid hext
        by_cases hlt : i < ts.length
        · have HTK := Lib.hid (refs_take hlt)
          have HLK := Lib.hid (fun j (hj : j < ts[i].rels.length) => And.intro (look_here HU.out hlt hj) (refs_at hlt hj))
          have HRLI := Lib.hid (HRL.out ts[i] (List.getElem_mem hlt))
          have hbel : Below w.heap.size w wr := HX.out.trans hext
          obtain ⟨bb, off, rv, rfl, hb, c0, c1, hrl⟩ := HTC.out i hlt
          have d0 := (hbel.cell (p := ⟨bb, off + i * 2, none⟩) hb).trans c0
          have d1 := (hbel.cell (p := ⟨bb, off + i * 2 + 1, none⟩) hb).trans c1
          obtain ⟨aor, cr, rfl, hlr, hcr, hrc⟩ := hrl.rows
          have HRC := Lib.hid hrc
          have x1 := Ext.alloc wr (.cells #[.string ts[i].name, .slice aor ts[i].rels.length cr] 59)
          have HT1 := Lib.hid (Blk.made wr #[.string ts[i].name, .slice aor ts[i].rels.length cr] 59)
          have HE1 := Lib.hid (show Ext w1 _ from HEX1.out.trans x1)
          have HLX := Lib.hid (hL.up x1)
          have HAX := Lib.hid (hA.up x1)
          have HBI := Lib.hid (show BI ts N0 L1 A1 ch1 (refsOf (ts.take i) ++ relsOf ts[i].name (ts[i].rels.take 0)) from by rw [show relsOf ts[i].name (ts[i].rels.take 0) = [] from rfl, List.append_nil]; exact HBI1.out)
          obtain ⟨aol1, cl1, rfl, -, -, -⟩ := refs_rows hL
          obtain ⟨aoa1, ca1, rfl, -, -, -⟩ := refs_rows hA
          have ht1 := HT1.out.cells
          generalize refsOf (ts.take i) = pr at *
          generalize ts[i] = t at *
          clear c0 c1 hrl hrc hbel hext hL hA hbi x1
          go_wp2_with fail
          clear d0 d1 ht1
          obtain ⟨wt, hwt⟩ : ∃ x, x = wr.alloc (.cells #[.string t.name, .slice aor t.rels.length cr] 59) := ⟨_, rfl⟩
          obtain ⟨bt, hbt⟩ : ∃ x, x = wr.heap.size := ⟨_, rfl⟩
          rw [← hwt] at HT1 HE1 HLX HAX ⊢
          rw [← hbt] at HT1 ⊢
          clear hwt hbt
          go_loopw [3, 4, 5, 29] (fun lv av cv jv wr => ∃ (j : Nat) (L A : List R2) (ch : Bool), j ≤ t.rels.length ∧ jv = .int .i64 j ∧ cv = .bool ch ∧ Sl (· < wr.heap.size) wr 2 lv (r2cs L) ∧ Sl (· < wr.heap.size) wr 2 av (r2cs A) ∧ BI ts N0 L A ch (pr ++ relsOf t.name (t.rels.take j)) ∧ Ext wt wr) (fun _ _ _ jv _ => t.rels.length - (intOf jv).toNat)
          case atStart => exact ⟨0, _, _, _, by omega, rfl, rfl, HLX.out, HAX.out, HBI.out, Ext.refl _⟩
          case round =>
            clear HLX HAX HBI HL1 HA1 HBI1
            obtain ⟨j, L2, A2, ch2, hj, rfl, rfl, hL, hA, hbi, hext⟩ := hrel
            have HL2 := Lib.hid hL
            have HA2 := Lib.hid hA
            have HB2 := Lib.hid hbi
            have HEX2 := Lib.hid hext
            by_cases hltj : j < t.rels.length
            · have HRT := Lib.hid (rels_take (n := t.name) hltj)
              have HLKJ := Lib.hid (HLK.out j hltj).1
              have HRAT := Lib.hid (HLK.out j hltj).2
              have HRSZ := Lib.hid (HRLI.out.2 t.rels[j] (List.getElem_mem hltj))
              have htl2 := HRLI.out.1
              have hbel : Below w.heap.size w wr := HX.out.trans (HE1.out.trans hext)
              obtain ⟨bb2, off2, pv, rfl, hb2, c0, c1, c2, c3, c4, hpt⟩ := HRC.out j hltj
              have d0 := (hbel.cell (p := ⟨bb2, off2 + j * 5, none⟩) hb2).trans c0
              have d1 := (hbel.cell (p := ⟨bb2, off2 + j * 5 + 1, none⟩) hb2).trans c1
              have d2 := (hbel.cell (p := ⟨bb2, off2 + j * 5 + 2, none⟩) hb2).trans c2
              have d3 := (hbel.cell (p := ⟨bb2, off2 + j * 5 + 3, none⟩) hb2).trans c3
              have d4 := (hbel.cell (p := ⟨bb2, off2 + j * 5 + 4, none⟩) hb2).trans c4
              obtain ⟨aop, cp, rfl, -, -, -⟩ := hpt.rows
              obtain ⟨aol2, cl2, rfl, -, -, -⟩ := refs_rows hL
              obtain ⟨aoa2, ca2, rfl, -, -, -⟩ := refs_rows hA
              generalize t.rels[j] = y at *
              obtain ⟨yn, r⟩ := y
              dsimp only at d0 d1 d2 d3 d4 HRT HLKJ HRAT HRSZ
              obtain ⟨wa, hwa⟩ : ∃ x, x = wr.alloc (.cells #[.string yn, .int .i64 r.k, .string r.a, .string r.b, .slice aop r.ps.length cp] 61) := ⟨_, rfl⟩
              obtain ⟨wx, hwx⟩ : ∃ x, x = wa.alloc (.cells #[.string t.name, .string yn] 43) := ⟨_, rfl⟩
              have ea : wa.heap.size = wr.heap.size + 1 := by rw [hwa]; simp
              have xa : Ext wr wa := by rw [hwa]; exact Ext.alloc _ _
              have xx : Ext wa wx := by rw [hwx]; exact Ext.alloc _ _
              have HYA := Lib.hid (show Blk wx wr.heap.size #[.string yn, .int .i64 r.k, .string r.a, .string r.b, .slice aop r.ps.length cp] 61 from Blk.below (by rw [hwa]; exact Blk.made _ _ _) xx)
              have HXB := Lib.hid (show Blk wx (wr.heap.size + 1) #[.string t.name, .string yn] 43 from by rw [hwx, ← ea]; exact Blk.made _ _ _)
              have HEW := Lib.hid (show Ext wt wx from hext.trans (xa.trans xx))
              have HBW := Lib.hid (show Below w.heap.size w wx from HX.out.trans (HE1.out.trans HEW.out))
              have HLW := Lib.hid (hL.up (xa.trans xx))
              have HPUT := Lib.hid (put06_up _ A2 ⟨t.name, yn⟩ wx (hA.up (xa.trans xx)) HB2.out.upA (by have := HB2.out.lenA; have := HSZ.out; omega))
              have ya0 := (show Blk wa wr.heap.size #[.string yn, .int .i64 r.k, .string r.a, .string r.b, .slice aop r.ps.length cp] 61 from by rw [hwa]; exact Blk.made _ _ _).cells
              have ta0 := (HT1.out.below (hext.trans xa)).cells
              have yx := HYA.out.cells
              have xxc := HXB.out.cells
              have tx := (HT1.out.below HEW.out).cells
              subst hwx hwa
              unfold r2V at HPUT
              dsimp only at HPUT
              clear c0 c1 c2 c3 c4 hpt hbel hext hL hA hbi xa xx ea
              go_wp2_with fail
              refine HPUT.out.mono ?_
              rintro e w4 ⟨av4, A4, rfl, hins, hsA4, hb4⟩
              have HEX4 := Lib.hid (HEW.out.trans hb4)
              have HBW4 := Lib.hid (show Below w.heap.size w w4 from HX.out.trans (HE1.out.trans HEX4.out))
              have HINS := Lib.hid hins
              have HA4 := Lib.hid hsA4
              have HL4 := Lib.hid (HLW.out.up hb4)
              have HY4 := Lib.hid (HYA.out.below hb4)
              have HX4 := Lib.hid (HXB.out.below hb4)
              have HFI := Lib.hid (find06_any ts _ t.name yn w4 (HTY.out.up HBW4.out) HU.out)
              rw [HLKJ.out] at HFI
              have s4 := (HSB.out.below (HE1.out.trans HEX4.out)).cells
              have t4 := (HT1.out.below HEX4.out).cells
              have y4 := HY4.out.cells
              have x4 := HX4.out.cells
              clear hb4 hins hsA4 HPUT ya0 ta0 yx xxc tx HYA HXB HLW HEW HBW d0 d1 d2 d3 d4
              go_wp2_with fail
              refine HFI.out.mono ?_
              rintro e w5 ⟨⟨zr, zv⟩, rfl, hat5, hz, -, hb5⟩
              obtain rfl : zr = r := hz _ rfl
              clear hz
              dsimp only at hat5
              obtain ⟨ao5, c5, rfl, -, -, -⟩ := hat5.rows
              have x56 := Ext.alloc w5 (.cells #[.int .i64 zr.k, .string zr.a, .string zr.b, .slice ao5 zr.ps.length c5] 46)
              have HR6 := Lib.hid (Blk.made w5 #[.int .i64 zr.k, .string zr.a, .string zr.b, .slice ao5 zr.ps.length c5] 46)
              have HEX6 := Lib.hid (HEX4.out.trans (Ext.trans hb5 x56))
              have HBW6 := Lib.hid (show Below w.heap.size w _ from HX.out.trans (HE1.out.trans HEX6.out))
              have HL6 := Lib.hid (HL4.out.up (Ext.trans hb5 x56))
              have HA6 := Lib.hid (HA4.out.up (Ext.trans hb5 x56))
              have HX6 := Lib.hid (HX4.out.below (Ext.trans hb5 x56))
              have HAT6 := Lib.hid (hat5.up x56)
              have HAM := Lib.hid (among_any _ L2 ⟨t.name, yn⟩ _ HL6.out)
              have x6 := HX6.out.cells
              unfold r2V at HAM
              dsimp only at HAM
              unfold rvV rV
              dsimp only
              clear hat5 hb5 x56 HFI s4 t4 y4 x4 HY4 HX4 HL4 HA4
              go_wp2_with fail
              refine HAM.out.mono ?_
              rintro e w7 ⟨rfl, hb7⟩
              have HEX7 := Lib.hid (HEX6.out.trans hb7)
              have HBW7 := Lib.hid (show Below w.heap.size w w7 from HX.out.trans (HE1.out.trans HEX7.out))
              have HL7 := Lib.hid (HL6.out.up hb7)
              have HA7 := Lib.hid (HA6.out.up hb7)
              have HX7 := Lib.hid (HX6.out.below hb7)
              have HR7 := Lib.hid (HR6.out.below hb7)
              have HAT7 := Lib.hid (HAT6.out.up hb7)
              have s7 := (HSB.out.below (HE1.out.trans HEX7.out)).cells
              have t7 := (HT1.out.below HEX7.out).cells
              have x7 := HX7.out.cells
              have r7 := HR7.out.cells
              have hjw : wrap64 ((j : Int) + 1) = ((j + 1 : Nat) : Int) := by rw [wrap_in _ (by omega) (by omega)]; omega
              by_cases hin : (⟨t.name, yn⟩ : R2) ∈ L2
              · have HBN := Lib.hid (HB2.out.skip HRAT.out HINS.out (.inl hin))
                rw [decide_eq_true hin]
                clear hb7 HAM hin x6
                go_wp2_with fail
                go_roundw
                case rel => exact ⟨j + 1, L2, A4, ch2, by omega, by go_num, rfl, HL7.out, HA7.out, by rw [HRT.out, ← List.append_assoc]; exact HBN.out, HEX7.out⟩
                case measure => simp [intOf]; omega
              · rw [decide_eq_false hin]
                have HIN := Lib.hid hin
                have HCN := Lib.hid (can06_any ts t.name L2 zr _ _ _ w7 (HTY.out.up HBW7.out) HL7.out HAT7.out (by have := HTL.out; omega) (by have := HRSZ.out; omega))
                unfold rV at HCN
                clear hb7 HAM hin x6
                go_wp2_with fail
                refine HCN.out.mono ?_
                rintro e w8 ⟨rfl, hb8⟩
                have HEX8 := Lib.hid (HEX7.out.trans hb8)
                have HL8 := Lib.hid (HL7.out.up hb8)
                have HA8 := Lib.hid (HA7.out.up hb8)
                have HX8 := Lib.hid (HX7.out.below hb8)
                have x8 := HX8.out.cells
                cases hpc : zr.pcan (refsOf ts) L2 t.name with
                | false =>
                  have HBN := Lib.hid (HB2.out.skip HRAT.out HINS.out (.inr hpc))
                  clear hb8 HCN s7 t7 x7 r7 hpc
                  go_wp2_with fail
                  go_roundw
                  case rel => exact ⟨j + 1, L2, A4, ch2, by omega, by go_num, rfl, HL8.out, HA8.out, by rw [HRT.out, ← List.append_assoc]; exact HBN.out, HEX8.out⟩
                  case measure => simp [intOf]; omega
                | true =>
                  have HPT := Lib.hid (put06_up _ L2 ⟨t.name, yn⟩ w8 HL8.out HB2.out.upL (by have := HB2.out.lenL; have := HSZ.out; omega))
                  have HPC := Lib.hid hpc
                  unfold r2V at HPT
                  dsimp only at HPT
                  clear hb8 HCN s7 t7 x7 r7 hpc
                  go_wp2_with fail
                  refine HPT.out.mono ?_
                  rintro e w9 ⟨lv9, L9, rfl, hins9, hsL9, hb9⟩
                  have HEX9 := Lib.hid (HEX8.out.trans hb9)
                  have HA9 := Lib.hid (HA8.out.up hb9)
                  have HL9 := Lib.hid hsL9
                  have HBN := Lib.hid (HB2.out.add HRAT.out HINS.out hins9 HIN.out HPC.out)
                  clear hb9 hins9 hsL9 HPT x8
                  go_wp2_with fail
                  go_roundw
                  case rel => exact ⟨j + 1, L9, A4, true, by omega, by go_num, rfl, HL9.out, HA9.out, by rw [HRT.out, ← List.append_assoc]; exact HBN.out, HEX9.out⟩
                  case measure => simp [intOf]; omega
            · obtain rfl : j = t.rels.length := by omega
              rw [List.take_length] at HB2
              have htl2 := HTL.out
              have hiw : wrap64 ((i : Int) + 1) = ((i + 1 : Nat) : Int) := by rw [wrap_in _ (by omega) (by omega)]; omega
              clear hL hA hbi hext
              go_wp2_with fail
              go_roundw
              case rel => exact ⟨i + 1, L2, A2, ch2, by omega, by go_num, rfl, HL2.out, HA2.out, by rw [HTK.out]; exact HB2.out, HE1.out.trans HEX2.out⟩
              case measure => simp [intOf]; omega
        · obtain rfl : i = ts.length := by omega
          rw [List.take_length] at HBI1
          obtain ⟨aol1, cl1, rfl, -, -, -⟩ := refs_rows hL
          have HLN := Lib.hid HBI1.out.lenL
          clear hL hA hbi hext
          go_wp2_with fail
          go_roundw
          case rel => exact ⟨L1, A1, ch1, rfl, HL1.out, HA1.out, HBI1.out.upL, HBI1.out.upA, HBI1.out.least, HBI1.out.subA, fun e => by
            have := HBI1.out
            rw [e] at this
            exact ⟨this.closed, this.all⟩, HEX1.out⟩
          case measure =>
            have h1 := HBI1.out.len0
            have h2 := HBI1.out.more
            have h3 := HN0.out
            have h4 := HLN.out
            show ((refsOf ts).length - L1.length) * 2 + boolN (.bool ch1) < ((refsOf ts).length - L.length) * 2 + 1
            cases ch1 with
            | false => show _ * 2 + 0 < _; omega
            | true => have := h2 rfl; show _ * 2 + 1 < _; omega
    | false =>
      obtain ⟨hcl, hall⟩ := hfin rfl
      have HCL := Lib.hid hcl
      have HALL := Lib.hid hall
      have HAL := Lib.hid (show A.length ≤ 1000000 from by
        have := nodup_le huA.nodup hsA
        rw [List.length_map] at this
        have := HSZ.out; omega)
      have HSAM := Lib.hid hsA
      obtain ⟨aoa2, ca2, hva, -, -, hac⟩ := refs_rows hA
      cases hva
      have HAC := Lib.hid hac
      clear hL hA huL huA hle hsA hfin hext hcl hall hac
      go_wp2_with fail
      clear hsb
      obtain ⟨wf, hwf⟩ : ∃ x, x = wr := ⟨_, rfl⟩
      rw [← hwf] at HL HA HEX HAC ⊢
      clear hwf
      go_loopw [13, 69] (fun ov iv wr => ∃ i : Nat, i ≤ A.length ∧ iv = .int .i64 i ∧ Own wr wf.heap.size 43 2 ov (r2cs ((A.take i).filter fun x => decide (¬ x ∈ L))) ∧ Ext wf wr) (fun _ iv _ => A.length - (intOf iv).toNat)
      case atStart => exact ⟨0, by omega, rfl, Own.nil _ _ _ _, Ext.refl _⟩
      case round =>
        obtain ⟨i, hi, rfl, hown, hext⟩ := hrel
        have HOW := Lib.hid hown
        have HE := Lib.hid hext
        have hal := HAL.out
        by_cases hlt : i < A.length
        · have HFL := Lib.hid (show ((A.take (i + 1)).filter fun x => decide (¬ x ∈ L)) = ((A.take i).filter fun x => decide (¬ x ∈ L)) ++ (if decide (¬ A[i] ∈ L) = true then [A[i]] else []) from by
            rw [List.take_succ_eq_append_getElem hlt, List.filter_append]
            by_cases hd : A[i] ∈ L <;> simp [hd])
          obtain ⟨r, hlook⟩ := look_refs (HSAM.out A[i] (List.getElem_mem hlt))
          have HLOOK := Lib.hid hlook
          obtain ⟨b2, off2, rfl, hb2, c0, c1⟩ := HAC.out i hlt
          have d0 := (hext.cell (a := ⟨b2, off2 + i * 2, none⟩) c0)
          have d1 := (hext.cell (a := ⟨b2, off2 + i * 2 + 1, none⟩) c1)
          have HLEN := Lib.hid (show ((A.take i).filter fun x => decide (¬ x ∈ L)).length ≤ A.length from Nat.le_trans (List.length_filter_le _ _) (by rw [List.length_take]; omega))
          generalize ((A.take i).filter fun x => decide (¬ x ∈ L)) = O at *
          generalize A[i] = x at *
          obtain ⟨xt, xr⟩ := x
          dsimp only at d0 d1
          have x1 := Ext.alloc wr (.cells #[.string xt, .string xr] 43)
          have HXB := Lib.hid (Blk.made wr #[.string xt, .string xr] 43)
          have HEX1 := Lib.hid (hext.trans x1)
          have HBW1 := Lib.hid (show Below w.heap.size w _ from HX.out.trans (HEX.out.trans HEX1.out))
          have HFI := Lib.hid (find06_any ts _ xt xr _ (HTY.out.up HBW1.out) HU.out)
          rw [HLOOK.out] at HFI
          have HOX := Lib.hid (hown.below x1)
          have s1 := (HSB.out.below (HEX.out.trans HEX1.out)).cells
          have xb1 := HXB.out.cells
          have hiw : wrap64 ((i : Int) + 1) = ((i + 1 : Nat) : Int) := by rw [wrap_in _ (by omega) (by omega)]; omega
          clear c0 c1 hown hext x1 hlook
          go_wp2_with fail
          refine HFI.out.mono ?_
          rintro e w5 ⟨⟨zr, zv⟩, rfl, hat5, hz, -, hb5⟩
          obtain rfl : zr = r := hz _ rfl
          clear hz
          dsimp only at hat5
          obtain ⟨ao5, c5, rfl, -, -, -⟩ := hat5.rows
          have x56 := Ext.alloc w5 (.cells #[.int .i64 zr.k, .string zr.a, .string zr.b, .slice ao5 zr.ps.length c5] 46)
          have HEX6 := Lib.hid (HEX1.out.trans (Ext.trans hb5 x56))
          have HL6 := Lib.hid (HL.out.up HEX6.out)
          have HX6 := Lib.hid (HXB.out.below (Ext.trans hb5 x56))
          have HO6 := Lib.hid (HOX.out.below (Ext.trans hb5 x56))
          have HAM := Lib.hid (among_any _ L ⟨xt, xr⟩ _ HL6.out)
          have x6 := HX6.out.cells
          unfold r2V at HAM
          dsimp only at HAM
          unfold rvV rV
          dsimp only
          clear hat5 hb5 x56 HFI s1 xb1 d0 d1
          go_wp2_with fail
          refine HAM.out.mono ?_
          rintro e w7 ⟨rfl, hb7⟩
          have HEX7 := Lib.hid (HEX6.out.trans hb7)
          have HX7 := Lib.hid (HX6.out.below hb7)
          have HO7 := Lib.hid (HO6.out.below hb7)
          have x7 := HX7.out.cells
          clear hb7 HAM x6
          by_cases hin : (⟨xt, xr⟩ : R2) ∈ L
          · have HFN := Lib.hid (show ((A.take (i + 1)).filter fun x => decide (¬ x ∈ L)) = O from by rw [HFL.out, if_neg (by simp [hin]), List.append_nil])
            rw [decide_eq_true hin]
            clear hin
            go_wp2_with fail
            go_roundw
            case rel => exact ⟨i + 1, by omega, by go_num, by rw [HFN.out]; exact HO7.out, HEX7.out⟩
            case measure => simp [intOf]; omega
          · have HFN := Lib.hid (show ((A.take (i + 1)).filter fun x => decide (¬ x ∈ L)) = O ++ [⟨xt, xr⟩] from by rw [HFL.out, if_pos (by simp [hin])])
            rw [decide_eq_false hin]
            clear hin
            go_wp2_with (at_builtin; go_must (refine wpList_own_lit refsT rfl (.tmp 89) (.tmp 91) rfl rfl HO7.out rfl rfl (by simp [Value.oneCell']) (by have := HLEN.out; have := HAL.out; rw [r2cs_length]; simp; omega) (by have := HLEN.out; have := HAL.out; rw [r2cs_length]; simp; omega) HEX7.out.size ?_; intro v8 w8 hown8 hb8 hgr8; have HO8 := Lib.hid (show Own w8 wf.heap.size 43 2 v8 (r2cs (O ++ [⟨xt, xr⟩])) from by rw [r2cs_append]; exact hown8); have HEX8 := Lib.hid (show Ext wf w8 from Below.trans HEX7.out hb8); clear hown8 hb8 hgr8))
            go_roundw
            case rel => exact ⟨i + 1, by omega, by go_num, by rw [HFN.out]; exact HO8.out, HEX8.out⟩
            case measure => simp [intOf]; omega
        · obtain rfl : i = A.length := by omega
          rw [List.take_length] at HOW
          clear hown hext
          go_wp2_with fail
          go_ret
          refine ⟨_, A.filter (fun x => decide (¬ x ∈ L)), L, rfl, HLE.out, HCL.out, List.Pairwise.filter _ HUA.out, fun x => ?_, HOW.out.sl.mono fun b hb => hb.2, HX.out.trans (HEX.out.trans HE.out)⟩
          rw [List.mem_filter, decide_eq_true_eq]
          exact ⟨fun h => ⟨HSAM.out x h.1, h.2⟩, fun h => ⟨HALL.out x h.1, h.2⟩⟩

end Go.Proofs.Ytfhonficpccegaa
