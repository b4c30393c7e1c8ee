/- slices.Index and Contains at texts; the walk of rules.wide. No condition: lemmas. -/
import Derived.Test.YtfhonficpccegaaZ11
namespace Go.Proofs.Ytfhonficpccegaa
open Go Go.RowKit Go.Maps

theorem texts_cell {S : Nat → Prop} {w : World} {ao : Option Addr} {l : List ByteArray} {c : Nat} (h : Sl S w 1 (.slice ao l.length c) (txs l)) : ∀ i (hi : i < l.length), ∃ b off, ao = some ⟨b, off, none⟩ ∧ w.cell? ⟨b, off + i, none⟩ = some (.string l[i]) := by
  obtain ⟨ao', n', c', hv, h1, h2, h3, h4, h5⟩ := h
  cases hv
  intro i hi
  obtain ⟨b, off, rfl, hb, hc⟩ := h5 (fun e => by have := congrArg List.length e; rw [txs_length] at this; simp only [List.length_nil] at this; omega)
  exact ⟨b, off, rfl, hc i _ (by simp [txs, hi])⟩

/-- Is a text there? -/
def inT (s : ByteArray) (l : List ByteArray) : Bool := l.any fun x => decide (x = s)
theorem inT_iff {s : ByteArray} {l : List ByteArray} : inT s l = true ↔ s ∈ l := by
  unfold inT
  rw [List.any_eq_true]
  constructor
  · rintro ⟨x, hx, he⟩
    exact of_decide_eq_true he ▸ hx
  · exact fun h => ⟨s, h, decide_eq_true rfl⟩
theorem inT_not {s : ByteArray} {l : List ByteArray} (h : ¬ s ∈ l) : inT s l = false := by
  cases hb : inT s l with
  | false => rfl
  | true => exact absurd (inT_iff.1 hb) h
set_option maxRecDepth 100000 in
set_option maxHeartbeats 2000000 in
theorem indexT_any {S : Nat → Prop} (v : Value) (l : List ByteArray) (s : ByteArray) (w : World) (h : Sl S w 1 v (txs l)) : Calls Try.prog 84 #[v, .string s] w fun e w' => ∃ k : Int, e = .returned (.int .i64 k) ∧ (0 ≤ k ↔ s ∈ l) ∧ w' = w := by
  obtain ⟨ao, n, c, rfl, hn, hnc, hcm⟩ := h.len
  rw [txs_length, Nat.mul_one] at hn
  subst hn
  have HC := Lib.hid (texts_cell h)
  clear h
  go_enter Try.func84, Try.ntmps84
  go_wp2_with fail
  go_loopw [8] (fun ii wr => ∃ i : Nat, i ≤ l.length ∧ ii = .int .i64 i ∧ (∀ j (hj : j < l.length), j < i → l[j] ≠ s) ∧ wr = w) (fun ii _ => l.length - (intOf ii).toNat)
  case atStart => exact ⟨0, by omega, rfl, fun _ _ h => absurd h (by omega), rfl⟩
  case round =>
    obtain ⟨i, hi, rfl, hall, rfl⟩ := hrel
    have HALL := Lib.hid hall
    clear hall
    by_cases hlt : i < l.length
    · have HUP := Lib.hid (fun h => upto_succ (p := fun j hj => l[j] ≠ s) HALL.out hlt h)
      have HAN := Lib.hid (fun (h : l[i] = s) => (show s ∈ l from h ▸ List.getElem_mem hlt))
      obtain ⟨b, off, hbo, c0⟩ := HC.out i hlt
      cases hbo
      generalize l[i] = x at *
      by_cases he : x = s
      · have HT := Lib.hid (HAN.out he)
        subst he
        clear HUP HAN
        go_wp2_with fail
        go_ret
        exact ⟨_, rfl, ⟨fun _ => HT.out, fun _ => by omega⟩, rfl⟩
      · have HN := Lib.hid (HUP.out he)
        have hne := ba_beq' (fun h => he h.symm)
        rw [← ByteArray.toList_eq, ← ByteArray.toList_eq] at hne
        clear HUP HAN he
        go_wp2_with fail
        go_roundw
        case rel => exact ⟨i + 1, by omega, by go_num, HN.out, by first | rfl | trivial⟩
        case measure => simp [intOf]; omega
    · obtain rfl : i = l.length := by omega
      have HF := Lib.hid (show ¬ s ∈ l from fun hx => by
        obtain ⟨j, hj, he⟩ := List.getElem_of_mem hx
        exact HALL.out j hj hj he)
      go_wp2_with fail
      go_ret
      exact ⟨_, rfl, ⟨fun h => absurd h (by omega), fun h => absurd h HF.out⟩, rfl⟩

set_option maxRecDepth 100000 in
set_option maxHeartbeats 2000000 in
theorem containsT_any {S : Nat → Prop} (v : Value) (l : List ByteArray) (s : ByteArray) (w : World) (h : Sl S w 1 v (txs l)) : Calls Try.prog 67 #[v, .string s] w fun e w' => e = .returned (.bool (inT s l)) ∧ w' = w := by
  have HI := Lib.hid (indexT_any v l s w h)
  clear h
  go_enter Try.func67, Try.ntmps67
  go_wp2_with fail
  refine HI.out.mono ?_
  rintro e w2 ⟨k, rfl, hk, rfl⟩
  have HK := Lib.hid hk
  clear HI hk
  by_cases h0 : 0 ≤ k
  · have HM := Lib.hid (HK.out.1 h0)
    go_wp2_with fail
    go_ret
    exact ⟨by rw [inT_iff.2 HM.out]; simp [h0], rfl⟩
  · have HM := Lib.hid (fun h => h0 (HK.out.2 h))
    go_wp2_with fail
    go_ret
    exact ⟨by rw [inT_not HM.out]; simp [h0], rfl⟩

theorem Own.mono {w : World} {B B' : Nat} {e : TypeId} {sz : Nat} {v : Value} {xs : List Value} (h : Own w B e sz v xs) (hb : B' ≤ B) : Own w B' e sz v xs := by
  obtain ⟨n, h⟩ := h
  refine ⟨n, h.1, ?_⟩
  rcases h.2 with hn | ⟨g, cap, cur, rfl, hbg, r⟩
  · exact .inl hn
  · exact .inr ⟨g, cap, cur, rfl, by omega, r⟩
theorem BkW.mono {w : World} {B B' b3 : Nat} {P : List (R2 × RT)} (h : BkW w B b3 P) (hb : B' ≤ B) : BkW w B' b3 P := by
  obtain ⟨lw, h1, h2, h3⟩ := h
  exact ⟨lw, h1, ⟨fun x hx => ⟨(h2.rows x hx).1, (h2.rows x hx).2.mono hb⟩, h2.apart⟩, h3⟩
/-- A book, as it is read. -/
structure Bk (w : World) (b1 b2 b3 : Nat) (ts : List TyS) : Prop where
  R : BkR (· < w.heap.size) w b1 (refsOf ts)
  T : Mp Try.prog 9 Value.string bV w b2 (tyL ts)
  W : BkW w 0 b3 (refsOf ts)
theorem Bk.up {w w' : World} {b1 b2 b3 : Nat} {ts : List TyS} (h : Bk w b1 b2 b3 ts) (hb : Below w.heap.size w w') : Bk w' b1 b2 b3 ts := ⟨h.R.up hb, h.T.below hb, h.W.up hb⟩
theorem BkR.mono {S S' : Nat → Prop} {w : World} {b1 : Nat} {P : List (R2 × RT)} (h : BkR S w b1 P) (hs : ∀ x, S x → S' x) : BkR S' w b1 P := by
  obtain ⟨lr, h1, h2, h3⟩ := h
  exact ⟨lr, h1, h2, fun x hx => (h3 x hx).mono hs⟩
theorem open_bk (ts : List TyS) (tv : Value) (w : World) (h : TysAt (· < w.heap.size) w ts tv) (hok : ∀ t ∈ ts, t.Ok) (hu : uniqOk ts = true) (hsz : (refsOf ts).length ≤ 1099511627776) :
    Calls Try.prog 30 #[.agg #[tv]] w fun e w' => ∃ b1 b2 b3, e = .returned (.agg #[.map (some b1), .map (some b2), .map (some b3)]) ∧ Bk w' b1 b2 b3 ts ∧ Below w.heap.size w w' := by
  refine (open_any ts tv w (fun _ hx => hx) h hok hu hsz).mono ?_
  rintro e w' ⟨b1, b2, b3, rfl, hb, hw⟩
  exact ⟨b1, b2, b3, rfl, ⟨hb.R.mono fun x hx => Nat.lt_of_lt_of_le hx hw.size, hb.T, hb.W.mono (Nat.zero_le _)⟩, hw⟩
theorem where_fresh {ts : List TyS} (h : uniqOk ts = true) {i : Nat} (hi : i < ts.length) : ∀ j (hj : j < ts[i].rels.length), ¬ ts[i].name ∈ whereP (refsOf (ts.take i) ++ relsOf ts[i].name (ts[i].rels.take j)) ts[i].rels[j].1 := by
  intro j hj hm
  obtain ⟨x, hx, hxe⟩ := List.mem_map.1 hm
  rw [List.mem_filter, decide_eq_true_eq] at hx
  exact look_none_iff.1 (ref_fresh h hi j hj) x hx.1 (by cases hx1 : x.1; rw [hx1] at hxe hx; simp_all)

set_option maxRecDepth 100000 in
set_option maxHeartbeats 8000000 in
theorem wide_any (ts : List TyS) (tv : Value) (w : World) (h : TysAt (· < w.heap.size) w ts tv) (hok : ∀ t ∈ ts, t.Ok) (hu : uniqOk ts = true) (hsz : (refsOf ts).length ≤ 1099511627776) :
    Calls Try.prog 35 #[.agg #[tv]] w fun e w' => ∃ b1 b2 b3, e = .returned (.agg #[.map (some b1), .map (some b2), .map (some b3)]) ∧ Bk w' b1 b2 b3 ts ∧ Below w.heap.size w w' := by
  have hx1 : Ext w ((w.alloc (.cells #[tv] 24)).alloc (.cells #[.map none, .map none, .map none] 74)) := (Ext.alloc _ _).trans (Ext.alloc _ _)
  have HO := Lib.hid (open_any ts tv _ (fun x hx => Nat.lt_of_lt_of_le hx hx1.size) (h.same (Same.below hx1)) hok hu hsz)
  obtain ⟨ao, c, rfl, hlc, hcm, hcell⟩ := h.rows
  have HC := Lib.hid hcell
  have HOK := Lib.hid hok
  have HU := Lib.hid hu
  have HSZ := Lib.hid hsz
  have hS0 := (Blk.made w #[.slice ao ts.length c] 24).alloc (.cells #[.map none, .map none, .map none] 74)
  have hR0 := Blk.made' (w := w.alloc (.cells #[.slice ao ts.length c] 24)) (B := w.heap.size + 1) (by simp) #[.map none, .map none, .map none] 74
  have hs0 := hS0.cells
  have hmm := @run_makeMap Try.prog
  have HX1 := Lib.hid hx1
  have HS0 := Lib.hid hS0
  have HR0 := Lib.hid hR0
  clear h hcell hok hu hsz hx1 hS0 hR0
  go_enter Try.func35, Try.ntmps35
  go_wp2_with fail
  refine HO.out.mono ?_
  rintro e wz ⟨b1, b2, b0, rfl, hbk, hb2⟩
  have HX2 := Lib.hid (show Below w.heap.size w wz from Ext.trans HX1.out hb2)
  have HBK := Lib.hid hbk
  have HBR := Lib.hid hbk.R
  have hS2 := HS0.out.below hb2
  have HR2 := Lib.hid (HR0.out.below hb2)
  obtain ⟨w3, hw3⟩ : ∃ x, x = wz.alloc (.cells #[.map (some b1), .map (some b2), .map (some (wz.heap.size + 1))] 74) := ⟨_, rfl⟩
  obtain ⟨w6, hw6⟩ : ∃ x, x = w3.alloc (.map #[] 0) := ⟨_, rfl⟩
  have e3 : w3.heap.size = wz.heap.size + 1 := by rw [hw3]; simp
  have x23 : Ext wz w3 := by rw [hw3]; exact Ext.alloc _ _
  have x36 : Ext w3 w6 := by rw [hw6]; exact Ext.alloc _ _
  have HBC6 := Lib.hid (show Blk w6 wz.heap.size #[.map (some b1), .map (some b2), .map (some (wz.heap.size + 1))] 74 from Blk.below (by rw [hw3]; exact Blk.made _ _ _) x36)
  have HM6 := Lib.hid (show Mp Try.prog 9 Value.string wvV w6 (wz.heap.size + 1) [] from by rw [hw6, ← e3]; exact Mp.made _)
  have s6 := (hS2.below (x23.trans x36)).cells
  have HB6 := Lib.hid (show Below wz.heap.size wz w6 from x23.trans x36)
  clear HO hs0 hbk hb2 hS2 e3 x23 x36
  subst hw6 hw3
  go_wp2_with fail
  clear s6
  obtain ⟨w6, hw6⟩ : ∃ x, x = (wz.alloc (.cells #[.map (some b1), .map (some b2), .map (some (wz.heap.size + 1))] 74)).alloc (.map #[] 0) := ⟨_, rfl⟩
  rw [← hw6] at HBC6 HM6 HB6 ⊢
  clear hw6
  obtain ⟨b3, hb3⟩ : ∃ x, x = wz.heap.size + 1 := ⟨_, rfl⟩
  obtain ⟨bc, hbc⟩ : ∃ x, x = wz.heap.size := ⟨_, rfl⟩
  rw [← hb3] at HBC6 HM6 ⊢
  have HNBC := Lib.hid (show ¬ bc = b3 from by omega)
  have HLO := Lib.hid (show wz.heap.size ≤ bc from by omega)
  rw [← hbc] at HBC6 ⊢
  have HD := Lib.hid (show wz.heap.size ≤ b3 from by omega)
  have HW6 := Lib.hid (show BkW w6 wz.heap.size b3 [] from ⟨[], HM6.out, ⟨by simp, by simp⟩, fun n => rfl⟩)
  clear hb3 hbc HM6
  go_loopw [15] (fun ii wr => ∃ i : Nat, i ≤ ts.length ∧ ii = .int .i64 i ∧ BkW wr wz.heap.size b3 (refsOf (ts.take i)) ∧ QKept 9 (· = b3) wz.heap.size w6 wr) (fun ii _ => ts.length - (intOf ii).toNat)
  case atStart => exact ⟨0, by omega, rfl, HW6.out, Kept.refl _ _⟩
  case round =>
    obtain ⟨i, hi, rfl, hw, hq⟩ := hrel
    have HW1 := Lib.hid hw
    have HQ1 := Lib.hid hq
    clear HW6 hw
    by_cases hlt : i < ts.length
    · have hbw2 : Below wz.heap.size wz wr := HB6.out.trans hq.below
      have hbel : Below w.heap.size w wr := HX2.out.trans (hbw2.mono HX2.out.size)
      obtain ⟨bb, off, rsv, hbo, hb, c0, c1, hat2⟩ := HC.out i hlt
      cases hbo
      have d0 := (hbel.cell (p := ⟨bb, off + i * 2, none⟩) hb).trans c0
      have d1 := (hbel.cell (p := ⟨bb, off + i * 2 + 1, none⟩) hb).trans c1
      have hokt := HOK.out _ (List.getElem_mem hlt)
      have HP1 := Lib.hid (refsOf_take hlt)
      have HNF := Lib.hid (where_fresh HU.out hlt)
      have HLE := Lib.hid (refsOf_le ts (i + 1))
      have HI1 := Lib.hid hlt
      generalize ts[i] = t at *
      obtain ⟨tn, rels⟩ := t
      dsimp only at *
      obtain ⟨hon, hor⟩ := hokt
      dsimp only at hon hor
      have HOR := Lib.hid hor
      obtain ⟨ao2, c2', rfl, hlc3, hcm3, hcell3⟩ := hat2.rows
      have HC3 := Lib.hid hcell3
      have hea : Ext wr (wr.alloc (.cells #[.string tn, .slice ao2 rels.length c2'] 59)) := Ext.alloc _ _
      have HTB := Lib.hid (Blk.made wr #[.string tn, .slice ao2 rels.length c2'] 59)
      have hta := HTB.out.cells
      have HQA := Lib.hid (QKept.next hq (QKept.of (e := 9) (M := (· = b3)) hea hbw2.size))
      have HNT := Lib.hid (show ¬ wr.heap.size = b3 from fun h => by
        have h3 := HW1.out.lt
        omega)
      have HWA := Lib.hid (HW1.out.up hea)
      clear c0 c1 hat2 hcell3 hbel hbw2 hq hor hon
      go_wp2_with fail
      clear hta d0 d1 hlt
      obtain ⟨wT, hwT⟩ : ∃ x, x = wr.alloc (.cells #[.string tn, .slice ao2 rels.length c2'] 59) := ⟨_, rfl⟩
      rw [← hwT] at HTB HQA HWA ⊢
      clear hwT hea
      generalize wr.heap.size = tb at *
      go_loopw [22] (fun jj wr => ∃ j : Nat, j ≤ rels.length ∧ jj = .int .i64 j ∧ BkW wr wz.heap.size b3 (refsOf (ts.take i) ++ relsOf tn (rels.take j)) ∧ QKept 9 (· = b3) wz.heap.size wT wr) (fun jj _ => rels.length - (intOf jj).toNat)
      case atStart => exact ⟨0, by omega, rfl, by rw [List.take_zero]; simpa [relsOf] using HWA.out, Kept.refl _ _⟩
      case round =>
        obtain ⟨j, hj, rfl, hw, hqj⟩ := hrel
        have HW2 := Lib.hid hw
        have HQ2 := Lib.hid hqj
        clear HWA hw
        by_cases hlt : j < rels.length
        · have hbw2 : Below wz.heap.size wz wr := HB6.out.trans (HQA.out.below.trans hqj.below)
          have hbel : Below w.heap.size w wr := HX2.out.trans (hbw2.mono HX2.out.size)
          obtain ⟨bb, off, pv, hbo, hb, c0, c1, c2, c3, c4, hat2⟩ := HC3.out j hlt
          cases hbo
          have d0 := (hbel.cell (p := ⟨bb, off + j * 5, none⟩) hb).trans c0
          have d1 := (hbel.cell (p := ⟨bb, off + j * 5 + 1, none⟩) hb).trans c1
          have d2 := (hbel.cell (p := ⟨bb, off + j * 5 + 2, none⟩) hb).trans c2
          have d3 := (hbel.cell (p := ⟨bb, off + j * 5 + 3, none⟩) hb).trans c3
          have d4 := (hbel.cell (p := ⟨bb, off + j * 5 + 4, none⟩) hb).trans c4
          obtain ⟨ao3, c3', rfl, -⟩ := hat2.rows
          have hokr := HOR.out _ (List.getElem_mem hlt)
          have HPJ := Lib.hid (relsOf_take (n := tn) hlt)
          have HNJ := Lib.hid (HNF.out j hlt)
          have HJ1 := Lib.hid hlt
          have HWL0 := Lib.hid (show (refsOf (ts.take i) ++ relsOf tn (rels.take j)).length ≤ 1099511627776 from by
            have h1 := HLE.out
            have h2 := HSZ.out
            rw [HP1.out, List.length_append] at h1
            have h3 : (relsOf tn (rels.take j)).length ≤ (relsOf tn rels).length := by simp only [relsOf, List.length_map, List.length_take]; omega
            rw [List.length_append]
            omega)
          generalize rels[j] = x at *
          obtain ⟨xn, p⟩ := x
          dsimp only at *
          have HKX := Lib.hid (show xn.size ≤ maxLen from by have := hokr.1; unfold maxLen; omega)
          have HWL := Lib.hid (show (whereP (refsOf (ts.take i) ++ relsOf tn (rels.take j)) xn).length ≤ 1099511627776 from by
            have := HWL0.out
            unfold whereP
            rw [List.length_map]
            exact Nat.le_trans (List.length_filter_le _ _) this)
          clear c0 c1 c2 c3 c4 hat2 hokr hb
          have hea : Ext wr (wr.alloc (.cells #[.string xn, .int .i64 p.k, .string p.a, .string p.b, .slice ao3 p.ps.length c3'] 61)) := Ext.alloc _ _
          have HRB4 := Lib.hid (Blk.made wr #[.string xn, .int .i64 p.k, .string p.a, .string p.b, .slice ao3 p.ps.length c3'] 61)
          have HQ4 := Lib.hid (QKept.next HQ2.out (QKept.of (e := 9) (M := (· = b3)) hea hbw2.size))
          have HTB4 := Lib.hid (HQ4.out.box HTB.out (by decide) HNT.out)
          have HBC4 := Lib.hid ((QKept.next HQA.out HQ4.out).box HBC6.out (by decide) HNBC.out)
          have HBW4 := Lib.hid (HW2.out.up hea)
          have HS4 := Lib.hid (Nat.le_trans hbw2.size hea.size)
          obtain ⟨vx, hlx, hox, -⟩ := HBW4.out.look xn HKX.out
          have HCT := Lib.hid (containsT_any vx _ tn _ hox.sl)
          rw [inT_not HNJ.out] at HCT
          have t4 := HTB4.out.cells
          have r4 := HRB4.out.cells
          have k4 := HBC4.out.cells
          clear hqj hbel hbw2 hea hox
          go_wp2_with fail
          refine HCT.out.mono ?_
          rintro e wx ⟨rfl, hx⟩
          have hx2 := hx.symm
          subst hx2
          clear hx HCT
          go_wp2_with fail
          clear t4 r4 k4 hlx d0 d1 d2 d3 d4
          obtain ⟨w4, hw4⟩ : ∃ x, x = wr.alloc (.cells #[.string xn, .int .i64 p.k, .string p.a, .string p.b, .slice ao3 p.ps.length c3'] 61) := ⟨_, rfl⟩
          rw [← hw4] at HRB4 HQ4 HTB4 HBC4 HBW4 HS4 ⊢
          clear hw4
          have t4 := HTB4.out.cells
          have r4 := HRB4.out.cells
          have k4 := HBC4.out.cells
          generalize wr.heap.size = rb at *
          obtain ⟨wd, hwd⟩ : ∃ wd, wd = w4.drew := ⟨_, rfl⟩
          have hbcd : Blk wd bc #[.map (some b1), .map (some b2), .map (some b3)] 74 := by rw [hwd]; exact HBC4.out.drew
          have htbd := (show Blk w4.drew tb _ _ from HTB4.out.drew)
          rw [← hwd] at htbd
          have hrbd : Blk wd rb #[.string xn, .int .i64 p.k, .string p.a, .string p.b, .slice ao3 p.ps.length c3'] 61 := by rw [hwd]; exact HRB4.out.drew
          have hbwd := HBW4.out.up (show Below w4.heap.size w4 wd from by rw [hwd]; exact (Below.refl _ _).drew)
          have hq4d : QKept 9 (· = b3) wz.heap.size w4 wd := by rw [hwd]; exact (Kept.refl _ _).drew
          have hszd : wz.heap.size ≤ wd.heap.size := by rw [hwd]; exact HS4.out
          obtain ⟨v, -, hov, lw, hM, hR, hL, hl⟩ := hbwd.look xn HKX.out
          have hnb3 : ∀ g, v.ownBlock = some g → g ≠ b3 := hov.notMap hM.notCells
          have hnbc : ∀ g, v.ownBlock = some g → g ≠ bc := hov.notBlk hbcd (by decide)
          have hntb : ∀ g, v.ownBlock = some g → g ≠ tb := hov.notBlk htbd (by decide)
          have hnrb : ∀ g, v.ownBlock = some g → g ≠ rb := hov.notBlk hrbd (by decide)
          refine region_walkL 13 (Kept (fun x => x < wd.heap.size ∧ v.ownBlock ≠ some x) wd) (by rw [← hwd]; exact Kept.refl _ _) (by kernel_rfl) (by kernel_rfl) (fun _ _ d _ _ h => by cases d <;> exact h) ?_
          rw [← hwd]
          clear hwd
          have h1 : ∀ W, Kept (fun x => x < wd.heap.size ∧ v.ownBlock ≠ some x) wd W → ∀ i, W.cell? ⟨bc, i, none⟩ = (#[.map (some b1), .map (some b2), .map (some b3)] : Array Value)[i]? := fun W h => (h.blk hbcd ⟨hbcd.lt, fun e => hnbc _ e rfl⟩).cells
          have h2 : ∀ W, Kept (fun x => x < wd.heap.size ∧ v.ownBlock ≠ some x) wd W → W.cell? ⟨tb, 0, none⟩ = some (.string tn) := fun W h => (h.blk htbd ⟨htbd.lt, fun e => hntb _ e rfl⟩).cells 0
          have h3 : ∀ W, Kept (fun x => x < wd.heap.size ∧ v.ownBlock ≠ some x) wd W → ∀ i, W.cell? ⟨rb, i, none⟩ = (#[.string xn, .int .i64 p.k, .string p.a, .string p.b, .slice ao3 p.ps.length c3'] : Array Value)[i]? := fun W h => (h.blk hrbd ⟨hrbd.lt, fun e => hnrb _ e rfl⟩).cells
          have h4 : ∀ W, Kept (fun x => x < wd.heap.size ∧ v.ownBlock ≠ some x) wd W → (Instr.lookup 72 (.map (some b3)) (.string xn) false).run Try.prog W = .ok v W := fun W h => by
            have := (hM.same (h.block b3 ⟨hM.lt, fun e => hnb3 _ e rfl⟩)).look strK strV_inj Try.underlying72 (Try.zeroValue38 W) false (str_key xn HKX.out)
            rw [this]
            rcases hl with hl | ⟨hl, _, rfl⟩ <;> rw [hl] <;> rfl
          ((refine WalkL.take 0 _ ?_ (by simp only [List.getElem?_toArray, List.getElem?_cons_zero]; rfl) (by kernel_rfl) (by kernel_rfl) (by kernel_rfl) (by rfl) (fun W hW => ?_) ?_; rotate_left; · (go_simp; try with_reducible rfl)); simp only [Act.put, List.setIfInBounds_toArray, List.set_cons_zero, List.set_cons_succ]); ((refine WalkL.take 1 _ ?_ (by simp only [List.getElem?_toArray, List.getElem?_cons_succ, List.getElem?_cons_zero]; rfl) (by kernel_rfl) (by kernel_rfl) (by kernel_rfl) (by rfl) (fun W hW => ?_) ?_; rotate_left; · (go_simp; try with_reducible rfl)); simp only [Act.put, List.setIfInBounds_toArray, List.set_cons_zero, List.set_cons_succ]); ((refine WalkL.take 2 _ ?_ (by simp only [List.getElem?_toArray, List.getElem?_cons_succ, List.getElem?_cons_zero]; rfl) (by kernel_rfl) (by kernel_rfl) (by kernel_rfl) (by rfl) (fun W hW => ?_) ?_; rotate_left; · (go_simp; try with_reducible rfl)); simp only [Act.put, List.setIfInBounds_toArray, List.set_cons_zero, List.set_cons_succ]); ((refine WalkL.take 3 _ ?_ (by simp only [List.getElem?_toArray, List.getElem?_cons_succ, List.getElem?_cons_zero]; rfl) (by kernel_rfl) (by kernel_rfl) (by kernel_rfl) (by rfl) (fun W hW => ?_) ?_; rotate_left; · (go_simp; try with_reducible rfl)); simp only [Act.put, List.setIfInBounds_toArray, List.set_cons_zero, List.set_cons_succ]); ((refine WalkL.take 4 _ ?_ (by simp only [List.getElem?_toArray, List.getElem?_cons_succ, List.getElem?_cons_zero]; rfl) (by kernel_rfl) (by kernel_rfl) (by kernel_rfl) (by rfl) (fun W hW => ?_) ?_; rotate_left; · (go_simp; try with_reducible rfl)); simp only [Act.put, List.setIfInBounds_toArray, List.set_cons_zero, List.set_cons_succ]); ((refine WalkL.take 5 _ ?_ (by simp only [List.getElem?_toArray, List.getElem?_cons_succ, List.getElem?_cons_zero]; rfl) (by kernel_rfl) (by kernel_rfl) (by kernel_rfl) (by rfl) (fun W hW => ?_) ?_; rotate_left; · (go_simp; try with_reducible rfl)); simp only [Act.put, List.setIfInBounds_toArray, List.set_cons_zero, List.set_cons_succ]); ((refine WalkL.take 6 _ ?_ (by simp only [List.getElem?_toArray, List.getElem?_cons_succ, List.getElem?_cons_zero]; rfl) (by kernel_rfl) (by kernel_rfl) (by kernel_rfl) (by rfl) (fun W hW => ?_) ?_; rotate_left; · (go_simp; try with_reducible rfl)); simp only [Act.put, List.setIfInBounds_toArray, List.set_cons_zero, List.set_cons_succ]); ((refine WalkL.take 7 _ ?_ (by simp only [List.getElem?_toArray, List.getElem?_cons_succ, List.getElem?_cons_zero]; rfl) (by kernel_rfl) (by kernel_rfl) (by kernel_rfl) (by rfl) (fun W hW => ?_) ?_; rotate_left; · (go_simp; try with_reducible rfl)); simp only [Act.put, List.setIfInBounds_toArray, List.set_cons_zero, List.set_cons_succ]); ((refine WalkL.take 8 _ ?_ (by simp only [List.getElem?_toArray, List.getElem?_cons_succ, List.getElem?_cons_zero]; rfl) (by kernel_rfl) (by kernel_rfl) (by kernel_rfl) (by rfl) (fun W hW => ?_) ?_; rotate_left; · (go_simp; try with_reducible rfl)); simp only [Act.put, List.setIfInBounds_toArray, List.set_cons_zero, List.set_cons_succ]); ((refine WalkL.take 9 _ ?_ (by simp only [List.getElem?_toArray, List.getElem?_cons_succ, List.getElem?_cons_zero]; rfl) (by kernel_rfl) (by kernel_rfl) (by kernel_rfl) (by rfl) (fun W hW => ?_) ?_; rotate_left; · (go_simp; try with_reducible rfl)); simp only [Act.put, List.setIfInBounds_toArray, List.set_cons_zero, List.set_cons_succ]); ((refine WalkL.take 10 _ ?_ (by simp only [List.getElem?_toArray, List.getElem?_cons_succ, List.getElem?_cons_zero]; rfl) (by kernel_rfl) (by kernel_rfl) (by kernel_rfl) (by rfl) (fun W hW => ?_) ?_; rotate_left; · (go_simp; try with_reducible rfl)); simp only [Act.put, List.setIfInBounds_toArray, List.set_cons_zero, List.set_cons_succ])
          clear h1 h2 h3 h4
          refine WalkL.one 11 (by kernel_rfl) ?_
          refine ⟨_, (by simp only [List.getElem?_toArray, List.getElem?_cons_succ, List.getElem?_cons_zero]; rfl), by rfl, fun K hK => ?_⟩
          go_simp
          have hE1 : Below wd.heap.size wd (wd.alloc (.cells #[.string tn] 9)) := (Below.refl _ _).alloc (Nat.le_refl _) _
          refine hK.out _ _ ((Kept.refl _ _).alloc (fun x hx => hx.1) _) ?_
          clear hK
          refine WalkL.one 12 (by kernel_rfl) ?_
          refine ⟨_, (by simp only [List.getElem?_toArray, List.getElem?_cons_succ, List.getElem?_cons_zero]; rfl), by rfl, fun K hK => ?_⟩
          have hlen : (whereP (refsOf (ts.take i) ++ relsOf tn (rels.take j)) xn).length ≤ 1099511627776 := by have := HWL.out; exact this
          refine wp_ownw textsT (.tmp 43) (.tmp 46) rfl rfl (hov.below hE1) (m := 1) (news := txs [tn]) rfl rfl (fun j u hu => ?_) (txs_one _) (by rw [txs_length, txs_length]; simp only [List.length_cons, List.length_nil]; omega) (by rw [txs_length, txs_length]; simp only [List.length_cons, List.length_nil]; omega) (by simp; omega) (fun v2 w2 hown2 hw2 hg2 => ?_)
          · rw [Addr.add_lit, cell_of_row _ wd.heap.size (0 + j) #[.string tn] 9 (0, 0) (heap_alloc_new wd _), Nat.zero_add]
            simpa [txs] using hu
          have hkg : Kept (fun x => x < wd.heap.size ∧ v.ownBlock ≠ some x) wd w2 := ⟨hg2.os.trans rfl, hg2.tape.trans rfl, hg2.output.trans rfl, Nat.le_trans (by simp) hg2.size, fun x hx => (hg2.block x (by have := hx.1; simp; omega) (fun e => hx.2 e.symm)).trans (Below.heap_alloc wd _ x hx.1)⟩
          have hqg : QKept 9 (· = b3) wz.heap.size w4 w2 := QKept.next hq4d (QKept.next (QKept.of hE1 hszd) (QKept.grown (hov.below hE1) hg2 (by simp; omega)))
          refine hK.out _ _ hkg ?_
          clear hK
          simp only [Act.put, List.setIfInBounds_toArray, List.set_cons_zero, List.set_cons_succ]
          rw [← txs_append] at hown2
          obtain ⟨w7, hrun, hbw7, ht7⟩ := BkW.put (k := ⟨tn, xn⟩) (r := p) hM hR hL hl hE1 hg2 hov hown2 hw2 HKX.out
          refine WalkL.last (by kernel_rfl) (by kernel_rfl) ?_
          refine ⟨_, (by simp only [List.getElem?_toArray, List.getElem?_cons_succ, List.getElem?_cons_zero]; rfl), by rfl, fun K hK => ?_⟩
          go_simp
          refine hK.out _ _ ?_
          clear hK
          have HW7 := Lib.hid hbw7
          have HQ47 := Lib.hid (QKept.next hqg (QKept.turned ht7 rfl HD.out))
          clear hrun hbw7 ht7 hqg hkg hown2 hw2 hg2 hE1 hlen hM hR hL hl hov hnb3 hnbc hntb hnrb hbcd htbd hrbd hbwd hq4d hszd
          have HWW := Lib.hid (show BkW w7 wz.heap.size b3 (refsOf (ts.take i) ++ relsOf tn (rels.take (j + 1))) from by
            rw [HPJ.out, ← List.append_assoc]
            exact HW7.out)
          have HQW := Lib.hid (QKept.next HQ4.out HQ47.out)
          have hlt2 := HJ1.out
          clear t4 r4 k4
          go_wp2_with fail
          go_roundw
          case rel => exact ⟨j + 1, by omega, by go_num, HWW.out, HQW.out⟩
          case measure => simp [intOf]; omega
        · obtain rfl : j = rels.length := by omega
          have HWW := Lib.hid (show BkW wr wz.heap.size b3 (refsOf (ts.take (i + 1))) from by have := HW2.out; rw [List.take_length] at this; rw [HP1.out]; exact this)
          have HQW := Lib.hid (QKept.next HQA.out HQ2.out)
          have hlt2 := HI1.out
          clear hqj
          go_wp2_with fail
          go_roundw
          case rel => exact ⟨i + 1, by omega, by go_num, HWW.out, HQW.out⟩
          case measure => simp [intOf]; omega
    · obtain rfl : i = ts.length := by omega
      rw [List.take_length] at HW1
      have hbw2 : Below wz.heap.size wz wr := HB6.out.trans hq.below
      have HRC1 := Lib.hid (HR2.out.below hbw2)
      have HBC1 := Lib.hid (HQ1.out.box HBC6.out (by decide) HNBC.out)
      have HBK1 := Lib.hid (show BkR (· < w.heap.size) wr b1 (refsOf ts) ∧ Mp Try.prog 9 Value.string bV wr b2 (tyL ts) from ⟨HBR.out.same (hbw2.block _ HBR.out.lt) fun x hx => hbw2.block x (by have := HX2.out.size; omega), HBK.out.T.below hbw2⟩)
      have hlo := HX2.out.trans (hbw2.mono HX2.out.size)
      have hrcw : w.heap.size ≤ w.heap.size + 1 := by omega
      have hs1 := HRC1.out.set_to 0 (.map (some b1)) rfl
      have hs2 := hs1.set_to 1 (.map (some b2)) rfl
      have hs3 := hs2.set_to 2 (.map (some b3)) rfl
      have c1 := HBC1.out.cells
      have c2 := HRC1.out.cells
      have f2 := HRC1.out.free
      have HS3 := Lib.hid hs3
      have hne : ∀ x, x ≠ w.heap.size + 1 → (((wr.setCell ⟨w.heap.size + 1, 0, none⟩ (.map (some b1))).setCell ⟨w.heap.size + 1, 1, none⟩ (.map (some b2))).setCell ⟨w.heap.size + 1, 2, none⟩ (.map (some b3))).heap[x]? = wr.heap[x]? := fun x hx => by
        rw [Below.heap_setCell _ _ _ x hx, Below.heap_setCell _ _ _ x hx, Below.heap_setCell _ _ _ x hx]
      have HNE := Lib.hid hne
      have HBE := Lib.hid (show Below w.heap.size w (((wr.setCell ⟨w.heap.size + 1, 0, none⟩ (.map (some b1))).setCell ⟨w.heap.size + 1, 1, none⟩ (.map (some b2))).setCell ⟨w.heap.size + 1, 2, none⟩ (.map (some b3))) from ((hlo.setCell hrcw _).setCell hrcw _).setCell hrcw _)
      have hrs : ∀ x, (∀ cs t fr, wr.heap[x]? ≠ some (.cells cs t fr)) → x ≠ w.heap.size + 1 := fun x hx e => hx _ _ _ (e ▸ HRC1.out)
      have HRS := Lib.hid hrs
      clear hs1 hs2 hs3 hlo hne hq hbw2 hrs
      go_wp2_with fail
      refine bodyPost_ret (results_cell_row rfl _ _ (w.heap.size + 1) 74 #[.map (some b1), .map (some b2), .map (some b3)] (0, 0) _ rfl HS3.out Try.underlying74 rfl (by kernel_rfl)) rfl ⟨b1, b2, b3, rfl, ⟨(HBK1.out.1.same (HNE.out _ (HRS.out _ HBK1.out.1.notCells)) (fun x hx => HNE.out x (by omega))).mono fun x hx => Nat.lt_of_lt_of_le hx HBE.out.size, HBK1.out.2.same (HNE.out _ (HRS.out _ HBK1.out.2.notCells)), (HW1.out.keep (HNE.out _ (HRS.out _ HW1.out.notCells)) fun x _ _ hx => HNE.out x fun e => by
        obtain ⟨cs, hx⟩ := hx
        rw [e, show wr.heap[w.heap.size + 1]? = _ from HRC1.out] at hx
        injection hx with hx
        injection hx with _ h2 _
        revert h2
        decide).mono (Nat.zero_le _)⟩, HBE.out⟩

end Go.Proofs.Ytfhonficpccegaa
