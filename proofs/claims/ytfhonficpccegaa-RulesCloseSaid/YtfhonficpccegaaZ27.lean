/- The walk of Writes. The walk of sorted. The walk of need. No condition: lemmas. -/
import Derived.Test.YtfhonficpccegaaZ26
namespace Go.Proofs.Ytfhonficpccegaa
open Go Go.RowKit Go.Maps Go.Shelf

/-- Is a type there? -/
def tyIn (ts : List TyS) (n : ByteArray) : Bool := ts.any fun t => decide (t.name = n)
theorem look_tyL (ts : List TyS) (n : ByteArray) (z : Value) : lookV false z bV (lookA (tyL ts) n) = if tyIn ts n then .bool true else z := by
  induction ts with
  | nil => rfl
  | cons t ts ih =>
    unfold tyIn tyL at *
    rw [List.map_cons, lookA, List.any_cons]
    by_cases h : t.name = n
    · simp [h, lookV, bV]
    · rw [if_neg h, ih]
      simp [h]
/-- Which tuples may be written, or what is wrong first. -/
def wrM (ts : List TyS) (t : Tup) : Int := if (lookA (refsOf ts) ⟨t.o.t, t.o.r⟩).isSome && (tyIn ts t.s.t && (decide (t.s.r.size = 0) || (lookA (refsOf ts) ⟨t.s.t, t.s.r⟩).isSome)) then (if ((lookA (refsOf ts) ⟨t.o.t, t.o.r⟩).getD (.mk 0 ByteArray.empty ByteArray.empty [])).this then 0 else 9) else 4
def wrN (ts : List TyS) (t : Tup) : Int := if chkT t then wrM ts t else 2

set_option maxRecDepth 100000 in
set_option maxHeartbeats 4000000 in
theorem writesP_any (ts : List TyS) (tv : Value) (t : Tup) (w : World) (h : TysAt (· < w.heap.size) w ts tv) (hok : ∀ t ∈ ts, t.Ok) (hu : uniqOk ts = true) (hsz : (refsOf ts).length ≤ 1099511627776) (ht : t.Ok) :
    Calls Try.prog 16 #[.agg #[tv], tV t] w fun e w' => e = .returned (.int .i64 (wrN ts t)) ∧ Below w.heap.size w w' := by
  obtain ⟨⟨ot, oi, or_⟩, ⟨st, si, sr⟩⟩ := t
  have hx1 : Ext w ((w.alloc (.cells #[tv] 24)).alloc (.cells #[.string ot, .string oi, .string or_, .string st, .string si, .string sr] 37)) := (Ext.alloc _ _).trans (Ext.alloc _ _)
  have HX := Lib.hid hx1
  have HCK := Lib.hid (check_any ⟨⟨ot, oi, or_⟩, ⟨st, si, sr⟩⟩ ht ((w.alloc (.cells #[tv] 24)).alloc (.cells #[.string ot, .string oi, .string or_, .string st, .string si, .string sr] 37)))
  have HS := Lib.hid ((Blk.made w #[tv] 24).alloc (.cells #[.string ot, .string oi, .string or_, .string st, .string si, .string sr] 37))
  have HT := Lib.hid (Blk.made' (w := w.alloc (.cells #[tv] 24)) (B := w.heap.size + 1) (by simp) #[.string ot, .string oi, .string or_, .string st, .string si, .string sr] 37)
  have HTS := Lib.hid h
  have HOK := Lib.hid hok
  have HU := Lib.hid hu
  have HSZ := Lib.hid hsz
  have HTO := Lib.hid ht
  have hS := HS.out.cells
  have hT := HT.out.cells
  have HW0 := Lib.hid (show wrN ts ⟨⟨ot, oi, or_⟩, ⟨st, si, sr⟩⟩ = if chkT ⟨⟨ot, oi, or_⟩, ⟨st, si, sr⟩⟩ then wrM ts ⟨⟨ot, oi, or_⟩, ⟨st, si, sr⟩⟩ else 2 from rfl)
  unfold tV at HCK
  unfold tV
  dsimp only at HCK ⊢
  clear h hok hu hsz ht hx1
  go_enter Try.func16, Try.ntmps16
  go_wp2_with fail
  refine HCK.out.mono ?_
  rintro e w2 ⟨rfl, hb2⟩
  have HB2 := Lib.hid (show Below w.heap.size w w2 from Ext.trans HX.out hb2)
  have HS2 := Lib.hid (HS.out.below hb2)
  have HT2 := Lib.hid (HT.out.below hb2)
  have s2 := HS2.out.cells
  clear HCK hS hT hb2
  unfold chkN
  cases hck : chkT ⟨⟨ot, oi, or_⟩, ⟨st, si, sr⟩⟩ with
  | false =>
    have HF := Lib.hid (show wrN ts ⟨⟨ot, oi, or_⟩, ⟨st, si, sr⟩⟩ = 2 from by rw [HW0.out, hck]; rfl)
    rw [show (if false = true then (0 : Int) else 2) = 2 from rfl]
    clear hck
    go_wp2_with fail
    go_ret
    exact ⟨by rw [HF.out]; rfl, HB2.out⟩
  | true =>
  have HW := Lib.hid (show wrN ts ⟨⟨ot, oi, or_⟩, ⟨st, si, sr⟩⟩ = wrM ts ⟨⟨ot, oi, or_⟩, ⟨st, si, sr⟩⟩ from by rw [HW0.out, hck]; rfl)
  rw [show (if true = true then (0 : Int) else 2) = 0 from rfl]
  have HO := Lib.hid (open_bk ts tv _ (HTS.out.up HB2.out) HOK.out HU.out HSZ.out)
  clear hck HW0
  go_wp2_with fail
  refine HO.out.mono ?_
  rintro e w3 ⟨b1, b2, b3, rfl, hbk, hb3⟩
  have HB3 := Lib.hid (show Below w.heap.size w w3 from HB2.out.trans (hb3.mono HB2.out.size))
  obtain ⟨wa, hwa⟩ : ∃ x, x = w3.alloc (.cells #[.map (some b1), .map (some b2), .map (some b3)] 74) := ⟨_, rfl⟩
  have xa : Ext w3 wa := by rw [hwa]; exact Ext.alloc _ _
  have HBC := Lib.hid (show Blk wa w3.heap.size #[.map (some b1), .map (some b2), .map (some b3)] 74 from by rw [hwa]; exact Blk.made _ _ _)
  have HTA := Lib.hid (HT2.out.below (hb3.trans (Below.mono xa hb3.size)))
  have hbka := hbk.up xa
  obtain ⟨z, hlk, hzat, hz1, -⟩ := hbka.R.look ⟨ot, or_⟩ ⟨HTO.out.1.1, HTO.out.1.2.2⟩
  obtain ⟨zo, zc, hzv, -⟩ := hzat.rows
  have HZ1 := Lib.hid hz1
  have HZA := Lib.hid hzat
  have HZV := Lib.hid hzv
  generalize hokk : (lookA (refsOf ts) ⟨ot, or_⟩).isSome = ok at *
  have HOKK := Lib.hid hokk
  unfold rvV rV r2V at hlk
  dsimp only at hlk
  rw [hzv] at hlk
  obtain ⟨wb, hwb⟩ : ∃ x, x = wa.alloc (.cells #[.int .i64 z.1.k, .string z.1.a, .string z.1.b, .slice zo z.1.ps.length zc] 46) := ⟨_, rfl⟩
  have xb : Ext wa wb := by rw [hwb]; exact Ext.alloc _ _
  have eb : wb.heap.size = wa.heap.size + 1 := by rw [hwb]; simp
  have HRB := Lib.hid (show Blk wb wa.heap.size #[.int .i64 z.1.k, .string z.1.a, .string z.1.b, .slice zo z.1.ps.length zc] 46 from by rw [hwb]; exact Blk.made _ _ _)
  have HZB := Lib.hid (hzat.up xb)
  have hbkb := hbka.up xb
  obtain ⟨y, hlky, hyat, -, -⟩ := hbkb.R.look ⟨st, sr⟩ ⟨HTO.out.2.1, HTO.out.2.2.2⟩
  obtain ⟨yo, yc, hyv, -⟩ := hyat.rows
  generalize hsub : (lookA (refsOf ts) ⟨st, sr⟩).isSome = sub at *
  have HSUB := Lib.hid hsub
  unfold rvV rV r2V at hlky
  dsimp only at hlky
  rw [hyv] at hlky
  obtain ⟨wc, hwc⟩ : ∃ x, x = wb.alloc (.cells #[.int .i64 y.1.k, .string y.1.a, .string y.1.b, .slice yo y.1.ps.length yc] 46) := ⟨_, rfl⟩
  have xc : Ext wb wc := by rw [hwc]; exact Ext.alloc _ _
  have hty := (hbkb.up xc).T.look strK strV_inj Try.underlying71 (Try.zeroValue4 _) false (str_key st HTO.out.2.1)
  rw [look_tyL] at hty
  obtain ⟨tb, htb⟩ : ∃ tb, tb = tyIn ts st := ⟨_, rfl⟩
  rw [← htb] at hty
  have HTB := Lib.hid htb
  have HTHC := Lib.hid (thisP_any z.1 z.2 wc (HZB.out.up xc))
  unfold rV at HTHC
  rw [hzv] at HTHC
  have ca := HBC.out.cells
  have cb := (HBC.out.below xb).cells
  have cc := (HBC.out.below (xb.trans xc)).cells
  have ta := HTA.out.cells
  have tb2 := (HTA.out.below xb).cells
  have tc := (HTA.out.below (xb.trans xc)).cells
  have rc := (HRB.out.below xc).cells
  have HB5 := Lib.hid (show Below w.heap.size w wc from HB3.out.trans (Below.mono (xa.trans (xb.trans xc)) HB3.out.size))
  have hsz := HB3.out.size
  clear HO hbk hb3 hbka hbkb hzat hzv hyat hyv xa xb xc eb hz1 s2 htb hokk hsub hsz
  subst hwc hwb hwa
  cases ok with
  | false =>
    have HF := Lib.hid (show wrN ts ⟨⟨ot, oi, or_⟩, ⟨st, si, sr⟩⟩ = 4 from by
      rw [HW.out]
      unfold wrM; dsimp only; rw [HOKK.out]; rfl)
    go_wp2_with fail
    go_ret
    exact ⟨by rw [HF.out]; rfl, HB5.out⟩
  | true =>
  cases tb with
  | false =>
    have HF := Lib.hid (show wrN ts ⟨⟨ot, oi, or_⟩, ⟨st, si, sr⟩⟩ = 4 from by
      rw [HW.out]
      unfold wrM; dsimp only; rw [HOKK.out, ← HTB.out]; rfl)
    go_wp2_with fail
    go_ret
    exact ⟨by rw [HF.out]; rfl, HB5.out⟩
  | true =>
  by_cases hsr : sr.size = 0
  · obtain rfl := ba_size_eq hsr
    clear hsr
    have HM := Lib.hid (show wrN ts ⟨⟨ot, oi, or_⟩, ⟨st, si, ⟨#[]⟩⟩⟩ = if z.1.this then 0 else 9 from by
      rw [HW.out]
      unfold wrM
      dsimp only
      rw [HOKK.out, ← HTB.out]
      obtain ⟨r, hr⟩ := Option.isSome_iff_exists.1 HOKK.out
      rw [hr, HZ1.out r hr]
      rfl)
    go_wp2_with fail
    refine HTHC.out.mono ?_
    rintro e w9 ⟨rfl, hb9⟩
    have HBE := Lib.hid (HB5.out.trans (hb9.mono HB5.out.size))
    clear HTHC hb9 ca cb cc ta tb2 tc rc hlk hlky hty
    cases hth : z.1.this with
    | true =>
      have HF := Lib.hid (HM.out.trans (by rw [hth]; rfl : _ = (0 : Int)))
      clear hth
      go_wp2_with fail
      go_ret
      exact ⟨by rw [HF.out]; rfl, HBE.out⟩
    | false =>
      have HF := Lib.hid (HM.out.trans (by rw [hth]; rfl : _ = (9 : Int)))
      clear hth
      go_wp2_with fail
      go_ret
      exact ⟨by rw [HF.out]; rfl, HBE.out⟩
  have hnesr := ba_size_ne hsr
  have HSR := Lib.hid hsr
  clear hsr
  cases sub with
  | false =>
    have HF := Lib.hid (show wrN ts ⟨⟨ot, oi, or_⟩, ⟨st, si, sr⟩⟩ = 4 from by
      rw [HW.out]
      unfold wrM; dsimp only; rw [HOKK.out, ← HTB.out, HSUB.out]; simp [HSR.out])
    go_wp2_with fail
    go_ret
    exact ⟨by rw [HF.out]; rfl, HB5.out⟩
  | true =>
    have HM := Lib.hid (show wrN ts ⟨⟨ot, oi, or_⟩, ⟨st, si, sr⟩⟩ = if z.1.this then 0 else 9 from by
      rw [HW.out]
      unfold wrM
      dsimp only
      rw [HOKK.out, ← HTB.out, HSUB.out]
      obtain ⟨r, hr⟩ := Option.isSome_iff_exists.1 HOKK.out
      rw [hr, HZ1.out r hr]
      simp)
    go_wp2_with fail
    refine HTHC.out.mono ?_
    rintro e w9 ⟨rfl, hb9⟩
    have HBE := Lib.hid (HB5.out.trans (hb9.mono HB5.out.size))
    clear HTHC hb9 ca cb cc ta tb2 tc rc hlk hlky hty
    cases hth : z.1.this with
    | true =>
      have HF := Lib.hid (HM.out.trans (by rw [hth]; rfl : _ = (0 : Int)))
      clear hth
      go_wp2_with fail
      go_ret
      exact ⟨by rw [HF.out]; rfl, HBE.out⟩
    | false =>
      have HF := Lib.hid (HM.out.trans (by rw [hth]; rfl : _ = (9 : Int)))
      clear hth
      go_wp2_with fail
      go_ret
      exact ⟨by rw [HF.out]; rfl, HBE.out⟩

end Go.Proofs.Ytfhonficpccegaa
namespace Go.Proofs.Ytfhonficpccegaa
open Go Go.RowKit Go.Maps Go.Shelf

set_option maxRecDepth 100000 in
set_option maxHeartbeats 2000000 in
theorem sortedP_any (b : Nat) (S : List R2) (w : World) (hM : Mp Try.prog 43 r2V bV w b (blR S)) (hS : S.length ≤ 549755813888) :
    Calls Try.prog 37 #[.map (some b)] w fun e w' => ∃ (v : Value) (ss : List R2), e = .returned v ∧ ss.Perm S ∧ UpR ss ∧ Own w' w.heap.size 43 2 v (r2cs ss) ∧ Below w.heap.size w w' := by
  have HK := Lib.hid (keysR_any (some b) w)
  have hx : Ext w (w.alloc (.cells #[.map (some b)] 68)) := Ext.alloc _ _
  have HX := Lib.hid hx
  have HS := Lib.hid (sortedR_any (w.alloc (.cells #[.map (some b)] 68)) w.heap.size (some b) (blR S) (by simpa [blR] using hS) (by simp) ((Blk.made w #[.map (some b)] 68).cells 0) (show MpO _ _ _ _ _ (some b) _ from hM.below hx))
  clear hM hx
  go_enter Try.func37, Try.ntmps37
  go_wp2_with fail
  refine HK.out.mono ?_
  rintro e w1 ⟨rfl, h1⟩
  subst h1
  clear HK
  go_wp2_with fail
  refine HS.out.mono ?_
  rintro e w2 ⟨v, ss, rfl, hp, hu, ho, hb⟩
  have HP := Lib.hid (show ss.Perm S from by rw [blR_keys] at hp; exact hp)
  have HU := Lib.hid hu
  have HO := Lib.hid (ho.mono (show w.heap.size ≤ _ from HX.out.size))
  have HB := Lib.hid (show Below w.heap.size w w2 from Ext.trans HX.out hb)
  clear HS hp hu ho hb
  go_wp2_with fail
  go_ret
  exact ⟨v, ss, rfl, HP.out, HU.out, HO.out, HB.out⟩

end Go.Proofs.Ytfhonficpccegaa
namespace Go.Proofs.Ytfhonficpccegaa
open Go Go.RowKit Go.Maps Go.Shelf

mutual
/-- What a rule needs, by a book of the relations P. -/
def RT.pneeds (P : List (R2 × RT)) (typ : ByteArray) : RT → List R2
  | .mk k a b ps => (if k = 2 then [⟨typ, a⟩] else if k = 3 then ⟨typ, a⟩ :: (whereP P b).map fun n => ⟨n, b⟩ else []) ++ pneedsL P typ ps
def pneedsL (P : List (R2 × RT)) (typ : ByteArray) : List RT → List R2 | [] => [] | r :: rs => r.pneeds P typ ++ pneedsL P typ rs
end
theorem pneedsL_eq (P : List (R2 × RT)) (typ : ByteArray) : ∀ l : List RT, pneedsL P typ l = l.flatMap fun r => r.pneeds P typ
  | [] => rfl
  | r :: rs => by rw [pneedsL, List.flatMap_cons, pneedsL_eq P typ rs]
theorem pneedsL_take (P : List (R2 × RT)) (typ : ByteArray) {l : List RT} {i : Nat} (hi : i < l.length) : pneedsL P typ (l.take (i + 1)) = pneedsL P typ (l.take i) ++ l[i].pneeds P typ := by
  rw [List.take_succ_eq_append_getElem hi, pneedsL_eq, pneedsL_eq, List.flatMap_append]
  simp only [List.flatMap_cons, List.flatMap_nil, List.append_nil]
theorem where_ok {ts : List TyS} (h : ∀ t ∈ ts, t.Ok) (b : ByteArray) : ∀ n ∈ whereP (refsOf ts) b, n.size ≤ maxLen := by
  intro n hn
  obtain ⟨x, hx, rfl⟩ := List.mem_map.1 hn
  obtain ⟨t, ht, r, hr, rfl⟩ := refs_mem.1 (List.mem_filter.1 hx).1
  have := (h t ht).1
  show t.name.size ≤ maxLen
  unfold maxLen
  omega
theorem BkW.lookF {w : World} {B b3 : Nat} {P : List (R2 × RT)} (h : BkW w B b3 P) (n : ByteArray) (hn : n.size ≤ maxLen) : ∃ v, Own w B 9 1 v (txs (whereP P n)) ∧ ∀ W, Below w.heap.size w W → (Instr.lookup 72 (.map (some b3)) (.string n) false).run Try.prog W = .ok v W := by
  obtain ⟨v, -, hov, lw, hM, -, -, hl⟩ := h.look n hn
  refine ⟨v, hov, fun W hW => ?_⟩
  have := (hM.below hW).look strK strV_inj Try.underlying72 (Try.zeroValue38 W) false (str_key n hn)
  rw [this]
  rcases hl with hl | ⟨hl, _, rfl⟩ <;> rw [hl] <;> rfl

set_option maxRecDepth 100000 in
set_option maxHeartbeats 8000000 in
theorem need_any {b1 b2 b3 bs : Nat} {ts : List TyS} {w0 : World} (typ : ByteArray) (htyp : typ.size ≤ maxLen) (hbk : Bk w0 b1 b2 b3 ts) (hokt : ∀ t ∈ ts, t.Ok) (hbs : w0.heap.size ≤ bs) (r : RT) : ∀ (pv : Value) (w : World) (S : List R2), RTAt (· < w0.heap.size) w0 r pv → r.Ok → Below w0.heap.size w0 w → Mp Try.prog 43 r2V bV w bs (blR S) →
    Calls Try.prog 45 #[.agg #[.map (some b1), .map (some b2), .map (some b3)], .string typ, rV r pv, .map (some bs)] w fun e w' => e = .returned (.tuple #[]) ∧ Mp Try.prog 43 r2V bV w' bs (blR ((r.pneeds (refsOf ts) typ).foldl addR S)) ∧ Tk bs w w' := by
  have HBK := Lib.hid hbk
  have HOKT := Lib.hid hokt
  have HBS := Lib.hid hbs
  clear hbk hokt hbs
  induction r using RT.ind with
  | h r ih =>
  intro pv w S hat hok hb0 hM
  obtain ⟨-, hoa, hob, hop⟩ := r.ok_iff.1 hok
  obtain ⟨k, ra, rb, ps⟩ := r
  obtain ⟨ao, c, rfl, hlc, hcm, hcell⟩ := hat.rows
  dsimp only [RT.a, RT.b] at hoa hob
  dsimp only [RT.ps] at hop ih hlc hcell
  have HC := Lib.hid hcell
  have IH := Lib.hid ih
  have HOP := Lib.hid hop
  have HB0 := Lib.hid hb0
  have HRA := Lib.hid (show ra.size ≤ maxLen from by unfold maxLen; omega)
  have HRB := Lib.hid (show rb.size ≤ maxLen from by unfold maxLen; omega)
  unfold rV
  dsimp only [RT.k, RT.a, RT.b, RT.ps]
  clear ih hop hoa hob hok hat hcell hb0
  by_cases k2 : k = 2
  · subst k2
    obtain ⟨w1, hw1⟩ : ∃ x, x = w.alloc (.cells #[.map (some b1), .map (some b2), .map (some b3)] 74) := ⟨_, rfl⟩
    obtain ⟨w2, hw2⟩ : ∃ x, x = w1.alloc (.cells #[.int .i64 2, .string ra, .string rb, .slice ao ps.length c] 46) := ⟨_, rfl⟩
    have e1 : w1.heap.size = w.heap.size + 1 := by rw [hw1]; simp
    have x01 : Ext w w1 := by rw [hw1]; exact Ext.alloc _ _
    have x12 : Ext w1 w2 := by rw [hw2]; exact Ext.alloc _ _
    have HX := Lib.hid (show Blk w2 w.heap.size #[.map (some b1), .map (some b2), .map (some b3)] 74 from Blk.below (by rw [hw1]; exact Blk.made _ _ _) x12)
    have HZ := Lib.hid (show Blk w2 (w.heap.size + 1) #[.int .i64 2, .string ra, .string rb, .slice ao ps.length c] 46 from by rw [hw2, ← e1]; exact Blk.made _ _ _)
    have HX2 := Lib.hid (x01.trans x12)
    have HNX := Lib.hid (show w.heap.size ≠ bs from by have := hM.lt; omega)
    have HNZ := Lib.hid (show w.heap.size + 1 ≠ bs from by have := hM.lt; omega)
    have hM2 := hM.below HX2.out
    have x2 := HX.out.cells
    have z2 := HZ.out.cells
    obtain ⟨w3, hst, hM3, hT3⟩ := hM2.store refK r2V_inj Try.underlying68 (ref_key ⟨typ, ra⟩ ⟨htyp, HRA.out⟩) true
    rw [put_addR] at hM3
    unfold r2V bV at hst
    dsimp only at hst
    have HM3 := Lib.hid hM3
    have HTK3 := Lib.hid (show Tk bs w w3 from Tk.next (Tk.of HX2.out) (Tk.turned hT3))
    have HX3 := Lib.hid ((Tk.turned hT3).box HX.out HNX.out)
    have HZ3 := Lib.hid ((Tk.turned hT3).box HZ.out HNZ.out)
    have z3 := HZ3.out.cells
    have HM4 := Lib.hid HM3.out
    have HTK4 := Lib.hid HTK3.out
    have HX4 := Lib.hid HX3.out
    have HE := Lib.hid (show (RT.mk 2 ra rb ps).pneeds (refsOf ts) typ = ⟨typ, ra⟩ :: pneedsL (refsOf ts) typ ps from by rw [RT.pneeds]; rfl)
    clear hM hM2 e1 x01 x12 hM3 hT3
    subst hw2 hw1
    go_enter Try.func45, Try.ntmps45
    go_wp2_with fail
    clear x2 z2 z3 hst
    obtain ⟨w4, hw4⟩ : ∃ x, x = w3 := ⟨_, rfl⟩
    rw [← hw4] at HM4 HTK4 HX4 ⊢
    clear hw4 HM3 HTK3 HX3 HZ3
    go_loopw [47] (fun ii wr => ∃ i : Nat, i ≤ ps.length ∧ ii = .int .i64 i ∧ Mp Try.prog 43 r2V bV wr bs (blR ((pneedsL (refsOf ts) typ (ps.take i)).foldl addR (addR S ⟨typ, ra⟩))) ∧ Tk bs w4 wr) (fun ii _ => ps.length - (intOf ii).toNat)
    case atStart => exact ⟨0, by omega, rfl, by rw [List.take_zero]; exact HM4.out, Tk.refl _ _⟩
    case round =>
      obtain ⟨i, hi, rfl, hm, htk⟩ := hrel
      have HMI := Lib.hid hm
      have HTI := Lib.hid htk
      clear HM4 hm
      by_cases hlt : i < ps.length
      · have hbel : Below w0.heap.size w0 wr := HB0.out.trans ((Tk.next HTK4.out htk).below HB0.out.size HBS.out)
        have HST := Lib.hid (pneedsL_take (refsOf ts) typ hlt)
        have hmem := List.getElem_mem hlt
        have HOPI := Lib.hid (HOP.out _ hmem)
        have HI1 := Lib.hid hlt
        obtain ⟨bb, off, pv2, hbo, hb, c0, c1, c2, c3, hat2⟩ := HC.out i hlt
        cases hbo
        have d0 := (hbel.cell (p := ⟨bb, off + i * 4, none⟩) hb).trans c0
        have d1 := (hbel.cell (p := ⟨bb, off + i * 4 + 1, none⟩) hb).trans c1
        have d2 := (hbel.cell (p := ⟨bb, off + i * 4 + 2, none⟩) hb).trans c2
        have d3 := (hbel.cell (p := ⟨bb, off + i * 4 + 3, none⟩) hb).trans c3
        obtain ⟨ao2, c2', rfl, -⟩ := hat2.rows
        have hea : Ext wr (wr.alloc (.cells #[.int .i64 ps[i].k, .string ps[i].a, .string ps[i].b, .slice ao2 ps[i].ps.length c2'] 46)) := Ext.alloc _ _
        have HR := Lib.hid (IH.out ps[i] hmem _ _ _ hat2 HOPI.out (hbel.trans (hea.mono hbel.size)) (HMI.out.below hea))
        have HEA := Lib.hid hea
        have hbx := (Blk.made wr #[.int .i64 ps[i].k, .string ps[i].a, .string ps[i].b, .slice ao2 ps[i].ps.length c2'] 46).cells
        have hbk4 := ((HTI.out.box HX4.out HNX.out).below hea).cells
        unfold rV at HR
        generalize ps[i] = p at *
        clear c0 c1 c2 c3 hat2 hb htk hbel hmem hea
        go_wp2_with fail
        refine HR.out.mono ?_
        rintro e w5 ⟨rfl, hm5, htk5⟩
        have HM5 := Lib.hid (show Mp Try.prog 43 r2V bV w5 bs (blR ((pneedsL (refsOf ts) typ (ps.take (i + 1))).foldl addR (addR S ⟨typ, ra⟩))) from by rw [HST.out, List.foldl_append]; exact hm5)
        have HTK5 := Lib.hid (Tk.next HTI.out (Tk.next (Tk.of HEA.out) htk5))
        have hlt2 := HI1.out
        clear HR hm5 htk5 hbx hbk4 d0 d1 d2 d3
        go_wp2_with fail
        go_roundw
        case rel => exact ⟨i + 1, by omega, by go_num, HM5.out, HTK5.out⟩
        case measure => simp [intOf]; omega
      · obtain rfl : i = ps.length := by omega
        have HME := Lib.hid (show Mp Try.prog 43 r2V bV wr bs (blR (((RT.mk 2 ra rb ps).pneeds (refsOf ts) typ).foldl addR S)) from by
          have := HMI.out
          rw [List.take_length] at this
          rw [HE.out]
          exact this)
        have HTE := Lib.hid (Tk.next HTK4.out htk)
        clear htk
        go_wp2_with fail
        go_end0
        exact ⟨rfl, HME.out, HTE.out⟩
  by_cases k3 : k = 3
  · subst k3
    clear k2
    obtain ⟨w1, hw1⟩ : ∃ x, x = w.alloc (.cells #[.map (some b1), .map (some b2), .map (some b3)] 74) := ⟨_, rfl⟩
    obtain ⟨w2, hw2⟩ : ∃ x, x = w1.alloc (.cells #[.int .i64 3, .string ra, .string rb, .slice ao ps.length c] 46) := ⟨_, rfl⟩
    have e1 : w1.heap.size = w.heap.size + 1 := by rw [hw1]; simp
    have x01 : Ext w w1 := by rw [hw1]; exact Ext.alloc _ _
    have x12 : Ext w1 w2 := by rw [hw2]; exact Ext.alloc _ _
    have HX := Lib.hid (show Blk w2 w.heap.size #[.map (some b1), .map (some b2), .map (some b3)] 74 from Blk.below (by rw [hw1]; exact Blk.made _ _ _) x12)
    have HZ := Lib.hid (show Blk w2 (w.heap.size + 1) #[.int .i64 3, .string ra, .string rb, .slice ao ps.length c] 46 from by rw [hw2, ← e1]; exact Blk.made _ _ _)
    have HX2 := Lib.hid (x01.trans x12)
    have HNX := Lib.hid (show w.heap.size ≠ bs from by have := hM.lt; omega)
    have HNZ := Lib.hid (show w.heap.size + 1 ≠ bs from by have := hM.lt; omega)
    have hM2 := hM.below HX2.out
    have x2 := HX.out.cells
    have z2 := HZ.out.cells
    obtain ⟨w3, hst, hM3, hT3⟩ := hM2.store refK r2V_inj Try.underlying68 (ref_key ⟨typ, ra⟩ ⟨htyp, HRA.out⟩) true
    rw [put_addR] at hM3
    unfold r2V bV at hst
    dsimp only at hst
    have HM3 := Lib.hid hM3
    have HTK3 := Lib.hid (show Tk bs w w3 from Tk.next (Tk.of HX2.out) (Tk.turned hT3))
    have HX3 := Lib.hid ((Tk.turned hT3).box HX.out HNX.out)
    have HZ3 := Lib.hid ((Tk.turned hT3).box HZ.out HNZ.out)
    obtain ⟨v, hov, hlw⟩ := HBK.out.W.lookF rb HRB.out
    have hl3 := hlw w3 (HB0.out.trans (HTK3.out.below HB0.out.size HBS.out))
    obtain ⟨vo, vn, vc, rfl, hvn, hvc, hvm⟩ := hov.sl.len
    rw [txs_length, Nat.mul_one] at hvn
    subst hvn
    have HVC := Lib.hid (texts_at hov.sl)
    have HVS := Lib.hid (where_ok HOKT.out rb)
    have x3 := HX3.out.cells
    have z3 := HZ3.out.cells
    clear hM hM2 e1 x01 x12 hM3 hT3 hov hlw
    subst hw2 hw1
    go_enter Try.func45, Try.ntmps45
    go_wp2_with fail
    clear x2 z2 x3 z3 hst hl3
    go_loopw [9, 34] (fun _ ii wr => ∃ i : Nat, i ≤ (whereP (refsOf ts) rb).length ∧ ii = .int .i64 i ∧ Mp Try.prog 43 r2V bV wr bs (blR ((((whereP (refsOf ts) rb).take i).map fun n => (⟨n, rb⟩ : R2)).foldl addR (addR S ⟨typ, ra⟩))) ∧ Tk bs w3 wr) (fun _ ii _ => (whereP (refsOf ts) rb).length - (intOf ii).toNat)
    case atStart => exact ⟨0, by omega, rfl, HM3.out, Tk.refl _ _⟩
    case round =>
      obtain ⟨i, hi, rfl, hm, htk⟩ := hrel
      have HMI := Lib.hid hm
      have HTI := Lib.hid htk
      clear HM3 hm
      by_cases hlt : i < (whereP (refsOf ts) rb).length
      · have hbel : Below w0.heap.size w0 wr := HB0.out.trans ((Tk.next HTK3.out htk).below HB0.out.size HBS.out)
        obtain ⟨bb, off, hbo, hb, c0⟩ := HVC.out i hlt
        cases hbo
        have d0 := (hbel.cell (p := ⟨bb, off + i, none⟩) hb.2).trans c0
        have hks := HVS.out _ (List.getElem_mem hlt)
        have HST := Lib.hid (show ((whereP (refsOf ts) rb).take (i + 1)).map (fun n => (⟨n, rb⟩ : R2)) = ((whereP (refsOf ts) rb).take i).map (fun n => (⟨n, rb⟩ : R2)) ++ [⟨(whereP (refsOf ts) rb)[i], rb⟩] from by rw [List.take_succ_eq_append_getElem hlt, List.map_append]; rfl)
        have HI1 := Lib.hid hlt
        generalize hn : (whereP (refsOf ts) rb)[i] = nm at *
        clear hn
        obtain ⟨w5, hst, hM5, hT5⟩ := HMI.out.store refK r2V_inj Try.underlying68 (ref_key ⟨nm, rb⟩ ⟨hks, HRB.out⟩) true
        rw [put_addR] at hM5
        unfold r2V bV at hst
        dsimp only at hst
        have HM5 := Lib.hid (show Mp Try.prog 43 r2V bV w5 bs (blR ((((whereP (refsOf ts) rb).take (i + 1)).map fun n => (⟨n, rb⟩ : R2)).foldl addR (addR S ⟨typ, ra⟩))) from by rw [HST.out, List.foldl_append]; exact hM5)
        have HTK5 := Lib.hid (Tk.next HTI.out (Tk.turned hT5))
        have z5 := (HTI.out.box HZ3.out HNZ.out).cells
        have hlt2 := HI1.out
        clear c0 hb htk hbel hM5 hT5 hks
        go_wp2_with fail
        clear hst z5 d0
        go_roundw
        case rel => exact ⟨i + 1, by omega, by go_num, HM5.out, HTK5.out⟩
        case measure => simp [intOf]; omega
      · obtain rfl : i = (whereP (refsOf ts) rb).length := by omega
        have HM4 := Lib.hid (show Mp Try.prog 43 r2V bV wr bs (blR (((whereP (refsOf ts) rb).map fun n => (⟨n, rb⟩ : R2)).foldl addR (addR S ⟨typ, ra⟩))) from by have := HMI.out; rw [List.take_length] at this; exact this)
        have HTK4 := Lib.hid (Tk.next HTK3.out htk)
        have HX4 := Lib.hid (HTI.out.box HX3.out HNX.out)
        have z4 := (HTI.out.box HZ3.out HNZ.out).cells
        have HE := Lib.hid (show (RT.mk 3 ra rb ps).pneeds (refsOf ts) typ = (⟨typ, ra⟩ :: (whereP (refsOf ts) rb).map fun n => (⟨n, rb⟩ : R2)) ++ pneedsL (refsOf ts) typ ps from by rw [RT.pneeds]; rfl)
        have HE := Lib.hid (show ((RT.mk 3 ra rb ps).pneeds (refsOf ts) typ).foldl addR S = (pneedsL (refsOf ts) typ ps).foldl addR (((whereP (refsOf ts) rb).map fun n => (⟨n, rb⟩ : R2)).foldl addR (addR S ⟨typ, ra⟩)) from by rw [HE.out, List.foldl_append]; rfl)
        clear htk
        go_wp2_with fail
        clear z4
        obtain ⟨w4, hw4⟩ : ∃ x, x = wr := ⟨_, rfl⟩
        rw [← hw4] at HM4 HTK4 HX4 ⊢
        clear hw4 HMI HTI
        go_loopw [47] (fun ii wr => ∃ i : Nat, i ≤ ps.length ∧ ii = .int .i64 i ∧ Mp Try.prog 43 r2V bV wr bs (blR ((pneedsL (refsOf ts) typ (ps.take i)).foldl addR (((whereP (refsOf ts) rb).map fun n => (⟨n, rb⟩ : R2)).foldl addR (addR S ⟨typ, ra⟩)))) ∧ Tk bs w4 wr) (fun ii _ => ps.length - (intOf ii).toNat)
        case atStart => exact ⟨0, by omega, rfl, by rw [List.take_zero]; exact HM4.out, Tk.refl _ _⟩
        case round =>
          obtain ⟨i, hi, rfl, hm, htk⟩ := hrel
          have HMI := Lib.hid hm
          have HTI := Lib.hid htk
          clear HM4 hm
          by_cases hlt : i < ps.length
          · have hbel : Below w0.heap.size w0 wr := HB0.out.trans ((Tk.next HTK4.out htk).below HB0.out.size HBS.out)
            have HST := Lib.hid (pneedsL_take (refsOf ts) typ hlt)
            have hmem := List.getElem_mem hlt
            have HOPI := Lib.hid (HOP.out _ hmem)
            have HI1 := Lib.hid hlt
            obtain ⟨bb, off, pv2, hbo, hb, c0, c1, c2, c3, hat2⟩ := HC.out i hlt
            cases hbo
            have d0 := (hbel.cell (p := ⟨bb, off + i * 4, none⟩) hb).trans c0
            have d1 := (hbel.cell (p := ⟨bb, off + i * 4 + 1, none⟩) hb).trans c1
            have d2 := (hbel.cell (p := ⟨bb, off + i * 4 + 2, none⟩) hb).trans c2
            have d3 := (hbel.cell (p := ⟨bb, off + i * 4 + 3, none⟩) hb).trans c3
            obtain ⟨ao2, c2', rfl, -⟩ := hat2.rows
            have hea : Ext wr (wr.alloc (.cells #[.int .i64 ps[i].k, .string ps[i].a, .string ps[i].b, .slice ao2 ps[i].ps.length c2'] 46)) := Ext.alloc _ _
            have HR := Lib.hid (IH.out ps[i] hmem _ _ _ hat2 HOPI.out (hbel.trans (hea.mono hbel.size)) (HMI.out.below hea))
            have HEA := Lib.hid hea
            have hbx := (Blk.made wr #[.int .i64 ps[i].k, .string ps[i].a, .string ps[i].b, .slice ao2 ps[i].ps.length c2'] 46).cells
            have hbk4 := ((HTI.out.box HX4.out HNX.out).below hea).cells
            unfold rV at HR
            generalize ps[i] = p at *
            clear c0 c1 c2 c3 hat2 hb htk hbel hmem hea
            go_wp2_with fail
            refine HR.out.mono ?_
            rintro e w5 ⟨rfl, hm5, htk5⟩
            have HM5 := Lib.hid (show Mp Try.prog 43 r2V bV w5 bs (blR ((pneedsL (refsOf ts) typ (ps.take (i + 1))).foldl addR (((whereP (refsOf ts) rb).map fun n => (⟨n, rb⟩ : R2)).foldl addR (addR S ⟨typ, ra⟩)))) from by rw [HST.out, List.foldl_append]; exact hm5)
            have HTK5 := Lib.hid (Tk.next HTI.out (Tk.next (Tk.of HEA.out) htk5))
            have hlt2 := HI1.out
            clear HR hm5 htk5 hbx hbk4 d0 d1 d2 d3
            go_wp2_with fail
            go_roundw
            case rel => exact ⟨i + 1, by omega, by go_num, HM5.out, HTK5.out⟩
            case measure => simp [intOf]; omega
          · obtain rfl : i = ps.length := by omega
            have HME := Lib.hid (show Mp Try.prog 43 r2V bV wr bs (blR (((RT.mk 3 ra rb ps).pneeds (refsOf ts) typ).foldl addR S)) from by
              have := HMI.out
              rw [List.take_length] at this
              rw [HE.out]
              exact this)
            have HTE := Lib.hid (Tk.next HTK4.out htk)
            clear htk
            go_wp2_with fail
            go_end0
            exact ⟨rfl, HME.out, HTE.out⟩
  have q2 : (k == 2) = false := by rw [beq_eq_false_iff_ne]; exact k2
  have q3 : (k == 3) = false := by rw [beq_eq_false_iff_ne]; exact k3
  have HK := Lib.hid (And.intro k2 k3)
  clear k2 k3
  obtain ⟨w1, hw1⟩ : ∃ x, x = w.alloc (.cells #[.map (some b1), .map (some b2), .map (some b3)] 74) := ⟨_, rfl⟩
  obtain ⟨w2, hw2⟩ : ∃ x, x = w1.alloc (.cells #[.int .i64 k, .string ra, .string rb, .slice ao ps.length c] 46) := ⟨_, rfl⟩
  have e1 : w1.heap.size = w.heap.size + 1 := by rw [hw1]; simp
  have x01 : Ext w w1 := by rw [hw1]; exact Ext.alloc _ _
  have x12 : Ext w1 w2 := by rw [hw2]; exact Ext.alloc _ _
  have HX := Lib.hid (show Blk w2 w.heap.size #[.map (some b1), .map (some b2), .map (some b3)] 74 from Blk.below (by rw [hw1]; exact Blk.made _ _ _) x12)
  have HZ := Lib.hid (show Blk w2 (w.heap.size + 1) #[.int .i64 k, .string ra, .string rb, .slice ao ps.length c] 46 from by rw [hw2, ← e1]; exact Blk.made _ _ _)
  have HX2 := Lib.hid (x01.trans x12)
  have HNX := Lib.hid (show w.heap.size ≠ bs from by have := hM.lt; omega)
  have HNZ := Lib.hid (show w.heap.size + 1 ≠ bs from by have := hM.lt; omega)
  have hM2 := hM.below HX2.out
  have x2 := HX.out.cells
  have z2 := HZ.out.cells
  have HM4 := Lib.hid (show Mp Try.prog 43 r2V bV w2 bs (blR S) from hM2)
  have HTK4 := Lib.hid (show Tk bs w w2 from Tk.of HX2.out)
  have HX4 := Lib.hid HX.out
  have HE := Lib.hid (show (RT.mk k ra rb ps).pneeds (refsOf ts) typ = pneedsL (refsOf ts) typ ps from by rw [RT.pneeds, if_neg HK.out.1, if_neg HK.out.2, List.nil_append])
  clear hM hM2 e1 x01 x12
  subst hw2 hw1
  go_enter Try.func45, Try.ntmps45
  go_wp2_with fail
  clear x2 z2
  obtain ⟨w4, hw4⟩ : ∃ x, x = (w.alloc (.cells #[.map (some b1), .map (some b2), .map (some b3)] 74)).alloc (.cells #[.int .i64 k, .string ra, .string rb, .slice ao ps.length c] 46) := ⟨_, rfl⟩
  rw [← hw4] at HM4 HTK4 HX4 ⊢
  clear hw4
  go_loopw [47] (fun ii wr => ∃ i : Nat, i ≤ ps.length ∧ ii = .int .i64 i ∧ Mp Try.prog 43 r2V bV wr bs (blR ((pneedsL (refsOf ts) typ (ps.take i)).foldl addR S)) ∧ Tk bs w4 wr) (fun ii _ => ps.length - (intOf ii).toNat)
  case atStart => exact ⟨0, by omega, rfl, by rw [List.take_zero]; exact HM4.out, Tk.refl _ _⟩
  case round =>
    obtain ⟨i, hi, rfl, hm, htk⟩ := hrel
    have HMI := Lib.hid hm
    have HTI := Lib.hid htk
    clear HM4 hm
    by_cases hlt : i < ps.length
    · have hbel : Below w0.heap.size w0 wr := HB0.out.trans ((Tk.next HTK4.out htk).below HB0.out.size HBS.out)
      have HST := Lib.hid (pneedsL_take (refsOf ts) typ hlt)
      have hmem := List.getElem_mem hlt
      have HOPI := Lib.hid (HOP.out _ hmem)
      have HI1 := Lib.hid hlt
      obtain ⟨bb, off, pv2, hbo, hb, c0, c1, c2, c3, hat2⟩ := HC.out i hlt
      cases hbo
      have d0 := (hbel.cell (p := ⟨bb, off + i * 4, none⟩) hb).trans c0
      have d1 := (hbel.cell (p := ⟨bb, off + i * 4 + 1, none⟩) hb).trans c1
      have d2 := (hbel.cell (p := ⟨bb, off + i * 4 + 2, none⟩) hb).trans c2
      have d3 := (hbel.cell (p := ⟨bb, off + i * 4 + 3, none⟩) hb).trans c3
      obtain ⟨ao2, c2', rfl, -⟩ := hat2.rows
      have hea : Ext wr (wr.alloc (.cells #[.int .i64 ps[i].k, .string ps[i].a, .string ps[i].b, .slice ao2 ps[i].ps.length c2'] 46)) := Ext.alloc _ _
      have HR := Lib.hid (IH.out ps[i] hmem _ _ _ hat2 HOPI.out (hbel.trans (hea.mono hbel.size)) (HMI.out.below hea))
      have HEA := Lib.hid hea
      have hbx := (Blk.made wr #[.int .i64 ps[i].k, .string ps[i].a, .string ps[i].b, .slice ao2 ps[i].ps.length c2'] 46).cells
      have hbk4 := ((HTI.out.box HX4.out HNX.out).below hea).cells
      unfold rV at HR
      generalize ps[i] = p at *
      clear c0 c1 c2 c3 hat2 hb htk hbel hmem hea
      go_wp2_with fail
      refine HR.out.mono ?_
      rintro e w5 ⟨rfl, hm5, htk5⟩
      have HM5 := Lib.hid (show Mp Try.prog 43 r2V bV w5 bs (blR ((pneedsL (refsOf ts) typ (ps.take (i + 1))).foldl addR S)) from by rw [HST.out, List.foldl_append]; exact hm5)
      have HTK5 := Lib.hid (Tk.next HTI.out (Tk.next (Tk.of HEA.out) htk5))
      have hlt2 := HI1.out
      clear HR hm5 htk5 hbx hbk4 d0 d1 d2 d3
      go_wp2_with fail
      go_roundw
      case rel => exact ⟨i + 1, by omega, by go_num, HM5.out, HTK5.out⟩
      case measure => simp [intOf]; omega
    · obtain rfl : i = ps.length := by omega
      have HME := Lib.hid (show Mp Try.prog 43 r2V bV wr bs (blR (((RT.mk k ra rb ps).pneeds (refsOf ts) typ).foldl addR S)) from by
        have := HMI.out
        rw [List.take_length] at this
        rw [HE.out]
        exact this)
      have HTE := Lib.hid (Tk.next HTK4.out htk)
      clear htk
      go_wp2_with fail
      go_end0
      exact ⟨rfl, HME.out, HTE.out⟩

end Go.Proofs.Ytfhonficpccegaa
