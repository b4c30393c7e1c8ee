/- Lemmas for the claim, no condition. -/
import Derived.Test.YtjdigpfipmckhaaGreatYReWalks0
import Derived.Test.YtjdigpfipmckhaaGreatYReWalks25
namespace Go.Proofs.YtjdigpfipmckhaaGreat
open Go Go.RowKit Go.Maps
theorem selF_at {ok : P3 → Bool} {f : P3 → P3} {l : List P3} {i : Nat} (hi : i < l.length) (ps : List P3) (out : List Int) : refsD ps out (selF ok f (l.take (i + 1))) = if ok l[i] = true then (if (numD (refsD ps out (selF ok f (l.take i))).2 (f l[i]) : Int) ∈ (refsD ps out (selF ok f (l.take i))).1 then (refsD ps out (selF ok f (l.take i))).1 else (refsD ps out (selF ok f (l.take i))).1 ++ [(numD (refsD ps out (selF ok f (l.take i))).2 (f l[i]) : Int)], putP (refsD ps out (selF ok f (l.take i))).2 (f l[i])) else refsD ps out (selF ok f (l.take i)) := by
  cases h : ok l[i] with
  | true => rw [selF_yes hi h, refsD_snoc, if_pos rfl]
  | false => rw [selF_no hi h]; rfl
set_option maxRecDepth 100000 in
set_option maxHeartbeats 4000000 in
theorem form26_any (gp B : Nat) (tv fv : Value) (T : List Tup) (p : P3) (wb : World) (hT : ∀ W, Below B wb W → Sl (· < B) W 6 tv (tuCs T)) (hTl : T.length ≤ 1000000) (hB : B ≤ gp) (r : RT) : ∀ (pv rpv : Value) (ps : List P3) (w : World), RTAt (· < B) w r rpv → Below B wb w → GkAt w gp B ps pv fv → ps.length + r.sz * (T.length + 1) ≤ 1073741824 →
    Calls Tryz.prog 63 #[.pointer (some ⟨gp, 0, none⟩), tv, pV p, rV r rpv] w fun e w' => ∃ v3 pv', e = .returned (fV (formD T p r ps).1 v3) ∧ FTAt (FS w.heap.size w') w' (formD T p r ps).1 v3 ∧ GkAt w' gp B (formD T p r ps).2 pv' fv ∧ Fine gp gp w w' pv pv' := by
  have HT := Lib.hid hT
  have HTL := Lib.hid hTl
  have HB := Lib.hid hB
  clear hT hTl hB
  obtain ⟨pt, pi, pr⟩ := p
  induction r using RT.ind with
  | h r ih =>
  intro pv rpv ps w hat hbw hgk hlen
  have HFD := Lib.hid (formD_eq T ⟨pt, pi, pr⟩ r ps)
  obtain ⟨k, ra, rb, parts⟩ := r
  dsimp only [RT.k, RT.a, RT.b, RT.ps] at HFD ih
  have HIH := Lib.hid ih
  have HRT := Lib.hid hat
  have HBW := Lib.hid hbw
  have HROOM := Lib.hid (form_room (p := ⟨pt, pi, pr⟩) (n := 0) hlen)
  have HLEN := Lib.hid hlen
  have HSUBL := Lib.hid (show ∀ q, (subsOf T q).length ≤ T.length from fun q => by
    unfold subsOf
    rw [List.length_map]
    exact List.length_filter_le _ _)
  have HPSL := Lib.hid (show ps.length + (T.length + 1) ≤ 1073741824 from by
    have h1 := (RT.mk k ra rb parts).sz_eq
    rw [h1, Nat.add_mul] at hlen
    omega)
  obtain ⟨ao, c, rfl, hlc, hcm, -⟩ := hat.rows
  obtain ⟨to, tc, htv, -⟩ := Sl.rows tuC_length (by decide) (show Sl _ w 6 tv (T.flatMap tuC) from HT.out w hbw)
  subst htv
  dsimp only [RT.ps] at hlc hcm ⊢
  obtain ⟨wa, hwa⟩ : ∃ x, x = w.alloc (.cells #[.string pt, .string pi, .string pr] 30) := ⟨_, rfl⟩
  obtain ⟨wc, hwc⟩ : ∃ x, x = wa.alloc (.cells #[.int .i64 k, .string ra, .string rb, .slice ao parts.length c] 98) := ⟨_, rfl⟩
  obtain ⟨wd, hwd⟩ : ∃ x, x = wc.alloc (.cells #[.int .i64 0, .slice none 0 0, .slice none 0 0, .slice none 0 0] 90) := ⟨_, rfl⟩
  obtain ⟨we, hwe⟩ : ∃ x, x = wd.alloc (.cells #[.int .i64 k, .slice none 0 0, .slice none 0 0, .slice none 0 0] 90) := ⟨_, rfl⟩
  have ea : wa.heap.size = w.heap.size + 1 := by rw [hwa]; simp
  have ec : wc.heap.size = w.heap.size + 2 := by rw [hwc]; simp [ea]
  have ed : wd.heap.size = w.heap.size + 3 := by rw [hwd]; simp [ec]
  have ee : we.heap.size = w.heap.size + 4 := by rw [hwe]; simp [ed]
  have xa : Ext w wa := by rw [hwa]; exact Ext.alloc _ _
  have xc : Ext wa wc := by rw [hwc]; exact Ext.alloc _ _
  have xd : Ext wc wd := by rw [hwd]; exact Ext.alloc _ _
  have xe : Ext wd we := by rw [hwe]; exact Ext.alloc _ _
  have hgz := hgk.box.lt
  have hBg := HB.out
  have hra := (Blk.below (show Blk wc (w.heap.size + 1) #[.int .i64 k, .string ra, .string rb, .slice ao parts.length c] 98 from by rw [hwc, ← ea]; exact Blk.made _ _ _) xd).cells
  have FI := Lib.hid (show FrmI wb w we gp B pv fv #[.string pt, .string pi, .string pr] k #[.int .i64 k, .string ra, .string rb, .slice ao parts.length c] ps [] [] [] (.slice none 0 0) (.slice none 0 0) (.slice none 0 0) pv from
    ⟨⟨by rw [hwe, ← ed]; exact Blk.made _ _ _, Own.nil _ _ _ _, Own.nil _ _ _ _, FRow.nil _ _⟩, hgk.ext (xa.trans (xc.trans (xd.trans xe))), Blk.below (by rw [hwa]; exact Blk.made _ _ _) (xc.trans (xd.trans xe)), Blk.below (by rw [hwc, ← ea]; exact Blk.made _ _ _) (xd.trans xe), Blk.below (by rw [hwd, ← ec]; exact Blk.made _ _ _) xe, Fine.of _ _ _ (xa.trans (xc.trans (xd.trans xe))), hbw.trans ((xa.trans (xc.trans (xd.trans xe))).mono (by omega)), fun g hg => .inl hg, Nat.le_of_eq ee.symm, fun g hg => (hgk.pts.block g hg).2, HB.out, hgz⟩)
  have EZ := Lib.hid ee
  have HGZ := Lib.hid hgz
  clear ea ec ed ee xa xc xd xe ih hat hbw hgk hlen hgz hBg
  subst hwd hwc hwa
  unfold pV rV
  dsimp only [RT.k, RT.a, RT.b, RT.ps]
  by_cases h1 : k = 1
  case' pos =>
    have b1 : (k == 1) = true := by rw [beq_iff_eq]; exact h1
    have b2 : (k == 2) = false := by rw [beq_eq_false_iff_ne]; omega
    have b3 : (k == 3) = false := by rw [beq_eq_false_iff_ne]; omega
    have H1 := Lib.hid h1
    clear h1
    go_enter Tryz.func63, Tryz.ntmps63
    go_wp2_with fail
    try rw [← hwe]
    clear hwe hra
    refine (subs25_any (S := (· < B)) (.slice to T.length tc) T ⟨pt, pi, pr⟩ we (fun x hx => by have := FI.out.sz; have := FI.out.g0; omega) (HT.out we FI.out.be) (by have := HTL.out; omega)).mono ?_
    rintro e w2 ⟨sv, rfl, ho2, hx2⟩
    have HSL := Lib.hid (HSUBL.out ⟨pt, pi, pr⟩)
    generalize hsb : subsOf T ⟨pt, pi, pr⟩ = sb at *
    have HSB := Lib.hid hsb
    clear hsb
    obtain ⟨so, sc, rfl, -⟩ := Sl.rows pC_length (by decide) (show Sl _ w2 3 sv (sb.flatMap pC) from ho2.sl)
    have F2 := Lib.hid (FI.out.ext hx2)
    have S2 := Lib.hid (ho2.low (B' := w.heap.size + 4) (Nat.le_of_eq EZ.out.symm))
    clear ho2 hx2 FI
    have hbf := F2.out.fm.box.cells
    have hbz := F2.out.fm.box.free
    have F3 := Lib.hid (F2.out.setSubs S2.out)
    have SR := Lib.hid (show Own _ (w.heap.size + 4) 63 3 (.slice so sb.length sc) (pcs sb) from F3.out.fm.subs)
    have hbc := F3.out.fm.box.cells
    clear F2 S2
    go_wp2_with fail
    clear hbf hbz hbc
    obtain ⟨w3, hw3⟩ : ∃ x, x = w2.setCell ⟨w.heap.size + 3, 1, none⟩ (.slice so sb.length sc) := ⟨_, rfl⟩
    rw [← hw3] at F3 SR ⊢
    clear hw3
    go_loopw [31] (fun iv wr => ∃ (i : Nat) (rf : List Int) (p0 : List P3) (rv pv4 : Value), i ≤ sb.length ∧ iv = .int .i64 i ∧ refsD ps [] (selF (fun s => decide (s.r ≠ ⟨#[]⟩)) usetF (sb.take i)) = (rf, p0) ∧ FrmI wb w wr gp B pv fv #[.string pt, .string pi, .string pr] k #[.int .i64 k, .string ra, .string rb, .slice ao parts.length c] p0 sb rf [] (.slice so sb.length sc) rv (.slice none 0 0) pv4 ∧ Own wr (w.heap.size + 4) 63 3 (.slice so sb.length sc) (pcs sb)) (fun iv _ => sb.length - (intOf iv).toNat)
    case atStart => exact ⟨0, [], ps, .slice none 0 0, pv, Nat.zero_le _, rfl, rfl, F3.out, SR.out⟩
    case' round =>
      obtain ⟨i, rf, p0, rv, pv4, hi, rfl, hrd, hfr, hsr⟩ := hrel
      have HRD := Lib.hid hrd
      have FR := Lib.hid hfr
      have SR2 := Lib.hid hsr
      clear hrd hfr hsr F3 SR
      by_cases hlt : i < sb.length
      case' pos =>
        obtain ⟨so', sc', he', -, -, hcell⟩ := Sl.rows pC_length (by decide) (show Sl _ wr 3 (.slice so sb.length sc) (sb.flatMap pC) from SR2.out.sl)
        cases he'
        obtain ⟨b, off, rfl, -, hcell⟩ := hcell (by omega)
        have hck := hcell i hlt
        clear hcell
        have HAT := Lib.hid (selF_at (ok := (fun s => decide (s.r ≠ ⟨#[]⟩))) (f := usetF) hlt ps [])
        have HLT := Lib.hid hlt
        have HWI := Lib.hid (show wrap64 ((i : Int) + 1) = ((i + 1 : Nat) : Int) from by have h1 := HSL.out; have h2 := HTL.out; unfold wrap64; omega)
        have HPL := Lib.hid (show p0.length ≤ ps.length + i ∧ rf.length ≤ i from by
          have h1 := refsD_len2 (selF (fun s => decide (s.r ≠ ⟨#[]⟩)) usetF (sb.take i)) ps []
          have h2 := refsD_len1 (selF (fun s => decide (s.r ≠ ⟨#[]⟩)) usetF (sb.take i)) ps []
          have h3 := selF_len (fun s => decide (s.r ≠ ⟨#[]⟩)) usetF (sb.take i)
          rw [List.length_take] at h3
          rw [HRD.out] at h1 h2
          simp only [List.length_nil] at h1 h2
          omega)
        rw [HRD.out] at HAT
        dsimp only at HAT
        have hli : (i : Int) < (sb.length : Int) := by omega
        generalize sb[i] = s at *
        clear hlt
        obtain ⟨st, si, sr⟩ := s
        have c0 : wr.cell? ⟨b, off + i * 3, none⟩ = some (.string st) := hck 0 _ rfl
        have c1 : wr.cell? ⟨b, off + i * 3 + 1, none⟩ = some (.string si) := hck 1 _ rfl
        have c2 : wr.cell? ⟨b, off + i * 3 + 2, none⟩ = some (.string sr) := hck 2 _ rfl
        clear hck
        have X1 := Lib.hid (Ext.alloc wr (.cells #[.string st, .string si, .string sr] 63))
        have BS := Lib.hid (Blk.made wr #[.string st, .string si, .string sr] 63)
        have hbs := BS.out.cells
        have hse := isEmpty_ba sr
        by_cases he : sr = ⟨#[]⟩
        · have HNO := Lib.hid (show refsD ps [] (selF (fun s => decide (s.r ≠ ⟨#[]⟩)) usetF (sb.take (i + 1))) = (rf, p0) from by rw [HAT.out, if_neg (by simp [he])])
          rw [decide_eq_true he] at hse
          clear he
          go_wp2_with fail
          go_roundw
          case rel => exact ⟨i + 1, rf, p0, rv, pv4, HLT.out, by first | rw [HWI.out] | go_num, HNO.out, FR.out.ext X1.out, SR2.out.below X1.out⟩
          case measure => have := HLT.out; (try rw [HWI.out]); simp [intOf]; omega
        · have HYE := Lib.hid (show refsD ps [] (selF (fun s => decide (s.r ≠ ⟨#[]⟩)) usetF (sb.take (i + 1))) = (if (numD p0 ⟨st, si, sr⟩ : Int) ∈ rf then rf else rf ++ [(numD p0 ⟨st, si, sr⟩ : Int)], putP p0 ⟨st, si, sr⟩) from by rw [HAT.out, if_pos (by simp [he])]; rfl)
          rw [decide_eq_false he] at hse
          clear he
          go_wp2_with fail
          obtain ⟨wd, hwd⟩ : ∃ x : World, x = World.drew (wr.alloc (.cells #[.string st, .string si, .string sr] 63)) := ⟨_, rfl⟩
          have DX := Lib.hid (show Ext wr wd from by rw [hwd]; exact X1.out.trans (Ext.drew _))
          have DF := Lib.hid (FR.out.ext DX.out)
          have DR := Lib.hid (SR2.out.below DX.out)
          have DS := Lib.hid (show Blk wd wr.heap.size #[.string st, .string si, .string sr] 63 from by rw [hwd]; exact BS.out.drew)
          refine region_walkL 11 (fun W => Kept (fun x => KX gp gp wd pv4 x ∧ rv.ownBlock ≠ some x) wd W) (by rw [← hwd]; exact Kept.refl _ _) (by kernel_rfl) (by kernel_rfl) (fun _ _ d _ _ h => by cases d <;> exact h) ?_
          rw [← hwd]
          clear hwd X1 BS FR SR2 DX hbs hse c0 c1 c2 hli
          generalize wr.heap.size = sbx at *
          have nr : ∀ {x : Nat} {cs : Array Value} {t : TypeId}, Blk wd x cs t → t ≠ 3 → rv.ownBlock ≠ some x := fun {x cs t} hx ht e => by
            obtain ⟨c2, h2⟩ := DF.out.fm.refs.typed e
            rw [show wd.heap[x]? = _ from hx] at h2
            exact ht (by injection Option.some.inj h2)
          have h1 := fun W (h : Kept (fun x => KX gp gp wd pv4 x ∧ rv.ownBlock ≠ some x) wd W) => (h.blk DF.out.fm.box ⟨DF.out.gk.un DF.out.fm.box (by decide) (by decide), nr DF.out.fm.box (by decide)⟩).cells
          have h2 := fun W (h : Kept (fun x => KX gp gp wd pv4 x ∧ rv.ownBlock ≠ some x) wd W) => (h.blk DS.out ⟨DF.out.gk.un DS.out (by decide) (by decide), nr DS.out (by decide)⟩).cells
          have h3 := fun W (h : Kept (fun x => KX gp gp wd pv4 x ∧ rv.ownBlock ≠ some x) wd W) => (h.blk DF.out.rb ⟨DF.out.gk.un DF.out.rb (by decide) (by decide), nr DF.out.rb (by decide)⟩).cells
          clear nr
          (refine WalkL.tk [0, 1, 2, 3, 4, 5, 6, 7] ?_; (iterate 8 ((refine TkL.c _ ?_ (by simp only [gtA, gtS, gtZ]; rfl) (by kernel_rfl) (by kernel_rfl) (by kernel_rfl) (by rfl) (fun W hW => ?_) ?_; rotate_left; · (go_simp; try with_reducible rfl)); simp only [Act.put, puA, puZ, puS])); refine TkL.n ?_)
          clear h2 h3
          refine WalkL.one 8 (by kernel_rfl) ?_
          refine ⟨_, (by simp only [gtA, gtS, gtZ]; rfl), by rfl, fun K hK => ?_⟩
          go_simp
          refine (number26_any gp B pv4 fv p0 ⟨st, si, sr⟩ wd DF.out.gk HB.out (by have := HPL.out.1; have := HLT.out; have := HSL.out; have := HPSL.out; omega)).mono ?_
          rintro e w5 ⟨pv5, rfl, hg5, hf5⟩
          have E5 := Lib.hid (DF.out.num hf5 hg5)
          have R5 := Lib.hid (hf5.grow DF.out.gk DR.out (by decide) (by decide))
          have K5 := Lib.hid hf5.kept
          refine hK.out _ _ (hf5.kept.mono fun x hx => hx.1) ?_
          clear hK hg5 hf5 DR DS
          generalize numD p0 ⟨st, si, sr⟩ = nu at *
          generalize putP p0 ⟨st, si, sr⟩ = p5 at *
          refine WalkL.one 9 (by kernel_rfl) ?_
          refine ⟨_, (by simp only [gtA, gtS, gtZ]; rfl), by rfl, fun K hK => ?_⟩
          go_simp
          refine (put26_any rv rf (nu : Int) w5 E5.out.fm.refs (by have := HPL.out.2; have := HLT.out; have := HSL.out; have := HTL.out; omega) E5.out.sz).mono ?_
          rintro e w6 ⟨rv6, rfl, ho6, hk6, hw6⟩
          generalize (if (nu : Int) ∈ rf then rf else rf ++ [(nu : Int)]) = rf6 at *
          obtain ⟨r1, r2, r3, rfl, -, -, -⟩ := ho6.sl.len
          have E6 := Lib.hid (E5.out.keep hk6 ho6)
          have B6 := Lib.hid (E5.out.bx hk6)
          have R6 := Lib.hid (Own.setBox (x := w.heap.size + 3) (R5.out.keepOwn fun g hg => hk6.block g ⟨(R5.out.block g hg).2, fun e => R5.out.apart E5.out.fm.refs (by decide) hg e⟩) B6.out (by decide) (.slice r1 r2 r3) (i := 2))
          refine hK.out _ _ (Kept.trans (K5.out.mono fun x hx => hx.1) (hk6.mono fun x hx => ⟨Nat.lt_of_lt_of_le hx.1.1 K5.out.size, hx.2⟩)) ?_
          clear hK hk6 ho6 hw6 DF E5 R5 K5
          ((refine WalkL.take 10 _ ?_ (by simp only [gtA, gtS, gtZ]; rfl) (by kernel_rfl) (by kernel_rfl) (by kernel_rfl) (by rfl) (fun W hW => ?_) ?_; rotate_left; · (go_simp; try with_reducible rfl)); simp only [Act.put, puA, puZ, puS])
          have hbf := B6.out.cells
          have hbz := B6.out.free
          clear h1
          refine WalkL.last (by kernel_rfl) (by kernel_rfl) ?_
          refine ⟨_, (by simp only [gtA, gtS, gtZ]; rfl), by rfl, fun K hK => ?_⟩
          go_simp
          refine hK.out _ _ ?_
          clear hK hbf hbz
          go_wp2_with fail
          go_roundw
          case rel => exact ⟨i + 1, rf6, p5, .slice r1 r2 r3, pv5, HLT.out, by first | rw [HWI.out] | go_num, HYE.out, E6.out, R6.out⟩
          case measure => have := HLT.out; (try rw [HWI.out]); simp [intOf]; omega
      case' neg =>
        obtain rfl : i = sb.length := by omega
        rw [List.take_length] at HRD
        have HH : headF T ⟨pt, pi, pr⟩ k ra rb ps = (sb, rf, p0) := by
          unfold headF; rw [if_pos H1.out, HSB.out, setsOf_sel, HRD.out]
        obtain ⟨r1, r2, r3, rfl, -, -, -⟩ := FR.out.fm.refs.sl.len
        have FX := Lib.hid (show ∃ s1 s2 s3 r1 r2 r3 su rf p0 pv4, headF T ⟨pt, pi, pr⟩ k ra rb ps = (su, rf, p0) ∧ FrmI wb w wr gp B pv fv #[.string pt, .string pi, .string pr] k #[.int .i64 k, .string ra, .string rb, .slice ao parts.length c] p0 su rf [] (.slice s1 s2 s3) (.slice r1 r2 r3) (.slice none 0 0) pv4 from ⟨_, _, _, _, _, _, _, _, _, _, HH, FR.out⟩)
        have hrl := FR.out.rb.cells
        clear HH FR SR2 HRD hlt hi
        go_wp2_with fail
        clear hrl b1 b2 b3
        generalize wr = wh at *
  case' neg =>
    by_cases h2 : k = 2
    case' pos =>
      have hpb := FI.out.pb.cells
      have hrb := FI.out.rb.cells
      have b1 : (k == 1) = false := by rw [beq_eq_false_iff_ne]; exact h1
      have b2 : (k == 2) = true := by rw [beq_iff_eq]; exact h2
      have b3 : (k == 3) = false := by rw [beq_eq_false_iff_ne]; omega
      have H1 := Lib.hid h1
      clear h1
      have H2 := Lib.hid h2
      clear h2
      go_enter Tryz.func63, Tryz.ntmps63
      rw [hwe] at hpb hrb
      go_wp2_with fail
      try rw [← hwe]
      clear hwe hra hpb hrb
      refine (number26_any gp B pv fv ps ⟨pt, pi, ra⟩ we FI.out.gk HB.out (by have := HPSL.out; omega)).mono ?_
      rintro e w5 ⟨pv5, rfl, hg5, hf5⟩
      have HH := Lib.hid (show headF T ⟨pt, pi, pr⟩ k ra rb ps = ([], [(numD ps ⟨pt, pi, ra⟩ : Int)], putP ps ⟨pt, pi, ra⟩) from by unfold headF; rw [if_neg H1.out, if_pos H2.out])
      generalize numD ps ⟨pt, pi, ra⟩ = nu at *
      generalize putP ps ⟨pt, pi, ra⟩ = p5 at *
      have X5 := Lib.hid (Ext.alloc w5 (.cells #[.int .i64 nu] 3))
      have E5 := Lib.hid ((FI.out.num hf5 hg5).ext X5.out)
      have O5 := Lib.hid (show Own _ (w.heap.size + 4) 3 1 _ (ic [(nu : Int)]) from Own.lit1 w5 (FI.out.num hf5 hg5).sz 3 (.int .i64 nu))
      have E6 := Lib.hid (E5.out.setRefs O5.out)
      have hbf := E5.out.fm.box.cells
      have hbz := E5.out.fm.box.free
      have hrl := E6.out.rb.cells
      have FX := Lib.hid (show ∃ s1 s2 s3 r1 r2 r3 su rf p0 pv4, headF T ⟨pt, pi, pr⟩ k ra rb ps = (su, rf, p0) ∧ FrmI wb w _ gp B pv fv #[.string pt, .string pi, .string pr] k #[.int .i64 k, .string ra, .string rb, .slice ao parts.length c] p0 su rf [] (.slice s1 s2 s3) (.slice r1 r2 r3) (.slice none 0 0) pv4 from ⟨_, _, _, _, _, _, _, _, _, _, HH.out, E6.out⟩)
      clear hg5 hf5 FI X5 E5 O5 E6 HH
      go_wp2_with fail
      clear hrl hbf hbz b1 b2 b3
      generalize (w5.alloc (.cells #[.int .i64 nu] 3)).setCell ⟨w.heap.size + 3, 2, none⟩ (.slice (some ⟨w5.heap.size, 0, none⟩) 1 1) = wh at *
    case' neg =>
      by_cases h3 : k = 3
      case' pos =>
        have hpb := FI.out.pb.cells
        have hrb := FI.out.rb.cells
        have b1 : (k == 1) = false := by rw [beq_eq_false_iff_ne]; exact h1
        have b2 : (k == 2) = false := by rw [beq_eq_false_iff_ne]; exact h2
        have b3 : (k == 3) = true := by rw [beq_iff_eq]; exact h3
        have H1 := Lib.hid h1
        clear h1
        have H2 := Lib.hid h2
        clear h2
        have H3 := Lib.hid h3
        clear h3
        go_enter Tryz.func63, Tryz.ntmps63
        rw [hwe] at hpb hrb
        go_wp2_with fail
        try rw [← hwe]
        clear hwe hra hpb hrb
        refine (subs25_any (S := (· < B)) (.slice to T.length tc) T ⟨pt, pi, ra⟩ we (fun x hx => by have := FI.out.sz; have := FI.out.g0; omega) (HT.out we FI.out.be) (by have := HTL.out; omega)).mono ?_
        rintro e w2 ⟨sv, rfl, ho2, hx2⟩
        have HSL := Lib.hid (HSUBL.out ⟨pt, pi, ra⟩)
        generalize hsb : subsOf T ⟨pt, pi, ra⟩ = sb at *
        have HSB := Lib.hid hsb
        clear hsb
        obtain ⟨so, sc, rfl, -⟩ := Sl.rows pC_length (by decide) (show Sl _ w2 3 sv (sb.flatMap pC) from ho2.sl)
        have F2 := Lib.hid (FI.out.ext hx2)
        have S2 := Lib.hid (ho2.low (B' := w.heap.size + 4) (Nat.le_of_eq EZ.out.symm))
        clear ho2 hx2 FI
        have F3 := F2
        have SR := S2
        go_wp2_with fail
        obtain ⟨w3, hw3⟩ : ∃ x, x = w2 := ⟨_, rfl⟩
        rw [← hw3] at F3 SR ⊢
        clear hw3 F2 S2
        go_loopw [71] (fun iv wr => ∃ (i : Nat) (rf : List Int) (p0 : List P3) (rv pv4 : Value), i ≤ sb.length ∧ iv = .int .i64 i ∧ refsD ps [] (selF (fun s => decide (s.r = ⟨#[]⟩)) (viaF rb) (sb.take i)) = (rf, p0) ∧ FrmI wb w wr gp B pv fv #[.string pt, .string pi, .string pr] k #[.int .i64 k, .string ra, .string rb, .slice ao parts.length c] p0 [] rf [] (.slice none 0 0) rv (.slice none 0 0) pv4 ∧ Own wr (w.heap.size + 4) 63 3 (.slice so sb.length sc) (pcs sb)) (fun iv _ => sb.length - (intOf iv).toNat)
        case atStart => exact ⟨0, [], ps, .slice none 0 0, pv, Nat.zero_le _, rfl, rfl, F3.out, SR.out⟩
        case' round =>
          obtain ⟨i, rf, p0, rv, pv4, hi, rfl, hrd, hfr, hsr⟩ := hrel
          have HRD := Lib.hid hrd
          have FR := Lib.hid hfr
          have SR2 := Lib.hid hsr
          clear hrd hfr hsr F3 SR
          by_cases hlt : i < sb.length
          case' pos =>
            obtain ⟨so', sc', he', -, -, hcell⟩ := Sl.rows pC_length (by decide) (show Sl _ wr 3 (.slice so sb.length sc) (sb.flatMap pC) from SR2.out.sl)
            cases he'
            obtain ⟨b, off, rfl, -, hcell⟩ := hcell (by omega)
            have hck := hcell i hlt
            clear hcell
            have HAT := Lib.hid (selF_at (ok := (fun s => decide (s.r = ⟨#[]⟩))) (f := (viaF rb)) hlt ps [])
            have HLT := Lib.hid hlt
            have HWI := Lib.hid (show wrap64 ((i : Int) + 1) = ((i + 1 : Nat) : Int) from by have h1 := HSL.out; have h2 := HTL.out; unfold wrap64; omega)
            have HPL := Lib.hid (show p0.length ≤ ps.length + i ∧ rf.length ≤ i from by
              have h1 := refsD_len2 (selF (fun s => decide (s.r = ⟨#[]⟩)) (viaF rb) (sb.take i)) ps []
              have h2 := refsD_len1 (selF (fun s => decide (s.r = ⟨#[]⟩)) (viaF rb) (sb.take i)) ps []
              have h3 := selF_len (fun s => decide (s.r = ⟨#[]⟩)) (viaF rb) (sb.take i)
              rw [List.length_take] at h3
              rw [HRD.out] at h1 h2
              simp only [List.length_nil] at h1 h2
              omega)
            rw [HRD.out] at HAT
            dsimp only at HAT
            have hli : (i : Int) < (sb.length : Int) := by omega
            generalize sb[i] = s at *
            clear hlt
            obtain ⟨st, si, sr⟩ := s
            have c0 : wr.cell? ⟨b, off + i * 3, none⟩ = some (.string st) := hck 0 _ rfl
            have c1 : wr.cell? ⟨b, off + i * 3 + 1, none⟩ = some (.string si) := hck 1 _ rfl
            have c2 : wr.cell? ⟨b, off + i * 3 + 2, none⟩ = some (.string sr) := hck 2 _ rfl
            clear hck
            have X1 := Lib.hid (Ext.alloc wr (.cells #[.string st, .string si, .string sr] 63))
            have BS := Lib.hid (Blk.made wr #[.string st, .string si, .string sr] 63)
            have hbs := BS.out.cells
            have hse := isEmpty_ba sr
            by_cases he : sr = ⟨#[]⟩
            · have HYE := Lib.hid (show refsD ps [] (selF (fun s => decide (s.r = ⟨#[]⟩)) (viaF rb) (sb.take (i + 1))) = (if (numD p0 ⟨st, si, rb⟩ : Int) ∈ rf then rf else rf ++ [(numD p0 ⟨st, si, rb⟩ : Int)], putP p0 ⟨st, si, rb⟩) from by rw [HAT.out, if_pos (by simp [he])]; rfl)
              rw [decide_eq_true he] at hse
              clear he
              go_wp2_with fail
              obtain ⟨wd, hwd⟩ : ∃ x : World, x = World.drew (wr.alloc (.cells #[.string st, .string si, .string sr] 63)) := ⟨_, rfl⟩
              have DX := Lib.hid (show Ext wr wd from by rw [hwd]; exact X1.out.trans (Ext.drew _))
              have DF := Lib.hid (FR.out.ext DX.out)
              have DR := Lib.hid (SR2.out.below DX.out)
              have DS := Lib.hid (show Blk wd wr.heap.size #[.string st, .string si, .string sr] 63 from by rw [hwd]; exact BS.out.drew)
              refine region_walkL 11 (fun W => Kept (fun x => KX gp gp wd pv4 x ∧ rv.ownBlock ≠ some x) wd W) (by rw [← hwd]; exact Kept.refl _ _) (by kernel_rfl) (by kernel_rfl) (fun _ _ d _ _ h => by cases d <;> exact h) ?_
              rw [← hwd]
              clear hwd X1 BS FR SR2 DX hbs hse c0 c1 c2 hli
              generalize wr.heap.size = sbx at *
              have nr : ∀ {x : Nat} {cs : Array Value} {t : TypeId}, Blk wd x cs t → t ≠ 3 → rv.ownBlock ≠ some x := fun {x cs t} hx ht e => by
                obtain ⟨c2, h2⟩ := DF.out.fm.refs.typed e
                rw [show wd.heap[x]? = _ from hx] at h2
                exact ht (by injection Option.some.inj h2)
              have h1 := fun W (h : Kept (fun x => KX gp gp wd pv4 x ∧ rv.ownBlock ≠ some x) wd W) => (h.blk DF.out.fm.box ⟨DF.out.gk.un DF.out.fm.box (by decide) (by decide), nr DF.out.fm.box (by decide)⟩).cells
              have h2 := fun W (h : Kept (fun x => KX gp gp wd pv4 x ∧ rv.ownBlock ≠ some x) wd W) => (h.blk DS.out ⟨DF.out.gk.un DS.out (by decide) (by decide), nr DS.out (by decide)⟩).cells
              have h3 := fun W (h : Kept (fun x => KX gp gp wd pv4 x ∧ rv.ownBlock ≠ some x) wd W) => (h.blk DF.out.rb ⟨DF.out.gk.un DF.out.rb (by decide) (by decide), nr DF.out.rb (by decide)⟩).cells
              clear nr
              (refine WalkL.tk [0, 1, 2, 3, 4, 5, 6, 7] ?_; (iterate 8 ((refine TkL.c _ ?_ (by simp only [gtA, gtS, gtZ]; rfl) (by kernel_rfl) (by kernel_rfl) (by kernel_rfl) (by rfl) (fun W hW => ?_) ?_; rotate_left; · (go_simp; try with_reducible rfl)); simp only [Act.put, puA, puZ, puS])); refine TkL.n ?_)
              clear h2 h3
              refine WalkL.one 8 (by kernel_rfl) ?_
              refine ⟨_, (by simp only [gtA, gtS, gtZ]; rfl), by rfl, fun K hK => ?_⟩
              go_simp
              refine (number26_any gp B pv4 fv p0 ⟨st, si, rb⟩ wd DF.out.gk HB.out (by have := HPL.out.1; have := HLT.out; have := HSL.out; have := HPSL.out; omega)).mono ?_
              rintro e w5 ⟨pv5, rfl, hg5, hf5⟩
              have E5 := Lib.hid (DF.out.num hf5 hg5)
              have R5 := Lib.hid (hf5.grow DF.out.gk DR.out (by decide) (by decide))
              have K5 := Lib.hid hf5.kept
              refine hK.out _ _ (hf5.kept.mono fun x hx => hx.1) ?_
              clear hK hg5 hf5 DR DS
              generalize numD p0 ⟨st, si, rb⟩ = nu at *
              generalize putP p0 ⟨st, si, rb⟩ = p5 at *
              refine WalkL.one 9 (by kernel_rfl) ?_
              refine ⟨_, (by simp only [gtA, gtS, gtZ]; rfl), by rfl, fun K hK => ?_⟩
              go_simp
              refine (put26_any rv rf (nu : Int) w5 E5.out.fm.refs (by have := HPL.out.2; have := HLT.out; have := HSL.out; have := HTL.out; omega) E5.out.sz).mono ?_
              rintro e w6 ⟨rv6, rfl, ho6, hk6, hw6⟩
              generalize (if (nu : Int) ∈ rf then rf else rf ++ [(nu : Int)]) = rf6 at *
              obtain ⟨r1, r2, r3, rfl, -, -, -⟩ := ho6.sl.len
              have E6 := Lib.hid (E5.out.keep hk6 ho6)
              have B6 := Lib.hid (E5.out.bx hk6)
              have R6 := Lib.hid (Own.setBox (x := w.heap.size + 3) (R5.out.keepOwn fun g hg => hk6.block g ⟨(R5.out.block g hg).2, fun e => R5.out.apart E5.out.fm.refs (by decide) hg e⟩) B6.out (by decide) (.slice r1 r2 r3) (i := 2))
              refine hK.out _ _ (Kept.trans (K5.out.mono fun x hx => hx.1) (hk6.mono fun x hx => ⟨Nat.lt_of_lt_of_le hx.1.1 K5.out.size, hx.2⟩)) ?_
              clear hK hk6 ho6 hw6 DF E5 R5 K5
              ((refine WalkL.take 10 _ ?_ (by simp only [gtA, gtS, gtZ]; rfl) (by kernel_rfl) (by kernel_rfl) (by kernel_rfl) (by rfl) (fun W hW => ?_) ?_; rotate_left; · (go_simp; try with_reducible rfl)); simp only [Act.put, puA, puZ, puS])
              have hbf := B6.out.cells
              have hbz := B6.out.free
              clear h1
              refine WalkL.last (by kernel_rfl) (by kernel_rfl) ?_
              refine ⟨_, (by simp only [gtA, gtS, gtZ]; rfl), by rfl, fun K hK => ?_⟩
              go_simp
              refine hK.out _ _ ?_
              clear hK hbf hbz
              go_wp2_with fail
              go_roundw
              case rel => exact ⟨i + 1, rf6, p5, .slice r1 r2 r3, pv5, HLT.out, by first | rw [HWI.out] | go_num, HYE.out, E6.out, R6.out⟩
              case measure => have := HLT.out; (try rw [HWI.out]); simp [intOf]; omega
            · have HNO := Lib.hid (show refsD ps [] (selF (fun s => decide (s.r = ⟨#[]⟩)) (viaF rb) (sb.take (i + 1))) = (rf, p0) from by rw [HAT.out, if_neg (by simp [he])])
              rw [decide_eq_false he] at hse
              clear he
              go_wp2_with fail
              go_roundw
              case rel => exact ⟨i + 1, rf, p0, rv, pv4, HLT.out, by first | rw [HWI.out] | go_num, HNO.out, FR.out.ext X1.out, SR2.out.below X1.out⟩
              case measure => have := HLT.out; (try rw [HWI.out]); simp [intOf]; omega
          case' neg =>
            obtain rfl : i = sb.length := by omega
            rw [List.take_length] at HRD
            have HH : headF T ⟨pt, pi, pr⟩ k ra rb ps = ([], rf, p0) := by
              unfold headF; rw [if_neg H1.out, if_neg H2.out, if_pos H3.out, HSB.out, viaOf_sel, HRD.out]
            obtain ⟨r1, r2, r3, rfl, -, -, -⟩ := FR.out.fm.refs.sl.len
            have FX := Lib.hid (show ∃ s1 s2 s3 r1 r2 r3 su rf p0 pv4, headF T ⟨pt, pi, pr⟩ k ra rb ps = (su, rf, p0) ∧ FrmI wb w wr gp B pv fv #[.string pt, .string pi, .string pr] k #[.int .i64 k, .string ra, .string rb, .slice ao parts.length c] p0 su rf [] (.slice s1 s2 s3) (.slice r1 r2 r3) (.slice none 0 0) pv4 from ⟨_, _, _, _, _, _, _, _, _, _, HH, FR.out⟩)
            have hrl := FR.out.rb.cells
            clear HH FR SR2 HRD hlt hi
            go_wp2_with fail
            clear hrl b1 b2 b3
            generalize wr = wh at *
      case' neg =>
        have b1 : (k == 1) = false := by rw [beq_eq_false_iff_ne]; exact h1
        have b2 : (k == 2) = false := by rw [beq_eq_false_iff_ne]; exact h2
        have b3 : (k == 3) = false := by rw [beq_eq_false_iff_ne]; exact h3
        have H1 := Lib.hid h1
        clear h1
        have H2 := Lib.hid h2
        clear h2
        have H3 := Lib.hid h3
        clear h3
        have HH := Lib.hid (show headF T ⟨pt, pi, pr⟩ k ra rb ps = ([], [], ps) from by unfold headF; rw [if_neg H1.out, if_neg H2.out, if_neg H3.out])
        have FX := Lib.hid (show ∃ s1 s2 s3 r1 r2 r3 su rf p0 pv4, headF T ⟨pt, pi, pr⟩ k ra rb ps = (su, rf, p0) ∧ FrmI wb w we gp B pv fv #[.string pt, .string pi, .string pr] k #[.int .i64 k, .string ra, .string rb, .slice ao parts.length c] p0 su rf [] (.slice s1 s2 s3) (.slice r1 r2 r3) (.slice none 0 0) pv4 from ⟨_, _, _, _, _, _, _, _, _, _, HH.out, FI.out⟩)
        have hrl := FI.out.rb.cells
        clear FI HH
        go_enter Tryz.func63, Tryz.ntmps63
        rw [hwe] at hrl
        go_wp2_with fail
        try rw [← hwe]
        clear hwe hra hrl b1 b2 b3
        generalize we = wh at *
  all_goals
    obtain ⟨s1, s2, s3, r1, r2, r3, su, rf, p0, pv4, hh, hf⟩ := FX.out
    have HH := Lib.hid hh
    have FH := Lib.hid hf
    have HSP := Lib.hid (fun i => formsD_take T ⟨pt, pi, pr⟩ parts p0 i)
    have HRM := Lib.hid (show ∀ i (hi : i < parts.length), (formsD T ⟨pt, pi, pr⟩ (parts.take i) p0).2.length + parts[i].sz * (T.length + 1) ≤ 1073741824 from fun i hi => by
      have := HROOM.out i hi
      rw [HH.out] at this
      exact this)
    clear hh hf FX
    go_loopw [93] (fun iv wr => ∃ (i : Nat) (q : List (FT × FV3)) (qv pv' : Value), i ≤ parts.length ∧ iv = .int .i64 i ∧ q.map (·.1) = (formsD T ⟨pt, pi, pr⟩ (parts.take i) p0).1 ∧ FrmI wb w wr gp B pv fv #[.string pt, .string pi, .string pr] k #[.int .i64 k, .string ra, .string rb, .slice ao parts.length c] (formsD T ⟨pt, pi, pr⟩ (parts.take i) p0).2 su rf q (.slice s1 s2 s3) (.slice r1 r2 r3) qv pv') (fun iv _ => parts.length - (intOf iv).toNat)
    case atStart => exact ⟨0, [], .slice none 0 0, pv4, Nat.zero_le _, rfl, rfl, FH.out⟩
    case round =>
      obtain ⟨i, q, qv, pv', hi, rfl, hq, hfr⟩ := hrel
      have RQ := Lib.hid hq
      have FR := Lib.hid hfr
      clear FH hq hfr
      by_cases hlt : i < parts.length
      · obtain ⟨ao', c', he', -, -, hcell⟩ := (HRT.out.same (w' := wr) fun x hx => (FR.out.be.block x hx).trans (HBW.out.block x hx).symm).rows
        cases he'
        obtain ⟨bq, oq, pq, rfl, hbq, d0, d1, d2, d3, hpat⟩ := hcell i hlt
        dsimp only [RT.ps] at d0 d1 d2 d3 hpat
        have HLTI := Lib.hid hlt
        have HST := Lib.hid (HSP.out i hlt)
        have HRI := Lib.hid (HRM.out i hlt)
        have HII := Lib.hid (HIH.out parts[i] (List.getElem_mem hlt))
        have HQL := Lib.hid (show q.length = i from by
          have := congrArg List.length RQ.out
          rw [List.length_map] at this
          rw [this]
          rw [formsD_len1, List.length_take]
          omega)
        have HPL := Lib.hid (show parts.length ≤ 1073741824 from by
          have h1 := szL_many parts
          have h2 := (RT.mk k ra rb parts).sz_eq
          have h3 := HLEN.out
          rw [h2, Nat.add_mul] at h3
          have h4 : szL parts * 1 ≤ szL parts * (T.length + 1) := Nat.mul_le_mul_left _ (by omega)
          simp only [RT.ps] at h3
          omega)
        have HWI := Lib.hid (show wrap64 ((i : Int) + 1) = ((i + 1 : Nat) : Int) from by have h1 := HPL.out; unfold wrap64; omega)
        have hli : (i : Int) < (parts.length : Int) := by omega
        generalize parts[i] = x at *
        obtain ⟨xo, xc, rfl, -⟩ := hpat.rows
        generalize hfd : formsD T ⟨pt, pi, pr⟩ (parts.take i) p0 = fd at *
        obtain ⟨ff, fp⟩ := fd
        dsimp only at RQ FR HST HRI
        clear hlt hi hfd hbq
        have X1 := Lib.hid (Ext.alloc wr (.cells #[.int .i64 x.k, .string x.a, .string x.b, .slice xo x.ps.length xc] 98))
        have BX := Lib.hid (Blk.made wr #[.int .i64 x.k, .string x.a, .string x.b, .slice xo x.ps.length xc] 98)
        have F1 := Lib.hid (FR.out.ext X1.out)
        have A1 := Lib.hid (hpat.same fun y (hy : y < B) => X1.out.block y (by have := FR.out.sz; have := FR.out.g0; omega))
        have hbx := BX.out.cells
        have hbp := F1.out.pb.cells
        go_wp2_with fail
        clear hbx hbp d0 d1 d2 d3 hpat hli
        refine (HII.out pv' (.slice xo x.ps.length xc) fp _ A1.out F1.out.be F1.out.gk HRI.out).mono ?_
        rintro e w2 ⟨v3, pv2, rfl, hat2, hgk2, hfn2⟩
        have F2 := Lib.hid (F1.out.num hfn2 hgk2)
        have TA := Lib.hid hat2
        have QB := Lib.hid (fun g hg => (F1.out.fm.parts.row.block g hg).2)
        have ZB := Lib.hid F1.out.sz
        clear hat2 hgk2 hfn2 F1 FR BX A1 X1
        generalize (wr.alloc (.cells #[.int .i64 x.k, .string x.a, .string x.b, .slice xo x.ps.length xc] 98)).heap.size = n0 at *
        generalize hfx : formD T ⟨pt, pi, pr⟩ x fp = fx at *
        obtain ⟨fx, fxp⟩ := fx
        obtain ⟨v1, v2, v4⟩ := v3
        unfold fV at *
        dsimp only at TA F2 HST ⊢
        obtain ⟨t1, t2, -⟩ := (FTAt.iff _ _).1 TA.out
        obtain ⟨x1, y1, z1, rfl, -, -, -⟩ := t1.len
        obtain ⟨x2, y2, z2, rfl, -, -, -⟩ := t2.len
        obtain ⟨x4, z4, rfl, -⟩ := TA.out.rows
        clear t1 t2 hfx
        obtain ⟨qo, qn, qc, rfl, hqn, -, -⟩ := F2.out.fm.parts.row.sl.len
        have X3 := Lib.hid (Ext.alloc w2 (.cells #[.int .i64 fx.k, .slice x1 y1 z1, .slice x2 y2 z2, .slice x4 fx.ps.length z4] 90))
        have X4 := Lib.hid (Ext.alloc (w2.alloc (.cells #[.int .i64 fx.k, .slice x1 y1 z1, .slice x2 y2 z2, .slice x4 fx.ps.length z4] 90)) (.cells #[.int .i64 fx.k, .slice x1 y1 z1, .slice x2 y2 z2, .slice x4 fx.ps.length z4] 90))
        have B4 := Lib.hid (Blk.made' (w := w2.alloc (.cells #[.int .i64 fx.k, .slice x1 y1 z1, .slice x2 y2 z2, .slice x4 fx.ps.length z4] 90)) (B := w2.heap.size + 1) (by simp) #[.int .i64 fx.k, .slice x1 y1 z1, .slice x2 y2 z2, .slice x4 fx.ps.length z4] 90)
        have hby := (Blk.made w2 #[.int .i64 fx.k, .slice x1 y1 z1, .slice x2 y2 z2, .slice x4 fx.ps.length z4] 90).cells
        have hbF := (F2.out.ext X3.out).fm.box.cells
        have F4 := Lib.hid ((F2.out.ext X3.out).ext X4.out)
        have QL3 := Lib.hid (show (q.flatMap fC).length + 4 ≤ 4294967300 from by have := HQL.out; have := HPL.out; have := HLTI.out; rw [fCs_length]; omega)
        clear hqn
        go_wp2_with (at_builtin; go_must (refine wpList_ownw formsT rfl (.tmp 103) (.tmp 105) rfl rfl F4.out.fm.parts.row rfl (m := 1) (news := fC (fx, (.slice x1 y1 z1, .slice x2 y2 z2, .slice x4 fx.ps.length z4))) rfl (by intro j u hu; rw [Addr.add_lit, Nat.zero_add]; exact (B4.out.cells j).trans (by simpa [fC] using hu)) (by simp [fC, Value.oneCell']) (by have := QL3.out; rw [fC_length]; omega) (by have := QL3.out; rw [fC_length]; omega) F4.out.sz ?_; intro v6 w6 hown6 hb6 hg6; have HP6 := Lib.hid (F2.out.part (X3.out.trans X4.out) hg6 hown6 hb6 TA.out ZB.out QB.out); obtain ⟨o6, m6, c6, rfl, -, -, -⟩ := hown6.sl.len; have hbf := (F4.out.bg hg6).cells; have hbz := (F4.out.bg hg6).free; clear hown6 hb6 hg6))
        go_roundw
        case rel => exact ⟨i + 1, q ++ [(fx, (.slice x1 y1 z1, .slice x2 y2 z2, .slice x4 fx.ps.length z4))], .slice o6 m6 c6, pv2, HLTI.out, by first | rw [HWI.out] | go_num, by rw [HST.out, List.map_append, RQ.out]; rfl, by rw [HST.out]; exact HP6.out⟩
        case measure => have := HLTI.out; (try rw [HWI.out]); simp [intOf]; omega
      · obtain rfl : i = parts.length := by omega
        have HTA := Lib.hid (show parts.take parts.length = parts from List.take_length)
        rw [HTA.out] at RQ FR
        obtain ⟨qo, qn, qc, rfl, -, -, -⟩ := FR.out.fm.parts.row.sl.len
        have hc3 := FR.out.fm.box.cells
        have hc2 := FR.out.ob.cells
        have hz2 := FR.out.ob.free
        clear hi hlt
        go_wp2_with fail
        clear hc3 hc2 hz2
        have ZS : ∀ y, y ≠ w.heap.size + 2 → ((((wr.setCell ⟨w.heap.size + 2, 0, none⟩ (.int .i64 k)).setCell ⟨w.heap.size + 2, 1, none⟩ (.slice s1 s2 s3)).setCell ⟨w.heap.size + 2, 2, none⟩ (.slice r1 r2 r3)).setCell ⟨w.heap.size + 2, 3, none⟩ (.slice qo qn qc)).heap[y]? = wr.heap[y]? := fun y hy => by rw [Below.heap_setCell _ _ _ y hy, Below.heap_setCell _ _ _ y hy, Below.heap_setCell _ _ _ y hy, Below.heap_setCell _ _ _ y hy]
        have ZW := FR.out.gk.un FR.out.ob (by decide) (by decide)
        refine bodyPost_ret (results_cell_row rfl _ _ (w.heap.size + 2) 90 #[.int .i64 k, .slice s1 s2 s3, .slice r1 r2 r3, .slice qo qn qc] (0, 0) _ rfl (FR.out.ob.put4 _ _ _ _) Tryz.underlying90 rfl (by kernel_rfl)) rfl ?_
        refine ⟨(.slice s1 s2 s3, .slice r1 r2 r3, .slice qo qn qc), pv', by rw [HFD.out, HH.out]; rfl, ?_, ?_, (((FR.out.fn.set (by omega) _).set (by omega) _).set (by omega) _).set (by omega) _⟩
        · refine (FR.out.fm.done (by rw [HFD.out, HH.out, RQ.out]) (fun y hy _ => ZS y (by omega)) (by simp)).mono fun y hy => hy.mono (by omega)
        · rw [HFD.out, HH.out]
          exact FR.out.gk.same (ZS _ fun e => ZW.2.1 e.symm) fun g hg => ZS _ fun e => ZW.2.2.2 (by rw [hg, e])
end Go.Proofs.YtjdigpfipmckhaaGreat
