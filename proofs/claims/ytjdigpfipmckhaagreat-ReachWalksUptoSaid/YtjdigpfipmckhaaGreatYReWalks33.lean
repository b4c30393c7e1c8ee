/- Lemmas for the claim, no condition. -/
import Derived.Test.YtjdigpfipmckhaaGreatYReWalks0
import Derived.Test.YtjdigpfipmckhaaGreatYReWalks24
import Derived.Test.YtjdigpfipmckhaaGreatYReWalks25
import Derived.Test.YtjdigpfipmckhaaGreatYReWalks27
import Derived.Test.YtjdigpfipmckhaaGreatYReWalks31
import Derived.Test.YtjdigpfipmckhaaGreatYReWalks32
namespace Go.Proofs.YtjdigpfipmckhaaGreat
open Go Go.RowKit Go.Maps
def GSaid (P : List P3 → List FT → Value → Prop) (w : World) (e : Ending) (w' : World) : Prop :=
  Ext w w' ∧ ∃ (ps : List P3) (fs : List FT) (po : Option Addr) (pc : Nat) (fo : Option Addr) (fc : Nat) (ev : Value), P ps fs ev ∧ e = .returned (.tuple #[.agg #[.slice po ps.length pc, .slice fo fs.length fc], ev]) ∧
    GrAt (fun x => w.heap.size ≤ x ∧ x < w'.heap.size) w' ps fs (.slice po ps.length pc) (.slice fo fs.length fc)
def JoinG {β : Type} (wd : World) (P : List P3 → List FT → Value → Prop) (A : β → Nat → Option Addr → Nat → Option Addr → Nat → List P3 → List FT → Value → Act) (e : Exit) (a : Act) (W : World) : Prop :=
  e = .normal ∧ ∃ (bk : β) (bg : Nat) (po : Option Addr) (pc : Nat) (fo : Option Addr) (fc : Nat) (ps : List P3) (fs : List FT) (ev : Value), a = A bk bg po pc fo fc ps fs ev ∧ P ps fs ev ∧ Ext wd W ∧ wd.heap.size ≤ bg ∧
    Blk W bg #[.slice po ps.length pc, .slice fo fs.length fc] 37 ∧ GrAt (fun x => x ≠ bg ∧ wd.heap.size ≤ x ∧ x < W.heap.size) W ps fs (.slice po ps.length pc) (.slice fo fs.length fc)
theorem GrAt.shape {S : Nat → Prop} {w : World} {ps : List P3} {fs : List FT} {pv fv : Value} (h : GrAt S w ps fs pv fv) : ∃ po pc fo fc, pv = .slice po ps.length pc ∧ fv = .slice fo fs.length fc := by
  obtain ⟨h1, q, h2, h3, h4⟩ := h
  obtain ⟨po, pc, rfl, -⟩ := Sl.rows pC_length (by decide) (show Sl _ w 3 pv (ps.flatMap pC) from h1)
  obtain ⟨fo, fc, rfl, -⟩ := Sl.rows fC_length (by decide) h4
  exact ⟨po, pc, fo, fc, rfl, by rw [← h2, List.length_map]⟩
theorem GrAt.none (S : Nat → Prop) (w : World) : GrAt S w [] [] (.slice none 0 0) (.slice none 0 0) := ⟨Sl.nil _ _ _, [], rfl, (fun x hx => by cases hx), Sl.nil _ _ _⟩
theorem set_ex (l : List Tup) : ∃ T, SetT l T := by
  have htr : ∀ a b c : Tup, (!ltT b a) = true → (!ltT c b) = true → (!ltT c a) = true := fun a b c h k => by
    rw [Bool.not_eq_true'] at *
    have := swoC.ntrans c b a
    simp only [lt_cmpC] at this
    exact this k h
  have hto : ∀ a b : Tup, (!ltT b a || !ltT a b) = true := fun a b => by
    cases h : ltT b a with
    | false => rfl
    | true =>
      cases k : ltT a b with
      | false => rfl
      | true =>
        have := swoC.trans a b a
        simp only [lt_cmpC] at this
        have h3 := this k h
        have h4 := swoC.irrefl a
        rw [lt_cmpC] at h4
        rw [h4] at h3; cases h3
  refine ⟨_, set_of (List.mergeSort_perm l fun a b => !ltT b a) ?_⟩
  have := List.pairwise_mergeSort (le := fun a b => !ltT b a) htr hto l
  exact this.imp fun {a b} h => by simpa using h
theorem bookT_any {l T : List Tup} (hT : SetT l T) (v : Value) (w : World) (h : Sl (· < w.heap.size) w 6 v (tuCs l)) (hl : l.length ≤ 1000000) (hok : ∀ t ∈ l, t.Ok) :
    Calls Tryz.prog 16 #[v] w fun e w' => ∃ b, e = .returned (.pointer (some ⟨b, 0, none⟩)) ∧ BookAt w' b T ∧ Ext w w' := by
  refine (newBook_any l v w h hl hok).mono ?_
  rintro e w' ⟨b, U, rfl, hU, hb, hx⟩
  obtain rfl := hT.uniq hU
  exact ⟨b, rfl, hb, hx⟩
theorem setT_any {l T : List Tup} (hT : SetT l T) (v : Value) (w : World) (h : Sl (· < w.heap.size) w 6 v (tuCs l)) (hl : l.length ≤ 100000) (hok : ∀ t ∈ l, t.Ok) :
    Calls Tryz.prog 19 #[v] w fun e w' => ∃ v', e = .returned v' ∧ Sl (· < w'.heap.size) w' 6 v' (tuCs T) ∧ Ext w w' := by
  refine (set25_any v l w h hl hok).mono ?_
  rintro e w' ⟨v', U, rfl, hU, hb, hx⟩
  obtain rfl := hT.uniq hU
  exact ⟨v', rfl, hb.slU, hx⟩
def WalkP (ts : List TyS) (T : List Tup) (shut : List R2) (p : P3) (most : Int) (ok long : Value) (ps : List P3) (fs : List FT) (ev : Value) : Prop :=
  (∃ n, WalkEnd ts T shut p most n ∧ ps = (walkN ts T shut p n).1 ∧ fs = (walkN ts T shut p n).2 ∧ ev = ok) ∨ (WalkLong ts T shut p most ∧ ps = [] ∧ fs = [] ∧ ev = long)
theorem walkG_any (ts : List TyS) (tv : Value) (b : Nat) (T : List Tup) (shut : List R2) (sv : Value) (p : P3) (most : Int) (N : Nat) (w : World) (h : TysAt (· < w.heap.size) w ts tv) (hok : ∀ t ∈ ts, t.Ok) (hc : chk06 ts = 0) (hsB : schB ts ≤ 549755813888) (hsz : ∀ t ∈ ts, ∀ r ∈ t.rels, r.2.sz ≤ 1000000) (hln : (namesOf ts).length ≤ 1099511627776) (hlr : (refsOf ts).length ≤ 1099511627776)
    (hbk : BookAt w b T) (hsv : Sl (· < w.heap.size) w 2 sv (shut.flatMap r2C)) (hso : ∀ r ∈ shut, r.Ok) (hin : WalkIn ts T shut p N) :
    Calls Tryz.prog 15 #[.agg #[tv], bkV b, sv, pV p, .int .i64 most] w (GSaid (WalkP ts T shut p most (.int .i64 0) (.int .i64 10)) w) := by
  refine (walkW_any ts tv b T shut sv p most N w h hok hc hsB hsz hln hlr hbk hsv hso hin).mono ?_
  rintro e w' ⟨hx, ⟨n, pv, fv, he, rfl, hg⟩ | ⟨hlong, rfl⟩⟩
  · obtain ⟨po, pc, fo, fc, rfl, rfl⟩ := hg.shape
    exact ⟨hx, _, _, po, pc, fo, fc, _, .inl ⟨n, he, rfl, rfl, rfl⟩, rfl, hg⟩
  · exact ⟨hx, [], [], none, 0, none, 0, _, .inr ⟨hlong, rfl, rfl, rfl⟩, rfl, GrAt.none _ _⟩
theorem walkD_any (ts : List TyS) (tv : Value) (T : List Tup) (setv : Value) (shut : List R2) (sv : Value) (p : P3) (most : Int) (N : Nat) (w : World) (h : TysAt (· < w.heap.size) w ts tv) (hu : uniqOk ts = true) (hset : Sl (· < w.heap.size) w 6 setv (tuCs T)) (hsv : Sl (· < w.heap.size) w 2 sv (shut.flatMap r2C)) (hsl : shut.length ≤ 1099511627776) (hin : WalkIn ts T shut p N) :
    Calls Tryz.prog 18 #[.agg #[tv], setv, sv, pV p, .int .i64 most] w (GSaid (WalkP ts T shut p most (.bool true) (.bool false)) w) := by
  refine (walk26_any ts tv T setv shut sv p most N w h hu hset hsv hsl hin).mono ?_
  rintro e w' ⟨hx, ⟨n, pv, fv, he, rfl, hg⟩ | ⟨hlong, rfl⟩⟩
  · obtain ⟨po, pc, fo, fc, rfl, rfl⟩ := hg.shape
    exact ⟨hx, _, _, po, pc, fo, fc, _, .inl ⟨n, he, rfl, rfl, rfl⟩, rfl, hg⟩
  · exact ⟨hx, [], [], none, 0, none, 0, _, .inr ⟨hlong, rfl, rfl, rfl⟩, rfl, GrAt.none _ _⟩
theorem walkB_any (ts : List TyS) (tv fv sv : Value) (p : P3) (mv : Value) (w : World) (h : TysAt (· < w.heap.size) w ts tv) (hok : ∀ t ∈ ts, t.Ok) (hc : chk06 ts ≠ 0) (hsB : schB ts ≤ 549755813888) (hsz : ∀ t ∈ ts, ∀ r ∈ t.rels, r.2.sz ≤ 1000000) (hln : (namesOf ts).length ≤ 1099511627776) (hlr : (refsOf ts).length ≤ 1099511627776) :
    Calls Tryz.prog 15 #[.agg #[tv], fv, sv, pV p, mv] w (GSaid (fun ps fs ev => ps = [] ∧ fs = [] ∧ ev = .int .i64 (chk06 ts)) w) := by
  refine (walkE_any ts tv fv sv (pV p) mv w ⟨p, rfl⟩ h hok hc hsB hsz hln hlr).mono ?_
  rintro e w' ⟨hx, rfl⟩
  exact ⟨hx, [], [], none, 0, none, 0, _, ⟨rfl, rfl, rfl⟩, rfl, GrAt.none _ _⟩
end Go.Proofs.YtjdigpfipmckhaaGreat
namespace Go.Proofs.YtjdigpfipmckhaaGreat
open Go Go.RowKit Go.Maps
def p0 : P3 := ⟨⟨#[100, 111, 99]⟩, ⟨#[49]⟩, ⟨#[118, 105, 101, 119, 101, 114]⟩⟩
theorem walkN_nil (p : P3) : ∀ n, (walkN [] [] [] p n).1 = [p]
  | 0 => rfl
  | n + 1 => by rw [walkN, walkN_nil p n]; simp [stepG, ruleOf, refsOf, lookA]
theorem walkP_nil {p : P3} {most : Int} {ok long : Value} {ps : List P3} {fs : List FT} {ev : Value} (h : WalkP [] [] [] p most ok long ps fs ev) : if 1 ≤ most then ps = [p] ∧ fs = [FT.zero] ∧ ev = ok else ps = [] ∧ fs = [] ∧ ev = long := by
  rcases h with ⟨n, he, rfl, rfl, rfl⟩ | ⟨⟨n, h1, h2, h3⟩, rfl, rfl, rfl⟩
  · have h2 := he.2
    rw [walkN_nil] at h2
    obtain rfl : n = 1 := by simpa using h2
    have h3 := (he.1 0 (by omega)).2
    rw [walkN_nil] at h3
    rw [if_pos (by simpa using h3)]
    exact ⟨walkN_nil p 1, by simp [walkN, stepG, ruleOf, refsOf, lookA], rfl⟩
  · rw [walkN_nil] at h2 h3
    rw [if_neg (by simp at h3; omega)]
    exact ⟨rfl, rfl, rfl⟩
theorem walkIn_nil (p : P3) (hp : p.Ok) : WalkIn [] [] [] p 1 where
  okp n x hx := by rw [walkN_nil] at hx; obtain rfl := List.mem_singleton.1 hx; exact hp
  few n := by rw [walkN_nil]; simp
  room x hx := by simp [refsOf] at hx
  nmax := by omega
  rok x hx := by simp [refsOf] at hx
  tok t ht := by simp at ht
  tlen := by simp
theorem tysAt_nil (S : Nat → Prop) (w : World) : TysAt S w [] (.slice none 0 0) := ⟨[], rfl, by simp, Sl.nil _ _ _⟩
theorem fixW_any (p : P3) (hp : p.Ok) (most : Int) (b : Nat) (w : World) (hb : BookAt w b []) :
    Calls Tryz.prog 15 #[.agg #[.slice none 0 0], bkV b, .slice none 0 0, pV p, .int .i64 most] w (GSaid (fun ps fs ev => if 1 ≤ most then ps = [p] ∧ fs = [FT.zero] ∧ ev = .int .i64 0 else ps = [] ∧ fs = [] ∧ ev = .int .i64 10) w) := by
  refine (walkG_any [] (.slice none 0 0) b [] [] (.slice none 0 0) p most 1 w (tysAt_nil _ _) (by simp) (by kernel_rfl) (by simp [schB]) (by simp) (by simp [namesOf]) (by simp [refsOf]) hb (Sl.nil _ _ _) (by simp) (walkIn_nil p hp)).mono ?_
  rintro e w' ⟨hx, ps, fs, po, pc, fo, fc, ev, hP, he, hg⟩
  exact ⟨hx, ps, fs, po, pc, fo, fc, ev, walkP_nil hP, he, hg⟩
theorem fixN_any (p : P3) (most : Int) (w : World) :
    Calls Tryz.prog 15 #[.agg #[.slice none 0 0], .nilIface, .slice none 0 0, pV p, .int .i64 most] w fun e w' => Ext w w' ∧ e = .returned (.tuple #[.agg #[.slice none 0 0, .slice none 0 0], .int .i64 1]) :=
  walkF_any [] (.slice none 0 0) (.slice none 0 0) (pV p) (.int .i64 most) w ⟨p, rfl⟩ (tysAt_nil _ _) (by simp) (by kernel_rfl) (by simp [schB]) (by simp) (by simp [namesOf]) (by simp [refsOf])
set_option maxRecDepth 100000 in
set_option maxHeartbeats 1000000 in
theorem fixed26_any (w : World) : Calls Tryz.prog 12 #[] w fun e w' => e = .returned (.bool true) ∧ Below w.heap.size w w' := by
  obtain ⟨w1, hw1⟩ : ∃ x, x = w.alloc (.cells #[.string ⟨#[100, 111, 99]⟩, .string ⟨#[49]⟩, .string ⟨#[118, 105, 101, 119, 101, 114]⟩] 30) := ⟨_, rfl⟩
  have HPB := Lib.hid (show Blk w1 w.heap.size #[.string ⟨#[100, 111, 99]⟩, .string ⟨#[49]⟩, .string ⟨#[118, 105, 101, 119, 101, 114]⟩] 30 from by rw [hw1]; exact Blk.made _ _ _)
  have HX1 := Lib.hid (show Ext w w1 from by rw [hw1]; exact Ext.alloc _ _)
  have HZ1 := Lib.hid (show w.heap.size < w1.heap.size from by rw [hw1]; simp)
  have HP0 := Lib.hid (show p0.Ok from ⟨by decide, by decide, by decide⟩)
  go_enter Tryz.func12, Tryz.ntmps12
  go_wp2_with fail
  rw [← hw1]
  clear hw1
  obtain ⟨wd, hwd⟩ : ∃ wd, Hid (wd = w1.drew) := ⟨_, Lib.hid rfl⟩
  have hxd := Lib.hid (show Ext w1 wd from by rw [hwd.out]; exact Ext.drew _)
  apply Code.wp_mono (Q := JoinG (β := Nat) wd (fun ps fs ev => if (1 : Int) ≤ 9 then ps = [p0] ∧ fs = [FT.zero] ∧ ev = .int .i64 0 else ps = [] ∧ fs = [] ∧ ev = .int .i64 10) _) ?rest ?reg
  case reg =>
    have hE := Lib.hid (Ext.refl wd)
    refine region_walkN (Ext wd) (by rw [← hwd.out]; exact Ext.refl _) (by kernel_rfl) (by kernel_rfl) (fun _ _ d _ _ h => by cases h.1) ?_
    rw [← hwd.out]
    have HNB := Lib.hid (fun W (_ : Ext wd W) => bookT_any (l := []) (T := []) ⟨List.Pairwise.nil, by simp⟩ (.slice none 0 0) W (Sl.nil _ _ _) (by simp) (by simp))
    have HWK := Lib.hid (fun W b (_ : Ext wd W) (hB : BookAt W b []) => fixW_any p0 HP0.out 9 b W hB)
    unfold pV at HWK
    dsimp only [p0] at HWK
    have hp : ∀ W, Ext wd W → ∀ i, W.cell? ⟨w.heap.size, i, none⟩ = (#[.string ⟨#[100, 111, 99]⟩, .string ⟨#[49]⟩, .string ⟨#[118, 105, 101, 119, 101, 114]⟩] : Array Value)[i]? := fun W h => (HPB.out.below (Ext.trans hxd.out h)).cells
    (refine WalkN.tk [0, 3] ?_; (iterate 2 ((refine TkN.c _ ?_ (by simp only [gtA, gtS, gtZ]; rfl) (by kernel_rfl) (by kernel_rfl) (by rfl) (fun W hW => ?_) ?_; rotate_left; · (go_simp; try with_reducible rfl)); simp only [Act.put, puA, puZ, puS])); refine TkN.n ?_)
    refine WalkN.two 1 8 (by kernel_rfl) ?_ ?_
    refine ⟨_, (by simp only [gtA, gtS, gtZ]; rfl), by rfl, fun K hK => ?_⟩
    go_simp
    refine (HNB.out wd hE.out).mono ?_
    rintro e u1 ⟨bk, rfl, hB0, hx0⟩
    have hX0 := Ext.trans hE.out hx0
    refine hK.out _ _ hX0 ?_
    clear hK
    have HBK := Lib.hid hB0
    have hE := Lib.hid hX0
    clear hx0 hX0 hB0
    ((refine WalkN.take 2 _ ?_ (by simp only [gtA, gtS, gtZ]; rfl) (by kernel_rfl) (by kernel_rfl) (by rfl) (fun W hW => ?_) ?_; rotate_left; · (go_simp; try with_reducible rfl)); simp only [Act.put, puA, puZ, puS])
    refine WalkN.two 4 8 (by kernel_rfl) ?_ ?_
    refine ⟨_, (by simp only [gtA, gtS, gtZ]; rfl), by rfl, fun K hK => ?_⟩
    go_simp
    refine (HWK.out u1 bk hE.out HBK.out).mono ?_
    rintro e u2 ⟨hx1, ps, fs, po, pc, fo, fc, ev, hP1, rfl, hG1⟩
    have hX1 := Ext.trans hE.out hx1
    refine hK.out _ _ hX1 ?_
    clear hK
    have HR := Lib.hid (show GrAt (fun x => wd.heap.size ≤ x ∧ x < u2.heap.size) u2 ps fs (.slice po ps.length pc) (.slice fo fs.length fc) from hG1.mono fun x hx => ⟨Nat.le_trans hE.out.size hx.1, hx.2⟩)
    have HP := Lib.hid hP1
    have HBK := Lib.hid (HBK.out.ext hx1)
    have hE := Lib.hid hX1
    clear hx1 hX1 hP1 hG1
    ((refine WalkN.take 5 _ ?_ (by simp only [gtA, gtS, gtZ]; rfl) (by kernel_rfl) (by kernel_rfl) (by rfl) (fun W hW => ?_) ?_; rotate_left; · (go_simp; try with_reducible rfl)); simp only [Act.put, puA, puZ, puS])
    ((refine WalkN.take 6 _ ?_ (by simp only [gtA, gtS, gtZ]; rfl) (by kernel_rfl) (by kernel_rfl) (by rfl) (fun W hW => ?_) ?_; rotate_left; · (go_simp; try with_reducible rfl)); simp only [Act.put, puA, puZ, puS])
    ((refine WalkN.take 7 _ ?_ (by simp only [gtA, gtS, gtZ]; rfl) (by kernel_rfl) (by kernel_rfl) (by rfl) (fun W hW => ?_) ?_; rotate_left; · (go_simp; try with_reducible rfl)); simp only [Act.put, puA, puZ, puS])
    refine WalkN.one 8 (by kernel_rfl) ?_
    refine ⟨_, (by simp only [gtA, gtS, gtZ]; rfl), by rfl, fun K hK => ?_⟩
    go_simp
    obtain ⟨bg, hbg⟩ : ∃ x, x = u2.heap.size := ⟨_, rfl⟩
    rw [← hbg]
    have hA2 := Ext.alloc u2 (.cells #[.slice none 0 0, .slice none 0 0] 37)
    have hO2 : Blk (u2.alloc (.cells #[.slice none 0 0, .slice none 0 0] 37)) bg #[.slice none 0 0, .slice none 0 0] 37 := by rw [hbg]; exact Blk.made _ _ _
    have hX2 := Ext.trans hE.out hA2
    have HBG := Lib.hid (show wd.heap.size ≤ bg from by have := hE.out.size; omega)
    have HBK := Lib.hid (HBK.out.ext hA2)
    have HR := Lib.hid (show GrAt (fun x => x ≠ bg ∧ wd.heap.size ≤ x ∧ x < (u2.alloc (.cells #[.slice none 0 0, .slice none 0 0] 37)).heap.size) (u2.alloc (.cells #[.slice none 0 0, .slice none 0 0] 37)) ps fs (.slice po ps.length pc) (.slice fo fs.length fc) from (HR.out.same fun x hx => hA2.block x hx.2).mono fun x hx => ⟨fun e => by have := hx.2; omega, hx.1, Nat.lt_of_lt_of_le hx.2 hA2.size⟩)
    refine hK.out _ _ hX2 ?_
    clear hK hbg hA2
    generalize u2.alloc (.cells #[.slice none 0 0, .slice none 0 0] 37) = u3 at *
    have hE := Lib.hid hX2
    have HG := Lib.hid hO2
    clear hO2 hX2
    rotate_left
    refine ⟨_, (by simp only [gtA, gtS, gtZ]; rfl), by rfl, fun K hK => ?_⟩
    go_simp
    obtain ⟨bg, hbg⟩ : ∃ x, x = u1.heap.size := ⟨_, rfl⟩
    rw [← hbg]
    have hA1 := Ext.alloc u1 (.cells #[.slice none 0 0, .slice none 0 0] 37)
    have hO1 : Blk (u1.alloc (.cells #[.slice none 0 0, .slice none 0 0] 37)) bg #[.slice none 0 0, .slice none 0 0] 37 := by rw [hbg]; exact Blk.made _ _ _
    have hX1 := Ext.trans hE.out hA1
    have HBG := Lib.hid (show wd.heap.size ≤ bg from by have := hE.out.size; omega)
    have HBK := Lib.hid (HBK.out.ext hA1)
    refine hK.out _ _ hX1 ?_
    clear hK hbg hA1
    generalize u1.alloc (.cells #[.slice none 0 0, .slice none 0 0] 37) = u2 at *
    have hE := Lib.hid hX1
    have HG := Lib.hid hO1
    clear hO1 hX1
    refine WalkN.one 4 (by kernel_rfl) ?_
    refine ⟨_, (by simp only [gtA, gtS, gtZ]; rfl), by rfl, fun K hK => ?_⟩
    go_simp
    refine (HWK.out u2 bk hE.out HBK.out).mono ?_
    rintro e u3 ⟨hx2, ps, fs, po, pc, fo, fc, ev, hP2, rfl, hG2⟩
    have hX2 := Ext.trans hE.out hx2
    refine hK.out _ _ hX2 ?_
    clear hK
    have HR := Lib.hid (show GrAt (fun x => x ≠ bg ∧ wd.heap.size ≤ x ∧ x < u3.heap.size) u3 ps fs (.slice po ps.length pc) (.slice fo fs.length fc) from hG2.mono fun x hx => ⟨fun e => by have := HG.out.lt; have := hx.1; omega, Nat.le_trans hE.out.size hx.1, hx.2⟩)
    have HG := Lib.hid (HG.out.below hx2)
    have HP := Lib.hid hP2
    have HBK := Lib.hid (HBK.out.ext hx2)
    have hE := Lib.hid hX2
    clear hx2 hX2 hP2 hG2
    ((refine WalkN.take 5 _ ?_ (by simp only [gtA, gtS, gtZ]; rfl) (by kernel_rfl) (by kernel_rfl) (by rfl) (fun W hW => ?_) ?_; rotate_left; · (go_simp; try with_reducible rfl)); simp only [Act.put, puA, puZ, puS])
    ((refine WalkN.take 6 _ ?_ (by simp only [gtA, gtS, gtZ]; rfl) (by kernel_rfl) (by kernel_rfl) (by rfl) (fun W hW => ?_) ?_; rotate_left; · (go_simp; try with_reducible rfl)); simp only [Act.put, puA, puZ, puS])
    ((refine WalkN.take 7 _ ?_ (by simp only [gtA, gtS, gtZ]; rfl) (by kernel_rfl) (by kernel_rfl) (by rfl) (fun W hW => ?_) ?_; rotate_left; · (go_simp; try with_reducible rfl)); simp only [Act.put, puA, puZ, puS])
    rotate_left
    refine ⟨_, (by simp only [gtA, gtS, gtZ]; rfl), by rfl, fun K hK => ?_⟩
    go_simp
    obtain ⟨bg, hbg⟩ : ∃ x, x = wd.heap.size := ⟨_, rfl⟩
    rw [← hbg]
    have hA0 := Ext.alloc wd (.cells #[.slice none 0 0, .slice none 0 0] 37)
    have hO0 : Blk (wd.alloc (.cells #[.slice none 0 0, .slice none 0 0] 37)) bg #[.slice none 0 0, .slice none 0 0] 37 := by rw [hbg]; exact Blk.made _ _ _
    have hX0 := Ext.trans hE.out hA0
    have HBG := Lib.hid (show wd.heap.size ≤ bg from by have := hE.out.size; omega)
    refine hK.out _ _ hX0 ?_
    clear hK hbg hA0
    generalize wd.alloc (.cells #[.slice none 0 0, .slice none 0 0] 37) = u1 at *
    have hE := Lib.hid hX0
    have HG := Lib.hid hO0
    clear hO0 hX0
    refine WalkN.one 1 (by kernel_rfl) ?_
    refine ⟨_, (by simp only [gtA, gtS, gtZ]; rfl), by rfl, fun K hK => ?_⟩
    go_simp
    refine (HNB.out u1 hE.out).mono ?_
    rintro e u2 ⟨bk, rfl, hB1, hx1⟩
    have hX1 := Ext.trans hE.out hx1
    refine hK.out _ _ hX1 ?_
    clear hK
    have HBK := Lib.hid hB1
    have HG := Lib.hid (HG.out.below hx1)
    have hE := Lib.hid hX1
    clear hx1 hX1 hB1
    ((refine WalkN.take 2 _ ?_ (by simp only [gtA, gtS, gtZ]; rfl) (by kernel_rfl) (by kernel_rfl) (by rfl) (fun W hW => ?_) ?_; rotate_left; · (go_simp; try with_reducible rfl)); simp only [Act.put, puA, puZ, puS])
    refine WalkN.one 4 (by kernel_rfl) ?_
    refine ⟨_, (by simp only [gtA, gtS, gtZ]; rfl), by rfl, fun K hK => ?_⟩
    go_simp
    refine (HWK.out u2 bk hE.out HBK.out).mono ?_
    rintro e u3 ⟨hx2, ps, fs, po, pc, fo, fc, ev, hP2, rfl, hG2⟩
    have hX2 := Ext.trans hE.out hx2
    refine hK.out _ _ hX2 ?_
    clear hK
    have HR := Lib.hid (show GrAt (fun x => x ≠ bg ∧ wd.heap.size ≤ x ∧ x < u3.heap.size) u3 ps fs (.slice po ps.length pc) (.slice fo fs.length fc) from hG2.mono fun x hx => ⟨fun e => by have := HG.out.lt; have := hx.1; omega, Nat.le_trans hE.out.size hx.1, hx.2⟩)
    have HG := Lib.hid (HG.out.below hx2)
    have HP := Lib.hid hP2
    have HBK := Lib.hid (HBK.out.ext hx2)
    have hE := Lib.hid hX2
    clear hx2 hX2 hP2 hG2
    ((refine WalkN.take 5 _ ?_ (by simp only [gtA, gtS, gtZ]; rfl) (by kernel_rfl) (by kernel_rfl) (by rfl) (fun W hW => ?_) ?_; rotate_left; · (go_simp; try with_reducible rfl)); simp only [Act.put, puA, puZ, puS])
    ((refine WalkN.take 6 _ ?_ (by simp only [gtA, gtS, gtZ]; rfl) (by kernel_rfl) (by kernel_rfl) (by rfl) (fun W hW => ?_) ?_; rotate_left; · (go_simp; try with_reducible rfl)); simp only [Act.put, puA, puZ, puS])
    ((refine WalkN.take 7 _ ?_ (by simp only [gtA, gtS, gtZ]; rfl) (by kernel_rfl) (by kernel_rfl) (by rfl) (fun W hW => ?_) ?_; rotate_left; · (go_simp; try with_reducible rfl)); simp only [Act.put, puA, puZ, puS])
    rotate_left
    all_goals
      refine WalkN.one 9 (by kernel_rfl) ?_
      refine ⟨_, (by simp only [gtA, gtS, gtZ]; rfl), by rfl, fun K hK => ?_⟩
      have hg := HG.out.cells
      have hf := HG.out.free
      go_simp
      have hS3 := (HG.out.set_to (cs' := #[.slice po ps.length pc, .slice none 0 0]) 0 (.slice po ps.length pc) rfl).set_to (cs' := #[.slice po ps.length pc, .slice fo fs.length fc]) 1 (.slice fo fs.length fc) rfl
      have hX3 : Ext wd ((u3.setCell ⟨bg, 0, none⟩ (.slice po ps.length pc)).setCell ⟨bg, 1, none⟩ (.slice fo fs.length fc)) := Below.setCell (Below.setCell hE.out (p := ⟨bg, 0, none⟩) HBG.out _) (p := ⟨bg, 1, none⟩) HBG.out _
      have hR3 := (HR.out.same (w' := ((u3.setCell ⟨bg, 0, none⟩ (.slice po ps.length pc)).setCell ⟨bg, 1, none⟩ (.slice fo fs.length fc))) fun x hx => by rw [Below.heap_setCell _ _ _ x hx.1, Below.heap_setCell _ _ _ x hx.1]).mono (T := fun x => x ≠ bg ∧ wd.heap.size ≤ x ∧ x < ((u3.setCell ⟨bg, 0, none⟩ (.slice po ps.length pc)).setCell ⟨bg, 1, none⟩ (.slice fo fs.length fc)).heap.size) fun x hx => ⟨hx.1, hx.2.1, by simpa using hx.2.2⟩
      refine hK.out _ _ hX3 ?_
      clear hK hg hf
      generalize (u3.setCell ⟨bg, 0, none⟩ (.slice po ps.length pc)).setCell ⟨bg, 1, none⟩ (.slice fo fs.length fc) = u4 at *
      ((refine WalkN.take 10 _ ?_ (by simp only [gtA, gtS, gtZ]; rfl) (by kernel_rfl) (by kernel_rfl) (by rfl) (fun W hW => ?_) ?_; rotate_left; · (go_simp; try with_reducible rfl)); simp only [Act.put, puA, puZ, puS])
      refine WalkN.done (by kernel_rfl) ?_
      exact ⟨rfl, bk, bg, po, pc, fo, fc, ps, fs, ev, rfl, HP.out, hX3, HBG.out, hS3, hR3⟩
  rintro e _ W ⟨rfl, bk, bg, po, pc, fo, fc, ps, fs, ev, rfl, hP, hX, hbg, hblk, hgr⟩
  dsimp only
  rw [if_pos (by omega)] at hP
  obtain ⟨rfl, rfl, rfl⟩ := hP
  have HXW := Lib.hid (show Ext w W from HX1.out.trans (hxd.out.trans hX))
  have HBA := Lib.hid hblk
  have HGA := Lib.hid hgr
  have HPW := Lib.hid (HPB.out.below (hxd.out.trans hX))
  have HLA := Lib.hid (show w.heap.size < bg from by have := hxd.out.size; have := HZ1.out; omega)
  clear hblk hgr hX hbg hxd hwd HPB HX1 HZ1
  have HFN := Lib.hid (fixN_any p0 9 W)
  unfold pV at HFN
  dsimp only [p0] at HFN
  have hp0 := HPW.out.cells
  go_wp2_with fail
  refine HFN.out.mono ?_
  rintro e w3 ⟨hx3, rfl⟩
  go_wp2_with fail
  obtain ⟨w4, hw4⟩ : ∃ x, x = w3.alloc (.cells #[.slice none 0 0, .slice none 0 0] 37) := ⟨_, rfl⟩
  rw [← hw4]
  have hx4 : Ext W w4 := Ext.trans hx3 (by rw [hw4]; exact Ext.alloc _ _)
  have HX4 := Lib.hid (show Ext w w4 from HXW.out.trans hx4)
  have HB4 := Lib.hid (HBA.out.below hx4)
  have HG4 := Lib.hid ((HGA.out.same (w' := w4) fun x hx => hx4.block x hx.2.2).mono (T := fun x => x ≠ bg ∧ x < w4.heap.size) fun x hx => ⟨hx.1, Nat.lt_of_lt_of_le hx.2.2 hx4.size⟩)
  have HP4 := Lib.hid (HPW.out.below hx4)
  clear hp0 HFN hx3 hw4 hx4 HXW HBA HGA HPW
  obtain ⟨wd, hwd⟩ : ∃ wd, Hid (wd = w4.drew) := ⟨_, Lib.hid rfl⟩
  have hxd := Lib.hid (show Ext w4 wd from by rw [hwd.out]; exact Ext.drew _)
  apply Code.wp_mono (Q := JoinG (β := Nat) wd (fun ps fs ev => if (1 : Int) ≤ 0 then ps = [p0] ∧ fs = [FT.zero] ∧ ev = .int .i64 0 else ps = [] ∧ fs = [] ∧ ev = .int .i64 10) _) ?rest2 ?reg2
  case reg2 =>
    have hE := Lib.hid (Ext.refl wd)
    refine region_walkN (Ext wd) (by rw [← hwd.out]; exact Ext.refl _) (by kernel_rfl) (by kernel_rfl) (fun _ _ d _ _ h => by cases h.1) ?_
    rw [← hwd.out]
    have HNB := Lib.hid (fun W (_ : Ext wd W) => bookT_any (l := []) (T := []) ⟨List.Pairwise.nil, by simp⟩ (.slice none 0 0) W (Sl.nil _ _ _) (by simp) (by simp))
    have HWK := Lib.hid (fun W b (_ : Ext wd W) (hB : BookAt W b []) => fixW_any p0 HP0.out 0 b W hB)
    unfold pV at HWK
    dsimp only [p0] at HWK
    have hp : ∀ W, Ext wd W → ∀ i, W.cell? ⟨w.heap.size, i, none⟩ = (#[.string ⟨#[100, 111, 99]⟩, .string ⟨#[49]⟩, .string ⟨#[118, 105, 101, 119, 101, 114]⟩] : Array Value)[i]? := fun W h => (HP4.out.below (Ext.trans hxd.out h)).cells
    (refine WalkN.tk [0, 3] ?_; (iterate 2 ((refine TkN.c _ ?_ (by simp only [gtA, gtS, gtZ]; rfl) (by kernel_rfl) (by kernel_rfl) (by rfl) (fun W hW => ?_) ?_; rotate_left; · (go_simp; try with_reducible rfl)); simp only [Act.put, puA, puZ, puS])); refine TkN.n ?_)
    refine WalkN.two 1 8 (by kernel_rfl) ?_ ?_
    refine ⟨_, (by simp only [gtA, gtS, gtZ]; rfl), by rfl, fun K hK => ?_⟩
    go_simp
    refine (HNB.out wd hE.out).mono ?_
    rintro e u1 ⟨bk, rfl, hB0, hx0⟩
    have hX0 := Ext.trans hE.out hx0
    refine hK.out _ _ hX0 ?_
    clear hK
    have HBK := Lib.hid hB0
    have hE := Lib.hid hX0
    clear hx0 hX0 hB0
    ((refine WalkN.take 2 _ ?_ (by simp only [gtA, gtS, gtZ]; rfl) (by kernel_rfl) (by kernel_rfl) (by rfl) (fun W hW => ?_) ?_; rotate_left; · (go_simp; try with_reducible rfl)); simp only [Act.put, puA, puZ, puS])
    refine WalkN.two 4 8 (by kernel_rfl) ?_ ?_
    refine ⟨_, (by simp only [gtA, gtS, gtZ]; rfl), by rfl, fun K hK => ?_⟩
    go_simp
    refine (HWK.out u1 bk hE.out HBK.out).mono ?_
    rintro e u2 ⟨hx1, ps, fs, po, pc, fo, fc, ev, hP1, rfl, hG1⟩
    have hX1 := Ext.trans hE.out hx1
    refine hK.out _ _ hX1 ?_
    clear hK
    have HR := Lib.hid (show GrAt (fun x => wd.heap.size ≤ x ∧ x < u2.heap.size) u2 ps fs (.slice po ps.length pc) (.slice fo fs.length fc) from hG1.mono fun x hx => ⟨Nat.le_trans hE.out.size hx.1, hx.2⟩)
    have HP := Lib.hid hP1
    have HBK := Lib.hid (HBK.out.ext hx1)
    have hE := Lib.hid hX1
    clear hx1 hX1 hP1 hG1
    ((refine WalkN.take 5 _ ?_ (by simp only [gtA, gtS, gtZ]; rfl) (by kernel_rfl) (by kernel_rfl) (by rfl) (fun W hW => ?_) ?_; rotate_left; · (go_simp; try with_reducible rfl)); simp only [Act.put, puA, puZ, puS])
    ((refine WalkN.take 6 _ ?_ (by simp only [gtA, gtS, gtZ]; rfl) (by kernel_rfl) (by kernel_rfl) (by rfl) (fun W hW => ?_) ?_; rotate_left; · (go_simp; try with_reducible rfl)); simp only [Act.put, puA, puZ, puS])
    ((refine WalkN.take 7 _ ?_ (by simp only [gtA, gtS, gtZ]; rfl) (by kernel_rfl) (by kernel_rfl) (by rfl) (fun W hW => ?_) ?_; rotate_left; · (go_simp; try with_reducible rfl)); simp only [Act.put, puA, puZ, puS])
    refine WalkN.one 8 (by kernel_rfl) ?_
    refine ⟨_, (by simp only [gtA, gtS, gtZ]; rfl), by rfl, fun K hK => ?_⟩
    go_simp
    obtain ⟨bg, hbg⟩ : ∃ x, x = u2.heap.size := ⟨_, rfl⟩
    rw [← hbg]
    have hA2 := Ext.alloc u2 (.cells #[.slice none 0 0, .slice none 0 0] 37)
    have hO2 : Blk (u2.alloc (.cells #[.slice none 0 0, .slice none 0 0] 37)) bg #[.slice none 0 0, .slice none 0 0] 37 := by rw [hbg]; exact Blk.made _ _ _
    have hX2 := Ext.trans hE.out hA2
    have HBG := Lib.hid (show wd.heap.size ≤ bg from by have := hE.out.size; omega)
    have HBK := Lib.hid (HBK.out.ext hA2)
    have HR := Lib.hid (show GrAt (fun x => x ≠ bg ∧ wd.heap.size ≤ x ∧ x < (u2.alloc (.cells #[.slice none 0 0, .slice none 0 0] 37)).heap.size) (u2.alloc (.cells #[.slice none 0 0, .slice none 0 0] 37)) ps fs (.slice po ps.length pc) (.slice fo fs.length fc) from (HR.out.same fun x hx => hA2.block x hx.2).mono fun x hx => ⟨fun e => by have := hx.2; omega, hx.1, Nat.lt_of_lt_of_le hx.2 hA2.size⟩)
    refine hK.out _ _ hX2 ?_
    clear hK hbg hA2
    generalize u2.alloc (.cells #[.slice none 0 0, .slice none 0 0] 37) = u3 at *
    have hE := Lib.hid hX2
    have HG := Lib.hid hO2
    clear hO2 hX2
    rotate_left
    refine ⟨_, (by simp only [gtA, gtS, gtZ]; rfl), by rfl, fun K hK => ?_⟩
    go_simp
    obtain ⟨bg, hbg⟩ : ∃ x, x = u1.heap.size := ⟨_, rfl⟩
    rw [← hbg]
    have hA1 := Ext.alloc u1 (.cells #[.slice none 0 0, .slice none 0 0] 37)
    have hO1 : Blk (u1.alloc (.cells #[.slice none 0 0, .slice none 0 0] 37)) bg #[.slice none 0 0, .slice none 0 0] 37 := by rw [hbg]; exact Blk.made _ _ _
    have hX1 := Ext.trans hE.out hA1
    have HBG := Lib.hid (show wd.heap.size ≤ bg from by have := hE.out.size; omega)
    have HBK := Lib.hid (HBK.out.ext hA1)
    refine hK.out _ _ hX1 ?_
    clear hK hbg hA1
    generalize u1.alloc (.cells #[.slice none 0 0, .slice none 0 0] 37) = u2 at *
    have hE := Lib.hid hX1
    have HG := Lib.hid hO1
    clear hO1 hX1
    refine WalkN.one 4 (by kernel_rfl) ?_
    refine ⟨_, (by simp only [gtA, gtS, gtZ]; rfl), by rfl, fun K hK => ?_⟩
    go_simp
    refine (HWK.out u2 bk hE.out HBK.out).mono ?_
    rintro e u3 ⟨hx2, ps, fs, po, pc, fo, fc, ev, hP2, rfl, hG2⟩
    have hX2 := Ext.trans hE.out hx2
    refine hK.out _ _ hX2 ?_
    clear hK
    have HR := Lib.hid (show GrAt (fun x => x ≠ bg ∧ wd.heap.size ≤ x ∧ x < u3.heap.size) u3 ps fs (.slice po ps.length pc) (.slice fo fs.length fc) from hG2.mono fun x hx => ⟨fun e => by have := HG.out.lt; have := hx.1; omega, Nat.le_trans hE.out.size hx.1, hx.2⟩)
    have HG := Lib.hid (HG.out.below hx2)
    have HP := Lib.hid hP2
    have HBK := Lib.hid (HBK.out.ext hx2)
    have hE := Lib.hid hX2
    clear hx2 hX2 hP2 hG2
    ((refine WalkN.take 5 _ ?_ (by simp only [gtA, gtS, gtZ]; rfl) (by kernel_rfl) (by kernel_rfl) (by rfl) (fun W hW => ?_) ?_; rotate_left; · (go_simp; try with_reducible rfl)); simp only [Act.put, puA, puZ, puS])
    ((refine WalkN.take 6 _ ?_ (by simp only [gtA, gtS, gtZ]; rfl) (by kernel_rfl) (by kernel_rfl) (by rfl) (fun W hW => ?_) ?_; rotate_left; · (go_simp; try with_reducible rfl)); simp only [Act.put, puA, puZ, puS])
    ((refine WalkN.take 7 _ ?_ (by simp only [gtA, gtS, gtZ]; rfl) (by kernel_rfl) (by kernel_rfl) (by rfl) (fun W hW => ?_) ?_; rotate_left; · (go_simp; try with_reducible rfl)); simp only [Act.put, puA, puZ, puS])
    rotate_left
    refine ⟨_, (by simp only [gtA, gtS, gtZ]; rfl), by rfl, fun K hK => ?_⟩
    go_simp
    obtain ⟨bg, hbg⟩ : ∃ x, x = wd.heap.size := ⟨_, rfl⟩
    rw [← hbg]
    have hA0 := Ext.alloc wd (.cells #[.slice none 0 0, .slice none 0 0] 37)
    have hO0 : Blk (wd.alloc (.cells #[.slice none 0 0, .slice none 0 0] 37)) bg #[.slice none 0 0, .slice none 0 0] 37 := by rw [hbg]; exact Blk.made _ _ _
    have hX0 := Ext.trans hE.out hA0
    have HBG := Lib.hid (show wd.heap.size ≤ bg from by have := hE.out.size; omega)
    refine hK.out _ _ hX0 ?_
    clear hK hbg hA0
    generalize wd.alloc (.cells #[.slice none 0 0, .slice none 0 0] 37) = u1 at *
    have hE := Lib.hid hX0
    have HG := Lib.hid hO0
    clear hO0 hX0
    refine WalkN.one 1 (by kernel_rfl) ?_
    refine ⟨_, (by simp only [gtA, gtS, gtZ]; rfl), by rfl, fun K hK => ?_⟩
    go_simp
    refine (HNB.out u1 hE.out).mono ?_
    rintro e u2 ⟨bk, rfl, hB1, hx1⟩
    have hX1 := Ext.trans hE.out hx1
    refine hK.out _ _ hX1 ?_
    clear hK
    have HBK := Lib.hid hB1
    have HG := Lib.hid (HG.out.below hx1)
    have hE := Lib.hid hX1
    clear hx1 hX1 hB1
    ((refine WalkN.take 2 _ ?_ (by simp only [gtA, gtS, gtZ]; rfl) (by kernel_rfl) (by kernel_rfl) (by rfl) (fun W hW => ?_) ?_; rotate_left; · (go_simp; try with_reducible rfl)); simp only [Act.put, puA, puZ, puS])
    refine WalkN.one 4 (by kernel_rfl) ?_
    refine ⟨_, (by simp only [gtA, gtS, gtZ]; rfl), by rfl, fun K hK => ?_⟩
    go_simp
    refine (HWK.out u2 bk hE.out HBK.out).mono ?_
    rintro e u3 ⟨hx2, ps, fs, po, pc, fo, fc, ev, hP2, rfl, hG2⟩
    have hX2 := Ext.trans hE.out hx2
    refine hK.out _ _ hX2 ?_
    clear hK
    have HR := Lib.hid (show GrAt (fun x => x ≠ bg ∧ wd.heap.size ≤ x ∧ x < u3.heap.size) u3 ps fs (.slice po ps.length pc) (.slice fo fs.length fc) from hG2.mono fun x hx => ⟨fun e => by have := HG.out.lt; have := hx.1; omega, Nat.le_trans hE.out.size hx.1, hx.2⟩)
    have HG := Lib.hid (HG.out.below hx2)
    have HP := Lib.hid hP2
    have HBK := Lib.hid (HBK.out.ext hx2)
    have hE := Lib.hid hX2
    clear hx2 hX2 hP2 hG2
    ((refine WalkN.take 5 _ ?_ (by simp only [gtA, gtS, gtZ]; rfl) (by kernel_rfl) (by kernel_rfl) (by rfl) (fun W hW => ?_) ?_; rotate_left; · (go_simp; try with_reducible rfl)); simp only [Act.put, puA, puZ, puS])
    ((refine WalkN.take 6 _ ?_ (by simp only [gtA, gtS, gtZ]; rfl) (by kernel_rfl) (by kernel_rfl) (by rfl) (fun W hW => ?_) ?_; rotate_left; · (go_simp; try with_reducible rfl)); simp only [Act.put, puA, puZ, puS])
    ((refine WalkN.take 7 _ ?_ (by simp only [gtA, gtS, gtZ]; rfl) (by kernel_rfl) (by kernel_rfl) (by rfl) (fun W hW => ?_) ?_; rotate_left; · (go_simp; try with_reducible rfl)); simp only [Act.put, puA, puZ, puS])
    rotate_left
    all_goals
      refine WalkN.one 9 (by kernel_rfl) ?_
      refine ⟨_, (by simp only [gtA, gtS, gtZ]; rfl), by rfl, fun K hK => ?_⟩
      have hg := HG.out.cells
      have hf := HG.out.free
      go_simp
      have hS3 := (HG.out.set_to (cs' := #[.slice po ps.length pc, .slice none 0 0]) 0 (.slice po ps.length pc) rfl).set_to (cs' := #[.slice po ps.length pc, .slice fo fs.length fc]) 1 (.slice fo fs.length fc) rfl
      have hX3 : Ext wd ((u3.setCell ⟨bg, 0, none⟩ (.slice po ps.length pc)).setCell ⟨bg, 1, none⟩ (.slice fo fs.length fc)) := Below.setCell (Below.setCell hE.out (p := ⟨bg, 0, none⟩) HBG.out _) (p := ⟨bg, 1, none⟩) HBG.out _
      have hR3 := (HR.out.same (w' := ((u3.setCell ⟨bg, 0, none⟩ (.slice po ps.length pc)).setCell ⟨bg, 1, none⟩ (.slice fo fs.length fc))) fun x hx => by rw [Below.heap_setCell _ _ _ x hx.1, Below.heap_setCell _ _ _ x hx.1]).mono (T := fun x => x ≠ bg ∧ wd.heap.size ≤ x ∧ x < ((u3.setCell ⟨bg, 0, none⟩ (.slice po ps.length pc)).setCell ⟨bg, 1, none⟩ (.slice fo fs.length fc)).heap.size) fun x hx => ⟨hx.1, hx.2.1, by simpa using hx.2.2⟩
      refine hK.out _ _ hX3 ?_
      clear hK hg hf
      generalize (u3.setCell ⟨bg, 0, none⟩ (.slice po ps.length pc)).setCell ⟨bg, 1, none⟩ (.slice fo fs.length fc) = u4 at *
      ((refine WalkN.take 10 _ ?_ (by simp only [gtA, gtS, gtZ]; rfl) (by kernel_rfl) (by kernel_rfl) (by rfl) (fun W hW => ?_) ?_; rotate_left; · (go_simp; try with_reducible rfl)); simp only [Act.put, puA, puZ, puS])
      refine WalkN.done (by kernel_rfl) ?_
      exact ⟨rfl, bk, bg, po, pc, fo, fc, ps, fs, ev, rfl, HP.out, hX3, HBG.out, hS3, hR3⟩
  rintro e _ W2 ⟨rfl, bk2, bg2, po2, pc2, fo2, fc2, ps2, fs2, ev2, rfl, hP, hX, hbg, hblk, hgr⟩
  dsimp only
  rw [if_neg (by omega)] at hP
  obtain ⟨rfl, rfl, rfl⟩ := hP
  have HXE := Lib.hid (show Ext w W2 from HX4.out.trans (hxd.out.trans hX))
  have HBE := HB4.out.below (hxd.out.trans hX)
  have HG5 := HG4.out.same (w' := W2) fun x hx => (hxd.out.trans hX).block x hx.2
  have HPE := HP4.out.below (hxd.out.trans hX)
  clear hblk hgr hX hbg hxd hwd HP4 HX4 HB4 HG4
  obtain ⟨g1, q, g2, g3, g4⟩ := HG5
  obtain ⟨b1, o1, rfl, -, d0, d1, d2⟩ : ∃ b o, po = some ⟨b, o, none⟩ ∧ True ∧ W2.cell? ⟨b, o + 0 * 3, none⟩ = some (.string p0.t) ∧ W2.cell? ⟨b, o + 0 * 3 + 1, none⟩ = some (.string p0.i) ∧ W2.cell? ⟨b, o + 0 * 3 + 2, none⟩ = some (.string p0.r) := by
    obtain ⟨_, _, e, -, -, hc⟩ := Sl.rows pC_length (by decide) (show Sl _ W2 3 _ ([p0].flatMap pC) from g1)
    obtain ⟨b, o, rfl, -, hc⟩ := hc (by simp)
    cases e
    exact ⟨b, o, rfl, trivial, hc 0 (by simp) 0 _ rfl, hc 0 (by simp) 1 _ rfl, hc 0 (by simp) 2 _ rfl⟩
  obtain ⟨b2, o2, rfl, f0⟩ : ∃ b o, fo = some ⟨b, o, none⟩ ∧ W2.cell? ⟨b, o + 0 * 4, none⟩ = some (.int .i64 0) := by
    cases q with
    | nil => cases g2
    | cons x q =>
      cases q with
      | cons y q => exact absurd (congrArg List.length g2) (by simp)
      | nil =>
        obtain ⟨_, _, e, -, -, hc⟩ := Sl.rows fC_length (by decide) g4
        obtain ⟨b, o, rfl, -, hc⟩ := hc (by simp)
        cases e
        have := hc 0 (by simp) 0 _ rfl
        have hx : x.1 = FT.zero := by simpa using g2
        rw [show ([x] : List (FT × FV3))[0].1.k = 0 from by show x.1.k = 0; rw [hx]; rfl] at this
        exact ⟨b, o, rfl, this⟩
  dsimp only [p0] at d0 d1 d2
  have heq := fun W => p3_eql p0 p0 W
  simp only [decide_true] at heq
  unfold pV at heq
  dsimp only [p0] at heq
  simp only [Nat.zero_mul, Nat.add_zero] at d0 d1 d2 f0
  have e0 : ∀ W, Ext W2 W → ∀ i, W.cell? ⟨bg, i, none⟩ = (#[.slice (some ⟨b1, o1, none⟩) 1 pc, .slice (some ⟨b2, o2, none⟩) 1 fc] : Array Value)[i]? := fun W h => (HBE.below h).cells
  have e1 : ∀ W, Ext W2 W → ∀ i, W.cell? ⟨w.heap.size, i, none⟩ = (#[.string ⟨#[100, 111, 99]⟩, .string ⟨#[49]⟩, .string ⟨#[118, 105, 101, 119, 101, 114]⟩] : Array Value)[i]? := fun W h => (HPE.below h).cells
  have c0 := fun W (h : Ext W2 W) => h.cell d0
  have c1 := fun W (h : Ext W2 W) => h.cell d1
  have c2 := fun W (h : Ext W2 W) => h.cell d2
  have c3 := fun W (h : Ext W2 W) => h.cell f0
  clear g1 g2 g3 g4 HBE HPE d0 d1 d2 f0
  go_wp2_with fail
  refine region_walkN (Ext W2) (Ext.drew _) (by kernel_rfl) (by kernel_rfl) (fun _ _ d _ _ h => by cases d <;> exact h) ?_
  (refine WalkN.tk [0, 1, 2, 3, 4, 5, 6, 7, 8, 9, 10, 11, 12, 13, 14, 15, 16, 17, 18, 19, 20, 21, 22, 23, 24, 25, 26, 27, 28, 29, 30, 31, 32, 33, 34, 35, 36, 37, 38] ?_; (iterate 39 ((refine TkN.c _ ?_ (by simp only [gtA, gtS, gtZ]; rfl) (by kernel_rfl) (by kernel_rfl) (by rfl) (fun W hW => ?_) ?_; rotate_left; · (go_simp; try with_reducible rfl)); simp only [Act.put, puA, puZ, puS])); refine TkN.n ?_)
  refine WalkN.done (by kernel_rfl) ?_
  go_wp2
  go_ret
  exact ⟨rfl, Below.trans HXE.out (Below.mono (Ext.drew _) HXE.out.size)⟩
end Go.Proofs.YtjdigpfipmckhaaGreat
