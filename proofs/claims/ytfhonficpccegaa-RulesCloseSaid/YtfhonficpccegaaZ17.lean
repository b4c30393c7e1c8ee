/- The walk of the program's named. Texts in order; the walks of cmp.Compare at texts and of cmp.Or at numbers. slices.SortFunc on a row of the call's own, whatever struct its elements are: the same elements, in order. No condition: lemmas. -/
import Derived.Laws.EntriesVeiled
import Derived.Shelf.Abstract
import Derived.Sort.Walk0
import Derived.Shelf.SlSortCmp.WholeK
import Derived.Shelf.SlSortCmp.NoneTotal
import Derived.Test.YtfhonficpccegaaZ13
import Derived.Test.YtfhonficpccegaaZ1
namespace Go.Proofs.Ytfhonficpccegaa
open Go Go.RowKit Go.Maps Go.Shelf

mutual
/-- Is all that a rule names there, by a book of the relations P? -/
def RT.pnamed (P : List (R2 × RT)) (typ : ByteArray) : RT → Bool
  | .mk k a b ps => if k = 2 then (lookA P ⟨typ, a⟩).isSome else if k = 3 then (lookA P ⟨typ, a⟩).isSome && decide (0 < (whereP P b).length) else pnamedL P typ ps
def pnamedL (P : List (R2 × RT)) (typ : ByteArray) : List RT → Bool | [] => true | r :: rs => r.pnamed P typ && pnamedL P typ rs
end
theorem pnamedL_eq (P : List (R2 × RT)) (typ : ByteArray) : ∀ l : List RT, pnamedL P typ l = l.all fun r => r.pnamed P typ
  | [] => rfl
  | r :: rs => by rw [pnamedL, List.all_cons, pnamedL_eq P typ rs]
theorem RT.pnamed_eq (P : List (R2 × RT)) (typ : ByteArray) (r : RT) : r.pnamed P typ = if r.k = 2 then (lookA P ⟨typ, r.a⟩).isSome else if r.k = 3 then (lookA P ⟨typ, r.a⟩).isSome && decide (0 < (whereP P r.b).length) else r.ps.all fun r => r.pnamed P typ := by
  obtain ⟨k, a, b, ps⟩ := r
  rw [RT.pnamed, pnamedL_eq]
  rfl

set_option maxRecDepth 100000 in
set_option maxHeartbeats 2000000 in
theorem named1_any {b1 b2 b3 : Nat} {typ : ByteArray} (p : RT) (pv : Value) (X Y : Nat) (w : World) (g : Bool) (hX : Blk w X #[.map (some b1), .map (some b2), .map (some b3)] 74) (hY : Blk w Y #[.string typ] 9) (hat : RTAt (· < w.heap.size) w p pv)
    (h : Calls Try.prog 31 #[.agg #[.map (some b1), .map (some b2), .map (some b3)], .string typ, rV p pv] (w.alloc (.cells #[.int .i64 p.k, .string p.a, .string p.b, pv] 46)) fun e w' => e = .returned (.bool g) ∧ Below w.heap.size w w') :
    Calls Try.prog 62 #[rV p pv, .pointer (some ⟨X, 0, none⟩), .pointer (some ⟨Y, 0, none⟩)] w fun e w' => e = .returned (.bool (!g)) ∧ Below w.heap.size w w' := by
  have HC := Lib.hid h
  obtain ⟨ao, c, rfl, -⟩ := hat.rows
  have hb := (Blk.made w #[.int .i64 p.k, .string p.a, .string p.b, .slice ao p.ps.length c] 46).cells
  have hx := (hX.alloc (.cells #[.int .i64 p.k, .string p.a, .string p.b, .slice ao p.ps.length c] 46)).cells
  have hy := (hY.alloc (.cells #[.int .i64 p.k, .string p.a, .string p.b, .slice ao p.ps.length c] 46)).cells
  clear h hX hY hat
  unfold rV at HC ⊢
  go_enter Try.func62, Try.ntmps62
  go_wp2_with fail
  refine HC.out.mono ?_
  rintro e w2 ⟨rfl, hb2⟩
  have HB := Lib.hid hb2
  clear HC hb hx hy hb2
  go_wp2_with fail
  go_ret
  exact ⟨rfl, HB.out⟩

set_option maxRecDepth 100000 in
set_option maxHeartbeats 4000000 in
theorem pnamed_any {b1 b2 b3 : Nat} {ts : List TyS} (typ : ByteArray) (htyp : typ.size ≤ maxLen) (r : RT) : ∀ (pv : Value) (w : World), Bk w b1 b2 b3 ts → RTAt (· < w.heap.size) w r pv → r.Ok →
    Calls Try.prog 31 #[.agg #[.map (some b1), .map (some b2), .map (some b3)], .string typ, rV r pv] w fun e w' => e = .returned (.bool (r.pnamed (refsOf ts) typ)) ∧ Below w.heap.size w w' := by
  induction r using RT.ind with
  | h r ih =>
  intro pv w hbk hat hok
  obtain ⟨-, hoa, hob, hop⟩ := r.ok_iff.1 hok
  obtain ⟨k, ra, rb, ps⟩ := r
  obtain ⟨ao, c, rfl, -⟩ := hat.rows
  dsimp only [RT.k, RT.a, RT.b, RT.ps] at hoa hob hop ih
  have IH := Lib.hid ih
  have HOP := Lib.hid hop
  have HRA := Lib.hid (show ra.size ≤ maxLen from by unfold maxLen; omega)
  have HRB := Lib.hid (show rb.size ≤ maxLen from by unfold maxLen; omega)
  unfold rV
  dsimp only [RT.k, RT.a, RT.b, RT.ps]
  clear ih hop hoa hob hok
  by_cases k2 : k = 2
  · subst k2
    have HE := Lib.hid (show (RT.mk 2 ra rb ps).pnamed (refsOf ts) typ = (lookA (refsOf ts) ⟨typ, ra⟩).isSome from by rw [RT.pnamed]; rfl)
    obtain ⟨wx, hwx⟩ : ∃ x, x = w.alloc (.cells #[.map (some b1), .map (some b2), .map (some b3)] 74) := ⟨_, rfl⟩
    obtain ⟨wy, hwy⟩ : ∃ x, x = wx.alloc (.cells #[.string typ] 9) := ⟨_, rfl⟩
    obtain ⟨wz, hwz⟩ : ∃ x, x = wy.alloc (.cells #[.int .i64 2, .string ra, .string rb, .slice ao ps.length c] 46) := ⟨_, rfl⟩
    have ex : wx.heap.size = w.heap.size + 1 := by rw [hwx]; simp
    have ey : wy.heap.size = w.heap.size + 1 + 1 := by rw [hwy]; simp [ex]
    have xwx : Ext w wx := by rw [hwx]; exact Ext.alloc _ _
    have xxy : Ext wx wy := by rw [hwy]; exact Ext.alloc _ _
    have xyz : Ext wy wz := by rw [hwz]; exact Ext.alloc _ _
    have HX := Lib.hid (show Blk wz w.heap.size #[.map (some b1), .map (some b2), .map (some b3)] 74 from Blk.below (by rw [hwx]; exact Blk.made _ _ _) (xxy.trans xyz))
    have HY := Lib.hid (show Blk wz (w.heap.size + 1) #[.string typ] 9 from Blk.below (by rw [hwy, ← ex]; exact Blk.made _ _ _) xyz)
    have HZ := Lib.hid (show Blk wz (w.heap.size + 1 + 1) #[.int .i64 2, .string ra, .string rb, .slice ao ps.length c] 46 from by rw [hwz, ← ey]; exact Blk.made _ _ _)
    have XWZ := Lib.hid (show Below w.heap.size w wz from xwx.trans (xxy.trans xyz))
    have HBK := Lib.hid (hbk.up XWZ.out)
    obtain ⟨z, hlk, hzat, -, -⟩ := HBK.out.R.look ⟨typ, ra⟩ ⟨htyp, HRA.out⟩
    obtain ⟨zo, zc, hzv, -⟩ := hzat.rows
    generalize hok : (lookA (refsOf ts) ⟨typ, ra⟩).isSome = ok at *
    unfold rvV rV r2V at hlk
    dsimp only at hlk
    rw [hzv] at hlk
    have h4 : Ext wz (wz.alloc (.cells #[.int .i64 z.1.k, .string z.1.a, .string z.1.b, .slice zo z.1.ps.length zc] 46)) := Ext.alloc _ _
    have x3 := HX.out.cells
    have y3 := HY.out.cells
    have z3 := HZ.out.cells
    have x4 := (HX.out.below h4).cells
    have z4 := (HZ.out.below h4).cells
    have HB4 := Lib.hid (show Below w.heap.size w (wz.alloc (.cells #[.int .i64 z.1.k, .string z.1.a, .string z.1.b, .slice zo z.1.ps.length zc] 46)) from Ext.trans XWZ.out h4)
    have HBK4 := Lib.hid (HBK.out.up h4)
    clear hbk hzat hzv hat ex ey xwx xxy xyz h4
    subst hwz hwy hwx
    go_enter Try.func31, Try.ntmps31
    go_wp2_with fail
    go_ret
    exact ⟨by rw [HE.out]; simp, HB4.out⟩
  by_cases k3 : k = 3
  · subst k3
    have HE := Lib.hid (show (RT.mk 3 ra rb ps).pnamed (refsOf ts) typ = ((lookA (refsOf ts) ⟨typ, ra⟩).isSome && decide (0 < (whereP (refsOf ts) rb).length)) from by rw [RT.pnamed]; rfl)
    clear k2
    obtain ⟨wx, hwx⟩ : ∃ x, x = w.alloc (.cells #[.map (some b1), .map (some b2), .map (some b3)] 74) := ⟨_, rfl⟩
    obtain ⟨wy, hwy⟩ : ∃ x, x = wx.alloc (.cells #[.string typ] 9) := ⟨_, rfl⟩
    obtain ⟨wz, hwz⟩ : ∃ x, x = wy.alloc (.cells #[.int .i64 3, .string ra, .string rb, .slice ao ps.length c] 46) := ⟨_, rfl⟩
    have ex : wx.heap.size = w.heap.size + 1 := by rw [hwx]; simp
    have ey : wy.heap.size = w.heap.size + 1 + 1 := by rw [hwy]; simp [ex]
    have xwx : Ext w wx := by rw [hwx]; exact Ext.alloc _ _
    have xxy : Ext wx wy := by rw [hwy]; exact Ext.alloc _ _
    have xyz : Ext wy wz := by rw [hwz]; exact Ext.alloc _ _
    have HX := Lib.hid (show Blk wz w.heap.size #[.map (some b1), .map (some b2), .map (some b3)] 74 from Blk.below (by rw [hwx]; exact Blk.made _ _ _) (xxy.trans xyz))
    have HY := Lib.hid (show Blk wz (w.heap.size + 1) #[.string typ] 9 from Blk.below (by rw [hwy, ← ex]; exact Blk.made _ _ _) xyz)
    have HZ := Lib.hid (show Blk wz (w.heap.size + 1 + 1) #[.int .i64 3, .string ra, .string rb, .slice ao ps.length c] 46 from by rw [hwz, ← ey]; exact Blk.made _ _ _)
    have XWZ := Lib.hid (show Below w.heap.size w wz from xwx.trans (xxy.trans xyz))
    have HBK := Lib.hid (hbk.up XWZ.out)
    obtain ⟨z, hlk, hzat, -, -⟩ := HBK.out.R.look ⟨typ, ra⟩ ⟨htyp, HRA.out⟩
    obtain ⟨zo, zc, hzv, -⟩ := hzat.rows
    generalize hok : (lookA (refsOf ts) ⟨typ, ra⟩).isSome = ok at *
    unfold rvV rV r2V at hlk
    dsimp only at hlk
    rw [hzv] at hlk
    have h4 : Ext wz (wz.alloc (.cells #[.int .i64 z.1.k, .string z.1.a, .string z.1.b, .slice zo z.1.ps.length zc] 46)) := Ext.alloc _ _
    have x3 := HX.out.cells
    have y3 := HY.out.cells
    have z3 := HZ.out.cells
    have x4 := (HX.out.below h4).cells
    have z4 := (HZ.out.below h4).cells
    have HB4 := Lib.hid (show Below w.heap.size w (wz.alloc (.cells #[.int .i64 z.1.k, .string z.1.a, .string z.1.b, .slice zo z.1.ps.length zc] 46)) from Ext.trans XWZ.out h4)
    have HBK4 := Lib.hid (HBK.out.up h4)
    obtain ⟨v, hlw, hov, -⟩ := HBK4.out.W.look rb HRB.out
    obtain ⟨vo, vn, vc, rfl, hvn, -, -⟩ := hov.sl.len
    rw [txs_length, Nat.mul_one] at hvn
    subst hvn
    clear hov
    clear hbk hzat hzv hat ex ey xwx xxy xyz h4
    subst hwz hwy hwx
    cases ok with
    | false =>
      go_enter Try.func31, Try.ntmps31
      go_wp2_with fail
      go_ret
      exact ⟨by rw [HE.out]; simp, HB4.out⟩
    | true =>
      by_cases hp : 0 < (whereP (refsOf ts) rb).length
      · have hpI : (0 : Int) < ((whereP (refsOf ts) rb).length : Int) := by omega
        have HP := Lib.hid hp
        clear hp
        go_enter Try.func31, Try.ntmps31
        go_wp2_with fail
        go_ret
        exact ⟨by rw [HE.out, decide_eq_true HP.out]; simp, HB4.out⟩
      · have hpI : ¬ ((0 : Int) < ((whereP (refsOf ts) rb).length : Int)) := by omega
        have HP := Lib.hid hp
        clear hp
        go_enter Try.func31, Try.ntmps31
        go_wp2_with fail
        go_ret
        exact ⟨by rw [HE.out, decide_eq_false HP.out]; simp, HB4.out⟩
  have q2 : (k == 2) = false := by rw [beq_eq_false_iff_ne]; exact k2
  have q3 : (k == 3) = false := by rw [beq_eq_false_iff_ne]; exact k3
  have HE := Lib.hid (show (RT.mk k ra rb ps).pnamed (refsOf ts) typ = ps.all fun r => r.pnamed (refsOf ts) typ from by rw [RT.pnamed, if_neg k2, if_neg k3, pnamedL_eq])
  clear k2 k3
  obtain ⟨wx, hwx⟩ : ∃ x, x = w.alloc (.cells #[.map (some b1), .map (some b2), .map (some b3)] 74) := ⟨_, rfl⟩
  obtain ⟨wy, hwy⟩ : ∃ x, x = wx.alloc (.cells #[.string typ] 9) := ⟨_, rfl⟩
  obtain ⟨wz, hwz⟩ : ∃ x, x = wy.alloc (.cells #[.int .i64 k, .string ra, .string rb, .slice ao ps.length c] 46) := ⟨_, rfl⟩
  have ex : wx.heap.size = w.heap.size + 1 := by rw [hwx]; simp
  have ey : wy.heap.size = w.heap.size + 1 + 1 := by rw [hwy]; simp [ex]
  have xwx : Ext w wx := by rw [hwx]; exact Ext.alloc _ _
  have xxy : Ext wx wy := by rw [hwy]; exact Ext.alloc _ _
  have xyz : Ext wy wz := by rw [hwz]; exact Ext.alloc _ _
  have HX := Lib.hid (show Blk wz w.heap.size #[.map (some b1), .map (some b2), .map (some b3)] 74 from Blk.below (by rw [hwx]; exact Blk.made _ _ _) (xxy.trans xyz))
  have HY := Lib.hid (show Blk wz (w.heap.size + 1) #[.string typ] 9 from Blk.below (by rw [hwy, ← ex]; exact Blk.made _ _ _) xyz)
  have HZ := Lib.hid (show Blk wz (w.heap.size + 1 + 1) #[.int .i64 k, .string ra, .string rb, .slice ao ps.length c] 46 from by rw [hwz, ← ey]; exact Blk.made _ _ _)
  have XWZ := Lib.hid (show Below w.heap.size w wz from xwx.trans (xxy.trans xyz))
  have HBK := Lib.hid (hbk.up XWZ.out)
  obtain ⟨z, hlk, hzat, -, -⟩ := HBK.out.R.look ⟨typ, ra⟩ ⟨htyp, HRA.out⟩
  obtain ⟨zo, zc, hzv, -⟩ := hzat.rows
  generalize hok : (lookA (refsOf ts) ⟨typ, ra⟩).isSome = ok at *
  unfold rvV rV r2V at hlk
  dsimp only at hlk
  rw [hzv] at hlk
  have h4 : Ext wz (wz.alloc (.cells #[.int .i64 z.1.k, .string z.1.a, .string z.1.b, .slice zo z.1.ps.length zc] 46)) := Ext.alloc _ _
  have x3 := HX.out.cells
  have y3 := HY.out.cells
  have z3 := HZ.out.cells
  have x4 := (HX.out.below h4).cells
  have z4 := (HZ.out.below h4).cells
  have HB4 := Lib.hid (show Below w.heap.size w (wz.alloc (.cells #[.int .i64 z.1.k, .string z.1.a, .string z.1.b, .slice zo z.1.ps.length zc] 46)) from Ext.trans XWZ.out h4)
  have HBK4 := Lib.hid (HBK.out.up h4)
  have hmf : ∀ (fn : Fn) (first cap : Array Value) (W : World), (Instr.makeFunc fn first cap).run Try.prog W = .ok (.func fn first cap) W := fun _ _ _ _ => rfl
  have HCF := Lib.hid (containsRF_any _ ps k ra rb _ 62 #[.pointer (some ⟨w.heap.size, 0, none⟩), .pointer (some ⟨w.heap.size + 1, 0, none⟩)] (enters_of Try.func62 (by kernel_rfl) rfl) (fun p => !p.pnamed (refsOf ts) typ) (hat.up HB4.out) (fun i hi W pvi hW hati => named1_any ps[i] pvi _ _ W _ ((HX.out.below h4).below hW) ((HY.out.below h4).below hW) hati
    ((IH.out ps[i] (List.getElem_mem hi) pvi _ ((HBK4.out.up hW).up (Ext.alloc _ _)) (hati.up (Ext.alloc _ _)) (HOP.out _ (List.getElem_mem hi))).mono fun e w' hr => ⟨hr.1, Ext.trans (Ext.alloc _ _) hr.2⟩)))
  clear hbk hzat hzv hat ex ey xwx xxy xyz h4
  subst hwz hwy hwx
  go_enter Try.func31, Try.ntmps31
  go_wp2_with fail
  refine HCF.out.mono ?_
  rintro e w5 ⟨rfl, hb5⟩
  have HBE := Lib.hid (HB4.out.trans (hb5.mono HB4.out.size))
  clear HCF hb5 x3 y3 z3 x4 z4 hlk
  go_wp2_with fail
  go_ret
  exact ⟨by rw [HE.out, List.not_any_eq_all_not]; simp, HBE.out⟩

end Go.Proofs.Ytfhonficpccegaa
namespace Go.Proofs.Ytfhonficpccegaa
open Go Go.RowKit

/-- Is a text less than another? -/
def ltS (a b : ByteArray) : Bool := Op.bytesLess a.toList b.toList
theorem ltS_iff (a b : ByteArray) : ltS a b = decide (a.data.toList < b.data.toList) := by
  unfold ltS
  rw [ByteArray.toList_eq, ByteArray.toList_eq]
  exact bytesLess_eq _ _
theorem ltS_irr (a : ByteArray) : ltS a a = false := by
  rw [ltS_iff]; simp [List.lt_irrefl]
theorem ltS_trans {a b c : ByteArray} (h : ltS a b = true) (k : ltS b c = true) : ltS a c = true := by
  rw [ltS_iff] at *
  simp only [decide_eq_true_eq] at *
  exact List.lt_trans h k
theorem ltS_total {a b : ByteArray} (h : ltS a b = false) (hne : a ≠ b) : ltS b a = true := by
  rw [ltS_iff] at *
  simp only [decide_eq_true_eq, decide_eq_false_iff_not] at *
  have h1 : b.data.toList ≤ a.data.toList := List.not_lt.1 h
  rcases List.le_iff_lt_or_eq.1 h1 with h2 | h2
  · exact h2
  · exact absurd (ByteArray.ext (by rw [← Array.toList_inj]; exact h2.symm)) hne
theorem ba_beq {a b : ByteArray} (h : a ≠ b) : (a.data.toList == b.data.toList) = false := by
  rw [beq_eq_false_iff_ne]
  exact fun e => h (ByteArray.ext (by rw [← Array.toList_inj]; exact e))

def cmpS (a b : ByteArray) : Int := if ltS a b then -1 else if a = b then 0 else 1
theorem cmpS_zero (a b : ByteArray) : cmpS a b = 0 ↔ a = b := by
  unfold cmpS
  by_cases h : a = b
  · subst h; simp [ltS_irr]
  · cases ltS a b <;> simp [h]
theorem cmpS_neg (a b : ByteArray) : cmpS a b < 0 ↔ ltS a b = true := by
  unfold cmpS
  cases h : ltS a b with
  | true => simp
  | false => by_cases e : a = b <;> simp [e]

set_option maxHeartbeats 400000 in
theorem cmpS_any (a b : ByteArray) (w : World) : Calls Try.prog 88 #[.string a, .string b] w fun e w' => e = .returned (.int .i64 (cmpS a b)) ∧ w = w' := by
  by_cases hl : ltS a b = true
  · have HC := Lib.hid (show cmpS a b = -1 from by simp [cmpS, hl])
    unfold ltS at hl
    go_enter Try.func88, Try.ntmps88
    go_wp2
    go_ret
    exact ⟨by rw [HC.out]; rfl, rfl⟩
  · have hl : ltS a b = false := by simpa using hl
    by_cases he : a = b
    · subst he
      have HC := Lib.hid (show cmpS a a = 0 from by simp [cmpS, hl])
      have h1 : Op.bytesLess a.toList a.toList = false := hl
      clear hl
      go_enter Try.func88, Try.ntmps88
      go_wp2
      go_ret
      exact ⟨by rw [HC.out]; rfl, rfl⟩
    · have HC := Lib.hid (show cmpS a b = 1 from by simp [cmpS, hl, he])
      have h1 : Op.bytesLess a.toList b.toList = false := hl
      have h2 := ba_beq he
      rw [← ByteArray.toList_eq, ← ByteArray.toList_eq] at h2
      clear hl he
      go_enter Try.func88, Try.ntmps88
      go_wp2
      go_ret
      exact ⟨by rw [HC.out]; rfl, rfl⟩

/-- The first that is not 0. -/
def orL : List Int → Int
  | [] => 0
  | a :: l => if a = 0 then orL l else a
theorem orL_drop {l : List Int} : ∀ {i : Nat}, (∀ j (hj : j < l.length), j < i → l[j] = 0) → orL l = orL (l.drop i) := by
  induction l with
  | nil => intro i _; simp [orL]
  | cons a l ih =>
    intro i h
    cases i with
    | zero => rfl
    | succ i =>
      have h0 := h 0 (by simp) (by omega)
      simp only [List.getElem_cons_zero] at h0
      rw [orL, if_pos h0, List.drop_succ_cons]
      refine ih fun j hj hji => ?_
      have h1 := h (j + 1) (by simpa using hj) (by omega)
      rwa [List.getElem_cons_succ] at h1

/-- Numbers as cells. -/
def icL (l : List Int) : List Value := l.map fun n => .int .i64 n

set_option maxRecDepth 100000 in
set_option maxHeartbeats 800000 in
theorem orL_any (v : Value) (l : List Int) (w : World) (S : Nat → Prop) (h : Sl S w 1 v (icL l)) :
    Calls Try.prog 87 #[v] w fun e w' => e = .returned (.int .i64 (orL l)) ∧ w = w' := by
  obtain ⟨ao, n, c, rfl, h1, hnc, hcm, _, hc⟩ := h
  have hn : l.length = n := by simpa [icL] using h1
  subst hn
  have hcm' : c ≤ 9223372036854775807 := by unfold maxLen at hcm; omega
  have HC := Lib.hid hc
  clear hc h1 hcm
  go_enter Try.func87, Try.ntmps87
  go_wp2
  go_loop [8] (fun ii => ∃ i : Nat, i ≤ l.length ∧ ii = .int .i64 i ∧ ∀ j (hj : j < l.length), j < i → l[j] = 0) (fun ii => l.length - (intOf ii).toNat)
  case atStart => exact ⟨0, by omega, rfl, fun _ _ h => absurd h (by omega)⟩
  case round =>
    obtain ⟨i, hi, rfl, hall⟩ := hrel
    have HALL := Lib.hid hall
    clear hall
    by_cases hlt : i < l.length
    · obtain ⟨b, off, rfl, -, hcc⟩ := HC.out (by intro e; have := congrArg List.length e; simp [icL] at this; subst this; simp at hlt)
      have hci := hcc i (.int .i64 l[i]) (by simp [icL, hlt])
      have HD := Lib.hid (show orL l = orL (l[i] :: l.drop (i + 1)) from by rw [orL_drop HALL.out, List.drop_eq_getElem_cons hlt])
      have HN := Lib.hid (fun h => upto_succ (p := fun j hj => l[j] = 0) HALL.out hlt h)
      clear hcc
      generalize l[i] = a at *
      by_cases ha : a = 0
      · subst ha
        have HN2 := Lib.hid (HN.out rfl)
        clear HN
        go_wp2
        go_round
        case rel => exact ⟨i + 1, by omega, by go_num, HN2.out⟩
        case measure => simp [intOf]; omega
      · have HV := Lib.hid (show orL l = a from by rw [HD.out, orL, if_neg ha])
        have ha2 : (a != 0) = true := by simpa using ha
        clear ha
        go_wp2
        go_ret
        exact ⟨by rw [HV.out]; rfl, rfl⟩
    · obtain rfl : i = l.length := by omega
      have HV := Lib.hid (show orL l = 0 from by rw [orL_drop HALL.out, List.drop_length]; rfl)
      go_wp2
      go_ret
      exact ⟨by rw [HV.out]; rfl, rfl⟩

end Go.Proofs.Ytfhonficpccegaa
namespace Go.Proofs.Ytfhonficpccegaa
open Go Go.RowKit Go.Sort Go.Shelf

theorem flatK_list {α : Type} [Inhabited α] {enc : α → List Value} {k : Nat} (hk : ∀ x, (enc x).length = k) (hpos : 0 < k) (d : Array α) : (flatK enc k d).toList = d.toList.flatMap enc := by
  apply List.ext_getElem?
  intro t
  by_cases ht : t < d.size * k
  · have h1 : t / k < d.size := (Nat.div_lt_iff_lt_mul hpos).2 ht
    have h2 : t % k < k := Nat.mod_lt _ hpos
    have h3 : t = t / k * k + t % k := by rw [Nat.mul_comm]; exact (Nat.div_add_mod t k).symm
    have e1 : (flatK enc k d).toList[t]? = some (flatK enc k d)[t]! := by
      rw [getElem!_pos _ t (by simpa using ht)]
      simp [ht]
    rw [e1, get_flatK enc k d t ht]
    conv => rhs; rw [h3]
    rw [flat_get hk d.toList (t / k) (by simpa using h1) (t % k) h2, getElem!_pos d (t / k) h1, getElem!_pos _ (t % k) (by rw [hk]; exact h2), List.getElem?_eq_getElem (by rw [hk]; exact h2)]
    simp
  · rw [List.getElem?_eq_none (by simp; omega), List.getElem?_eq_none (by rw [flat_length hk]; simp; omega)]

theorem sort_own {P : Program} {ρ : Ren} (L : SlLaysF0.n6 P ρ) {α : Type} [Inhabited α] (enc : α → List Value) (k : Nat) (hk : ∀ x, (enc x).length = k) (hpos : 0 < k) (h1 : ∀ x, ∀ v ∈ enc x, v.oneCell' = true)
    (aE : ∀ w, (isAgg (ρ.t 24)).run P w = .ok true w) (zE : ∀ w, (Go.sizeOf (ρ.t 24)).run P w = .ok k w) (cf : α → α → Int) (hO : SWO (ltOf cf)) (g : Nat) (cb : Array Value)
    (eg : ∀ args w, (callFunc g args).run P w = .ok (.enter g args) w) (hcmp : ∀ (W : World) x y, Calls P g (#[.agg (enc x).toArray, .agg (enc y).toArray] ++ cb) W fun e w' => e = .returned (.int .i64 (cf x y)) ∧ Gr W w')
    {w : World} {B : Nat} {T : TypeId} {v : Value} {l : List α} (h : Own w B T k v (l.flatMap enc)) (hl : l.length < 4611686018427387904) :
    Calls P (ρ.f 6) #[v, .func (.func g) #[] cb] w fun e w' => e = .returned (.tuple #[]) ∧ ∃ l' : List α, l'.Perm l ∧ (l'.Pairwise fun a b => ltOf cf b a = false) ∧ Own w' B T k v (l'.flatMap enc) ∧ Kept (fun b => b < w.heap.size ∧ v.ownBlock ≠ some b) w w' := by
  obtain ⟨n, hlen, hrow⟩ := h
  rw [flat_length hk] at hlen
  obtain rfl : l.length = n := Nat.eq_of_mul_eq_mul_right hpos hlen
  by_cases h0 : l = []
  · subst h0
    have hv : ∃ p c, v = .slice p 0 c := by
      rcases hrow with ⟨rfl, _⟩ | ⟨b, cap, cur, rfl, _⟩
      · exact ⟨_, _, rfl⟩
      · exact ⟨_, _, rfl⟩
    have hown : Own w B T k v (([] : List α).flatMap enc) := ⟨0, by simp, hrow⟩
    obtain ⟨p, c, rfl⟩ := hv
    refine (AnyF.slices_SortFunc_none L p c _ w).mono ?_
    rintro e w' ⟨rfl, rfl⟩
    exact ⟨rfl, [], List.Perm.refl _, List.Pairwise.nil, hown, Kept.refl _ _⟩
  · have hl0 : 0 < l.length := List.length_pos_iff.2 h0
    rcases hrow with ⟨rfl, hx⟩ | ⟨b, cap, cur, rfl, hB, hb, hnc, hcm, hcs, htake⟩
    · exfalso
      omega
    · have hblt : b < w.heap.size := (Array.getElem?_eq_some_iff.1 hb).1
      have hnk : l.length * k ≤ cur.size := by rw [hcs]; exact Nat.mul_le_mul_right k hnc
      have hcur : ∀ j, j < l.length * k → cur[j]? = some (flatK enc k l.toArray)[j]! := fun j hj => by
        have e1 : (cur.toList.take (l.length * k))[j]? = cur[j]? := by rw [List.getElem?_take, if_pos hj]; simp
        rw [← e1, htake]
        have e2 := flatK_list hk hpos l.toArray
        simp only at e2
        rw [← e2, getElem!_pos _ j (by simpa using hj)]
        simp [hj]
      have hH : HoldsK enc k w b 0 l.toArray := fun j hj => by
        rw [size_flatK] at hj
        have hj' : j < l.length * k := by simpa using hj
        refine ⟨?_, frozen_of_row w b (0 + j) cur T hb⟩
        rw [cell_of_row w b (0 + j) cur T (0, 0) hb, Nat.zero_add]
        exact hcur j hj'
      have hcl : CmpLays P g cb enc k cf b 0 l.toArray.size w := fun m os dk _ x y => (hcmp _ x y).mono fun _ _ ⟨he, hg⟩ => ⟨he, hg⟩
      have hc := AnyQ.slices_SortFunc L k aE zE enc hk h1 cf hO g cb b 0 cap l.toArray w eg hcl hH hblt (by simpa using hl)
      simp only [List.size_toArray] at hc
      refine hc.mono ?_
      rintro e w' ⟨rfl, d', m, os, hp, hs, rfl⟩
      obtain ⟨hp1, _, hp2⟩ := hp
      have hp1' : d'.size = l.length := by simpa using hp1
      have hperm : d'.toList.Perm l := by
        have e1 : (d'.extract 0 l.length).toList = d'.toList := by rw [← hp1']; simp
        have e2 : (l.toArray.extract 0 l.length).toList = l := by simp
        rw [e1, e2] at hp2
        exact hp2
      refine ⟨rfl, d'.toList, hperm, ?_, ⟨d'.toList.length, ?_, .inr ⟨b, cap, putCells id 0 (flatK enc k d') cur, ?_, hB, ?_, ?_, hcm, ?_, ?_⟩⟩, ?_⟩
      · refine List.pairwise_iff_getElem.2 fun i j hi hj hij => ?_
        have hi' : i < d'.size := by simpa using hi
        have hj' : j < d'.size := by simpa using hj
        have := hs i j (Nat.zero_le _) hij (by omega)
        rwa [getElem!_pos d' j hj', getElem!_pos d' i hi'] at this
      · rw [flat_length hk]
      · simp [hp1']
      · simp only [sortWorldK, putRowK, putRow, mapBlock, grow, heap_ahead]
        rw [Array.getElem?_append_left (by simpa using hblt), Array.getElem?_modify, if_pos rfl, hb]
        rfl
      · simp [hp1', hnc]
      · simp [putCells, hcs]
      · rw [show d'.toList.length * k = (flatK enc k d').size from by simp]
        rw [← flatK_list hk hpos d']
        apply List.ext_getElem?
        intro t
        rw [List.getElem?_take]
        split
        · rename_i ht
          have ht' : t < d'.size * k := by simpa using ht
          have htc : t < cur.size := by rw [hp1'] at ht'; omega
          simp only [putCells, Array.getElem?_toList, Array.getElem?_mapIdx]
          rw [Array.getElem?_eq_getElem htc]
          simp only [Option.map_some, Nat.zero_le, true_and, Nat.zero_add, Nat.sub_zero, id]
          rw [if_pos ht, getElem!_pos _ t ht, Array.getElem?_eq_getElem ht]
        · rename_i ht
          rw [List.getElem?_eq_none (by simpa using ht)]
      · refine ⟨rfl, rfl, rfl, by simp [sortWorldK, putRowK, grow], fun c hc => ?_⟩
        have hne : c ≠ b := fun e => hc.2 (by subst e; rfl)
        simp only [sortWorldK, putRowK, putRow, mapBlock, grow, heap_ahead]
        rw [Array.getElem?_append_left (by simpa using hc.1), Array.getElem?_modify, if_neg (Ne.symm hne)]

end Go.Proofs.Ytfhonficpccegaa
