/- The walk of the program's named. References in order; slices.SortFunc at references. Ranges over a map held as pairs, inside a fence. What holds of any type. maps.Keys of a set of references. slices.AppendSeq at references, against whatever iterator. What holds of any type. slices.Collect and slices.SortedFunc of a set of references. No condition: lemmas. -/
import Derived.Laws.EntriesVeiled
import Derived.Shelf.Abstract
import Derived.Sort.MapsRangeIn
import Derived.RangeFuncGives
import Derived.RangeFuncNested
import Derived.WalkKit
import Derived.TacticsInMore
import Derived.RegionIn
import Derived.LoopNIn
import Derived.LoopIn
import Derived.Sort.KeysCollected
import Derived.RangeFuncLeaves
import Derived.OwnWalkIn
import Derived.Test.YtipddhcfcehcaaaZ17
import Derived.Test.YtipddhcfcehcaaaZ4
import Derived.Test.YtipddhcfcehcaaaZ3
import Derived.Test.YtipddhcfcehcaaaZ13
import Derived.Test.YtipddhcfcehcaaaZ14
namespace Go.Proofs.Ytipddhcfcehcaaa
open Go Go.RowKit Go.Maps Go.Shelf

mutual
/-- Is all that a rule names there, by a book of the relations P? -/
def RT.pnamed (P : List (R2 × RT)) (typ : ByteArray) : RT → Bool
  | .mk k a b ps => if k = 2 then (lookA P ⟨typ, a⟩).isSome else if k = 3 then (lookA P ⟨typ, a⟩).isSome && decide (0 < (whereP P b).length) else pnamedL P typ ps
def pnamedL (P : List (R2 × RT)) (typ : ByteArray) : List RT → Bool | [] => true | r :: rs => r.pnamed P typ && pnamedL P typ rs
end
theorem pnamedL_eq (P : List (R2 × RT)) (typ : ByteArray) : ∀ l : List RT, pnamedL P typ l = l.all fun r => r.pnamed P typ
  | [] => rfl
  | r :: rs => by rw [pnamedL, List.all_cons, pnamedL_eq P typ rs]
theorem RT.pnamed_eq (P : List (R2 × RT)) (typ : ByteArray) (r : RT) : r.pnamed P typ = if r.k = 2 then (lookA P ⟨typ, r.a⟩).isSome else if r.k = 3 then (lookA P ⟨typ, r.a⟩).isSome && decide (0 < (whereP P r.b).length) else r.ps.all fun r => r.pnamed P typ := by
  obtain ⟨k, a, b, ps⟩ := r
  rw [RT.pnamed, pnamedL_eq]
  rfl

set_option maxRecDepth 100000 in
set_option maxHeartbeats 2000000 in
theorem named1_any {b1 b2 b3 : Nat} {typ : ByteArray} (p : RT) (pv : Value) (X Y : Nat) (w : World) (g : Bool) (hX : Blk w X #[.map (some b1), .map (some b2), .map (some b3)] 117) (hY : Blk w Y #[.string typ] 9) (hat : RTAt (· < w.heap.size) w p pv)
    (h : Calls Try.prog 84 #[.agg #[.map (some b1), .map (some b2), .map (some b3)], .string typ, rV p pv] (w.alloc (.cells #[.int .i64 p.k, .string p.a, .string p.b, pv] 72)) fun e w' => e = .returned (.bool g) ∧ Below w.heap.size w w') :
    Calls Try.prog 102 #[rV p pv, .pointer (some ⟨X, 0, none⟩), .pointer (some ⟨Y, 0, none⟩)] w fun e w' => e = .returned (.bool (!g)) ∧ Below w.heap.size w w' := by
  have HC := Lib.hid h
  obtain ⟨ao, c, rfl, -⟩ := hat.rows
  have hb := (Blk.made w #[.int .i64 p.k, .string p.a, .string p.b, .slice ao p.ps.length c] 72).cells
  have hx := (hX.alloc (.cells #[.int .i64 p.k, .string p.a, .string p.b, .slice ao p.ps.length c] 72)).cells
  have hy := (hY.alloc (.cells #[.int .i64 p.k, .string p.a, .string p.b, .slice ao p.ps.length c] 72)).cells
  clear h hX hY hat
  unfold rV at HC ⊢
  go_enter Try.func102, Try.ntmps102
  go_wp2_with fail
  refine HC.out.mono ?_
  rintro e w2 ⟨rfl, hb2⟩
  have HB := Lib.hid hb2
  clear HC hb hx hy hb2
  go_wp2_with fail
  go_ret
  exact ⟨rfl, HB.out⟩

set_option maxRecDepth 100000 in
set_option maxHeartbeats 4000000 in
theorem pnamed_any {b1 b2 b3 : Nat} {ts : List TyS} (typ : ByteArray) (htyp : typ.size ≤ maxLen) (r : RT) : ∀ (pv : Value) (w : World), Bk w b1 b2 b3 ts → RTAt (· < w.heap.size) w r pv → r.Ok →
    Calls Try.prog 84 #[.agg #[.map (some b1), .map (some b2), .map (some b3)], .string typ, rV r pv] w fun e w' => e = .returned (.bool (r.pnamed (refsOf ts) typ)) ∧ Below w.heap.size w w' := by
  induction r using RT.ind with
  | h r ih =>
  intro pv w hbk hat hok
  obtain ⟨-, hoa, hob, hop⟩ := r.ok_iff.1 hok
  obtain ⟨k, ra, rb, ps⟩ := r
  obtain ⟨ao, c, rfl, -⟩ := hat.rows
  dsimp only [RT.k, RT.a, RT.b, RT.ps] at hoa hob hop ih
  have IH := Lib.hid ih
  have HOP := Lib.hid hop
  have HRA := Lib.hid (show ra.size ≤ maxLen from by unfold maxLen; omega)
  have HRB := Lib.hid (show rb.size ≤ maxLen from by unfold maxLen; omega)
  unfold rV
  dsimp only [RT.k, RT.a, RT.b, RT.ps]
  clear ih hop hoa hob hok
  by_cases k2 : k = 2
  · subst k2
    have HE := Lib.hid (show (RT.mk 2 ra rb ps).pnamed (refsOf ts) typ = (lookA (refsOf ts) ⟨typ, ra⟩).isSome from by rw [RT.pnamed]; rfl)
    obtain ⟨wx, hwx⟩ : ∃ x, x = w.alloc (.cells #[.map (some b1), .map (some b2), .map (some b3)] 117) := ⟨_, rfl⟩
    obtain ⟨wy, hwy⟩ : ∃ x, x = wx.alloc (.cells #[.string typ] 9) := ⟨_, rfl⟩
    obtain ⟨wz, hwz⟩ : ∃ x, x = wy.alloc (.cells #[.int .i64 2, .string ra, .string rb, .slice ao ps.length c] 72) := ⟨_, rfl⟩
    have ex : wx.heap.size = w.heap.size + 1 := by rw [hwx]; simp
    have ey : wy.heap.size = w.heap.size + 1 + 1 := by rw [hwy]; simp [ex]
    have xwx : Ext w wx := by rw [hwx]; exact Ext.alloc _ _
    have xxy : Ext wx wy := by rw [hwy]; exact Ext.alloc _ _
    have xyz : Ext wy wz := by rw [hwz]; exact Ext.alloc _ _
    have HX := Lib.hid (show Blk wz w.heap.size #[.map (some b1), .map (some b2), .map (some b3)] 117 from Blk.below (by rw [hwx]; exact Blk.made _ _ _) (xxy.trans xyz))
    have HY := Lib.hid (show Blk wz (w.heap.size + 1) #[.string typ] 9 from Blk.below (by rw [hwy, ← ex]; exact Blk.made _ _ _) xyz)
    have HZ := Lib.hid (show Blk wz (w.heap.size + 1 + 1) #[.int .i64 2, .string ra, .string rb, .slice ao ps.length c] 72 from by rw [hwz, ← ey]; exact Blk.made _ _ _)
    have XWZ := Lib.hid (show Below w.heap.size w wz from xwx.trans (xxy.trans xyz))
    have HBK := Lib.hid (hbk.up XWZ.out)
    obtain ⟨z, hlk, hzat, -, -⟩ := HBK.out.R.look ⟨typ, ra⟩ ⟨htyp, HRA.out⟩
    obtain ⟨zo, zc, hzv, -⟩ := hzat.rows
    generalize hok : (lookA (refsOf ts) ⟨typ, ra⟩).isSome = ok at *
    unfold rvV rV r2V at hlk
    dsimp only at hlk
    rw [hzv] at hlk
    have h4 : Ext wz (wz.alloc (.cells #[.int .i64 z.1.k, .string z.1.a, .string z.1.b, .slice zo z.1.ps.length zc] 72)) := Ext.alloc _ _
    have x3 := HX.out.cells
    have y3 := HY.out.cells
    have z3 := HZ.out.cells
    have x4 := (HX.out.below h4).cells
    have z4 := (HZ.out.below h4).cells
    have HB4 := Lib.hid (show Below w.heap.size w (wz.alloc (.cells #[.int .i64 z.1.k, .string z.1.a, .string z.1.b, .slice zo z.1.ps.length zc] 72)) from Ext.trans XWZ.out h4)
    have HBK4 := Lib.hid (HBK.out.up h4)
    clear hbk hzat hzv hat ex ey xwx xxy xyz h4
    subst hwz hwy hwx
    go_enter Try.func84, Try.ntmps84
    go_wp2_with fail
    go_ret
    exact ⟨by rw [HE.out]; simp, HB4.out⟩
  by_cases k3 : k = 3
  · subst k3
    have HE := Lib.hid (show (RT.mk 3 ra rb ps).pnamed (refsOf ts) typ = ((lookA (refsOf ts) ⟨typ, ra⟩).isSome && decide (0 < (whereP (refsOf ts) rb).length)) from by rw [RT.pnamed]; rfl)
    clear k2
    obtain ⟨wx, hwx⟩ : ∃ x, x = w.alloc (.cells #[.map (some b1), .map (some b2), .map (some b3)] 117) := ⟨_, rfl⟩
    obtain ⟨wy, hwy⟩ : ∃ x, x = wx.alloc (.cells #[.string typ] 9) := ⟨_, rfl⟩
    obtain ⟨wz, hwz⟩ : ∃ x, x = wy.alloc (.cells #[.int .i64 3, .string ra, .string rb, .slice ao ps.length c] 72) := ⟨_, rfl⟩
    have ex : wx.heap.size = w.heap.size + 1 := by rw [hwx]; simp
    have ey : wy.heap.size = w.heap.size + 1 + 1 := by rw [hwy]; simp [ex]
    have xwx : Ext w wx := by rw [hwx]; exact Ext.alloc _ _
    have xxy : Ext wx wy := by rw [hwy]; exact Ext.alloc _ _
    have xyz : Ext wy wz := by rw [hwz]; exact Ext.alloc _ _
    have HX := Lib.hid (show Blk wz w.heap.size #[.map (some b1), .map (some b2), .map (some b3)] 117 from Blk.below (by rw [hwx]; exact Blk.made _ _ _) (xxy.trans xyz))
    have HY := Lib.hid (show Blk wz (w.heap.size + 1) #[.string typ] 9 from Blk.below (by rw [hwy, ← ex]; exact Blk.made _ _ _) xyz)
    have HZ := Lib.hid (show Blk wz (w.heap.size + 1 + 1) #[.int .i64 3, .string ra, .string rb, .slice ao ps.length c] 72 from by rw [hwz, ← ey]; exact Blk.made _ _ _)
    have XWZ := Lib.hid (show Below w.heap.size w wz from xwx.trans (xxy.trans xyz))
    have HBK := Lib.hid (hbk.up XWZ.out)
    obtain ⟨z, hlk, hzat, -, -⟩ := HBK.out.R.look ⟨typ, ra⟩ ⟨htyp, HRA.out⟩
    obtain ⟨zo, zc, hzv, -⟩ := hzat.rows
    generalize hok : (lookA (refsOf ts) ⟨typ, ra⟩).isSome = ok at *
    unfold rvV rV r2V at hlk
    dsimp only at hlk
    rw [hzv] at hlk
    have h4 : Ext wz (wz.alloc (.cells #[.int .i64 z.1.k, .string z.1.a, .string z.1.b, .slice zo z.1.ps.length zc] 72)) := Ext.alloc _ _
    have x3 := HX.out.cells
    have y3 := HY.out.cells
    have z3 := HZ.out.cells
    have x4 := (HX.out.below h4).cells
    have z4 := (HZ.out.below h4).cells
    have HB4 := Lib.hid (show Below w.heap.size w (wz.alloc (.cells #[.int .i64 z.1.k, .string z.1.a, .string z.1.b, .slice zo z.1.ps.length zc] 72)) from Ext.trans XWZ.out h4)
    have HBK4 := Lib.hid (HBK.out.up h4)
    obtain ⟨v, hlw, hov, -⟩ := HBK4.out.W.look rb HRB.out
    obtain ⟨vo, vn, vc, rfl, hvn, -, -⟩ := hov.sl.len
    rw [txs_length, Nat.mul_one] at hvn
    subst hvn
    clear hov
    clear hbk hzat hzv hat ex ey xwx xxy xyz h4
    subst hwz hwy hwx
    cases ok with
    | false =>
      go_enter Try.func84, Try.ntmps84
      go_wp2_with fail
      go_ret
      exact ⟨by rw [HE.out]; simp, HB4.out⟩
    | true =>
      by_cases hp : 0 < (whereP (refsOf ts) rb).length
      · have hpI : (0 : Int) < ((whereP (refsOf ts) rb).length : Int) := by omega
        have HP := Lib.hid hp
        clear hp
        go_enter Try.func84, Try.ntmps84
        go_wp2_with fail
        go_ret
        exact ⟨by rw [HE.out, decide_eq_true HP.out]; simp, HB4.out⟩
      · have hpI : ¬ ((0 : Int) < ((whereP (refsOf ts) rb).length : Int)) := by omega
        have HP := Lib.hid hp
        clear hp
        go_enter Try.func84, Try.ntmps84
        go_wp2_with fail
        go_ret
        exact ⟨by rw [HE.out, decide_eq_false HP.out]; simp, HB4.out⟩
  have q2 : (k == 2) = false := by rw [beq_eq_false_iff_ne]; exact k2
  have q3 : (k == 3) = false := by rw [beq_eq_false_iff_ne]; exact k3
  have HE := Lib.hid (show (RT.mk k ra rb ps).pnamed (refsOf ts) typ = ps.all fun r => r.pnamed (refsOf ts) typ from by rw [RT.pnamed, if_neg k2, if_neg k3, pnamedL_eq])
  clear k2 k3
  obtain ⟨wx, hwx⟩ : ∃ x, x = w.alloc (.cells #[.map (some b1), .map (some b2), .map (some b3)] 117) := ⟨_, rfl⟩
  obtain ⟨wy, hwy⟩ : ∃ x, x = wx.alloc (.cells #[.string typ] 9) := ⟨_, rfl⟩
  obtain ⟨wz, hwz⟩ : ∃ x, x = wy.alloc (.cells #[.int .i64 k, .string ra, .string rb, .slice ao ps.length c] 72) := ⟨_, rfl⟩
  have ex : wx.heap.size = w.heap.size + 1 := by rw [hwx]; simp
  have ey : wy.heap.size = w.heap.size + 1 + 1 := by rw [hwy]; simp [ex]
  have xwx : Ext w wx := by rw [hwx]; exact Ext.alloc _ _
  have xxy : Ext wx wy := by rw [hwy]; exact Ext.alloc _ _
  have xyz : Ext wy wz := by rw [hwz]; exact Ext.alloc _ _
  have HX := Lib.hid (show Blk wz w.heap.size #[.map (some b1), .map (some b2), .map (some b3)] 117 from Blk.below (by rw [hwx]; exact Blk.made _ _ _) (xxy.trans xyz))
  have HY := Lib.hid (show Blk wz (w.heap.size + 1) #[.string typ] 9 from Blk.below (by rw [hwy, ← ex]; exact Blk.made _ _ _) xyz)
  have HZ := Lib.hid (show Blk wz (w.heap.size + 1 + 1) #[.int .i64 k, .string ra, .string rb, .slice ao ps.length c] 72 from by rw [hwz, ← ey]; exact Blk.made _ _ _)
  have XWZ := Lib.hid (show Below w.heap.size w wz from xwx.trans (xxy.trans xyz))
  have HBK := Lib.hid (hbk.up XWZ.out)
  obtain ⟨z, hlk, hzat, -, -⟩ := HBK.out.R.look ⟨typ, ra⟩ ⟨htyp, HRA.out⟩
  obtain ⟨zo, zc, hzv, -⟩ := hzat.rows
  generalize hok : (lookA (refsOf ts) ⟨typ, ra⟩).isSome = ok at *
  unfold rvV rV r2V at hlk
  dsimp only at hlk
  rw [hzv] at hlk
  have h4 : Ext wz (wz.alloc (.cells #[.int .i64 z.1.k, .string z.1.a, .string z.1.b, .slice zo z.1.ps.length zc] 72)) := Ext.alloc _ _
  have x3 := HX.out.cells
  have y3 := HY.out.cells
  have z3 := HZ.out.cells
  have x4 := (HX.out.below h4).cells
  have z4 := (HZ.out.below h4).cells
  have HB4 := Lib.hid (show Below w.heap.size w (wz.alloc (.cells #[.int .i64 z.1.k, .string z.1.a, .string z.1.b, .slice zo z.1.ps.length zc] 72)) from Ext.trans XWZ.out h4)
  have HBK4 := Lib.hid (HBK.out.up h4)
  have hmf : ∀ (fn : Fn) (first cap : Array Value) (W : World), (Instr.makeFunc fn first cap).run Try.prog W = .ok (.func fn first cap) W := fun _ _ _ _ => rfl
  have HCF := Lib.hid (containsRF_any _ ps k ra rb _ 102 #[.pointer (some ⟨w.heap.size, 0, none⟩), .pointer (some ⟨w.heap.size + 1, 0, none⟩)] (enters_of Try.func102 (by kernel_rfl) rfl) (fun p => !p.pnamed (refsOf ts) typ) (hat.up HB4.out) (fun i hi W pvi hW hati => named1_any ps[i] pvi _ _ W _ ((HX.out.below h4).below hW) ((HY.out.below h4).below hW) hati
    ((IH.out ps[i] (List.getElem_mem hi) pvi _ ((HBK4.out.up hW).up (Ext.alloc _ _)) (hati.up (Ext.alloc _ _)) (HOP.out _ (List.getElem_mem hi))).mono fun e w' hr => ⟨hr.1, Ext.trans (Ext.alloc _ _) hr.2⟩)))
  clear hbk hzat hzv hat ex ey xwx xxy xyz h4
  subst hwz hwy hwx
  go_enter Try.func84, Try.ntmps84
  go_wp2_with fail
  refine HCF.out.mono ?_
  rintro e w5 ⟨rfl, hb5⟩
  have HBE := Lib.hid (HB4.out.trans (hb5.mono HB4.out.size))
  clear HCF hb5 x3 y3 z3 x4 z4 hlk
  go_wp2_with fail
  go_ret
  exact ⟨by rw [HE.out, List.not_any_eq_all_not]; simp, HBE.out⟩

end Go.Proofs.Ytipddhcfcehcaaa
namespace Go.Proofs.Ytipddhcfcehcaaa
open Go Go.RowKit

theorem swoR : Go.Sort.SWO (Go.Proofs.ltOf ordR) where
  irrefl x := by rw [lt_ordR]; exact ltR_irr x
  trans x y z h k := by rw [lt_ordR] at *; exact ltR_trans h k
  ntrans x y z h k := by
    rw [lt_ordR] at *
    cases hxz : ltR x z with
    | false => rfl
    | true =>
      by_cases e1 : x = y
      · subst e1; rw [hxz] at k; cases k
      · have h1 := ltR_total h e1
        have h2 := ltR_trans h1 hxz
        rw [h2] at k
        cases k
/-- Points in order, each once. -/
def UpR (l : List R2) : Prop := l.Pairwise fun a b => ltR a b = true
theorem upR_sorted {l : List R2} (hs : l.Pairwise fun a b => Go.Proofs.ltOf ordR b a = false) (hn : l.Nodup) : UpR l := by
  refine List.pairwise_iff_getElem.2 fun i j hi hj hij => ?_
  have h1 := List.pairwise_iff_getElem.1 hs i j hi hj hij
  have h2 := List.pairwise_iff_getElem.1 hn i j hi hj hij
  rw [lt_ordR] at h1
  exact ltR_total h1 (Ne.symm h2)
end Go.Proofs.Ytipddhcfcehcaaa
namespace Go.Proofs.Ytipddhcfcehcaaa
open Go Go.RowKit Go.Maps

section
variable {F : Fence} {n : Nat} {P : Program} (w : World) {ops : Array Oper} {rest : List Oper} {o : Oper} {a : Act} {Q : Exit → Act → World → Prop} {κ α : Type} {kv : κ → Value} {ev : α → Value} {b : Nat} {l : List (κ × α)}

/-- 'range m'. -/
theorem wpListIn_mp_range (hg : o.guard = none) (m : Operand) (t : TypeId) (hop : o.op = Op.range t m) {k e : TypeId} (ht : P.underlying t = some (.map k e)) (hm : a.eval m = .map (some b)) (h : Mp P k kv ev w b l)
    (hK : ∀ w', Rng P k kv ev w' b w.heap.size l l → Below w.heap.size w w' → w'.heap.size = w.heap.size + 1 → wpListIn F n P ops Q rest (a.put o.dst (.pointer (some ⟨w.heap.size, 0, none⟩))) w') : wpListIn F n P ops Q (o :: rest) a w := by
  refine wpListIn_plain hg fun K' hK' => ?_
  obtain ⟨w', hrun, h1, h2, h3⟩ := h.range ht
  unfold Oper.wpIn
  refine ⟨by simp [Oper.about, hop], ?_⟩
  rw [Oper.semAt_plain F _ _ (by rw [hop]; intro c hc'; cases hc')]
  simp [execOp, hop, hm, hrun, Result.andThen]
  exact hK' _ _ (hK w' h1 h2 h3)

/-- The range's step. -/
theorem wpListIn_mp_next (hg : o.guard = none) (it : Operand) (hop : o.op = Op.next it false) {k : TypeId} {r : Nat} {rem : List (κ × α)} (hit : a.eval it = .pointer (some ⟨r, 0, none⟩)) (h : Rng P k kv ev w b r l rem)
    (hDone : rem = [] → wpListIn F n P ops Q rest (a.put o.dst (.tuple #[.bool false])) w)
    (hMore : ∀ pre p post w', rem = pre ++ p :: post → Rng P k kv ev w' b r l (pre ++ post) → Kept (· ≠ r) w w' → w'.heap.size = w.heap.size → (Instr.entry (.pointer (some ⟨r, 0, none⟩))).run P w' = .ok (.tuple #[kv p.1, ev p.2]) w' →
      wpListIn F n P ops Q rest (a.put o.dst (.tuple #[.bool true, kv p.1, ev p.2])) w') : wpListIn F n P ops Q (o :: rest) a w := by
  refine wpListIn_plain hg fun K' hK' => ?_
  unfold Oper.wpIn
  refine ⟨by simp [Oper.about, hop], ?_⟩
  rw [Oper.semAt_plain F _ _ (by rw [hop]; intro c hc'; cases hc')]
  rcases h.next o.type with ⟨h0, hrun⟩ | ⟨pre, p, post, w', h0, hrun, h1, h2, h3, h4⟩
  · simp [execOp, hop, hit, hrun, Result.andThen]
    exact hK' _ _ (hDone h0)
  · simp [execOp, hop, hit, hrun, Result.andThen]
    exact hK' _ _ (hMore pre p post w' h0 h1 h2 h3 h4)
end

end Go.Proofs.Ytipddhcfcehcaaa
namespace Go.Proofs.Ytipddhcfcehcaaa
open Go Go.RowKit Go.Maps

theorem Kept.grown {w w' : World} {r : Nat} (h : Kept (· ≠ r) w w') : w.grownBy w' (some r) := ⟨h.os, h.tape, h.output, h.size, fun k _ hk => h.block k fun e => hk (by rw [e])⟩
theorem grown0_of {w w' : World} (h : Below w.heap.size w w') : w.grownBy w' none := ⟨h.os, h.tape, h.output, h.size, fun k hk _ => h.block k hk⟩
theorem Rng.walk {P : Program} {k : TypeId} {κ α : Type} {kv : κ → Value} {ev : α → Value} {w : World} {b r : Nat} {l rem : List (κ × α)} (h : Rng P k kv ev w b r l rem) : ∃ o : Obj, w.heap[r]? = some o ∧ o.isWalk = true := by
  obtain ⟨es, clock, since, seen, c0, _, _, _, _, hr, _⟩ := h
  exact ⟨_, hr, rfl⟩
theorem Rng.walks {P : Program} {k : TypeId} {κ α : Type} {kv : κ → Value} {ev : α → Value} {w w' : World} {b r : Nat} {l rem : List (κ × α)} (h : Rng P k kv ev w b r l rem) (hk : KeepsWalks w w') : Rng P k kv ev w' b r l rem := by
  obtain ⟨es, clock, since, seen, c0, hb, hs, hm, hok, hr, rest⟩ := h
  exact ⟨es, clock, since, seen, c0, hk.same b _ hb rfl, hs, hm, hok, hk.same r _ hr rfl, rest⟩

end Go.Proofs.Ytipddhcfcehcaaa
namespace Go.Proofs.Ytipddhcfcehcaaa
open Go Go.RowKit Go.Maps

end Go.Proofs.Ytipddhcfcehcaaa
namespace Go.Proofs.Ytipddhcfcehcaaa
open Go Go.RowKit

attribute [local go_sem] Oper.semAt_some

theorem r2cs_single (a : R2) : r2cs [a] = r2C a := by simp [r2cs]
theorem cells_two (w : World) (a b : Value) (t : TypeId) : ∀ j u, [a, b][j]? = some u → (w.alloc (.cells #[a, b] t)).cell? ((⟨w.heap.size, 0, none⟩ : Addr).add j) = some u := fun j u hu => by
  rw [Addr.add_lit, cell_of_row _ w.heap.size (0 + j) #[a, b] t (0, 0) (heap_alloc_new w _), Nat.zero_add]
  simpa using hu
end Go.Proofs.Ytipddhcfcehcaaa
namespace Go.Proofs.Ytipddhcfcehcaaa
open Go Go.RowKit Go.Maps

/-- The least that some ghost of the state has: a measure of what isn't seen. -/
theorem least_ex {γ : Type} (R : γ → Prop) (m : γ → Nat) (h : ∃ g, R g) : ∃ n, (∃ g, R g ∧ m g = n) ∧ ∀ g, R g → n ≤ m g := by
  obtain ⟨g0, h0⟩ := h
  have key : ∀ k, ∀ g, R g → m g ≤ k → ∃ n, (∃ g, R g ∧ m g = n) ∧ ∀ g, R g → n ≤ m g := by
    intro k
    induction k with
    | zero => exact fun g hg hk => ⟨0, ⟨g, hg, by omega⟩, fun _ _ => Nat.zero_le _⟩
    | succ k ih =>
      intro g hg hk
      by_cases hs : ∃ g', R g' ∧ m g' ≤ k
      · obtain ⟨g', h1, h2⟩ := hs
        exact ih g' h1 h2
      · refine ⟨m g, ⟨g, hg, rfl⟩, fun g' h' => ?_⟩
        have : ¬ m g' ≤ k := fun h2 => hs ⟨g', h', h2⟩
        omega
  exact key _ g0 h0 (Nat.le_refl _)
open Classical in
noncomputable def leastM {γ : Type} (R : γ → Prop) (m : γ → Nat) : Nat := if h : ∃ g, R g then Classical.choose (least_ex R m h) else 0
theorem leastM_get {γ : Type} {R : γ → Prop} (m : γ → Nat) (h : ∃ g, R g) : ∃ g, R g ∧ m g = leastM R m := by
  unfold leastM
  rw [dif_pos h]
  exact (Classical.choose_spec (least_ex R m h)).1
theorem leastM_le {γ : Type} {R : γ → Prop} (m : γ → Nat) {g : γ} (h : R g) : leastM R m ≤ m g := by
  unfold leastM
  rw [dif_pos ⟨g, h⟩]
  exact (Classical.choose_spec (least_ex R m ⟨g, h⟩)).2 g h
section
variable {P : Program} {k t e : TypeId} {κ α : Type} {kv : κ → Value} {ev : α → Value} {w : World}
/-- A map that may be nil. -/
def MpO (P : Program) (k : TypeId) (kv : κ → Value) (ev : α → Value) (w : World) : Option Nat → List (κ × α) → Prop
  | none, l => l = []
  | some b, l => Mp P k kv ev w b l
theorem MpO.nodup {mb : Option Nat} {l : List (κ × α)} (h : MpO P k kv ev w mb l) : (l.map (·.1)).Nodup := by
  cases mb with
  | none => obtain rfl : l = [] := h; simp
  | some b => exact Mp.nodup (show Mp P k kv ev w b l from h)
theorem MpO.keyed {mb : Option Nat} {l : List (κ × α)} (h : MpO P k kv ev w mb l) : ∀ p ∈ l, ∃ q, keyOf P k (kv p.1) = some q := by
  cases mb with
  | none => obtain rfl : l = [] := h; simp
  | some b => obtain ⟨_, _, _, _, _, h⟩ := h; exact h
theorem MpO.below {w' : World} {mb : Option Nat} {l : List (κ × α)} (h : MpO P k kv ev w mb l) (hb : Below w.heap.size w w') : MpO P k kv ev w' mb l := by
  cases mb with
  | none => exact h
  | some b => exact Mp.below (show Mp P k kv ev w b l from h) hb
theorem MpO.same {w' : World} {mb : Option Nat} {l : List (κ × α)} (h : MpO P k kv ev w mb l) (hb : ∀ b, mb = some b → w'.heap[b]? = w.heap[b]?) : MpO P k kv ev w' mb l := by
  cases mb with
  | none => exact h
  | some b => exact Mp.same (show Mp P k kv ev w b l from h) (hb b rfl)
theorem MpO.look [DecidableEq κ] {mb : Option Nat} {l : List (κ × α)} (h : MpO P k kv ev w mb l) (K : Keyed P k) (inj : ∀ a b, kv a = kv b → a = b) (ht : P.underlying t = some (.map k e)) {z : Value} (hz : (zeroValue e).run P w = .ok z w) {a : κ} (hk : ∃ q, keyOf P k (kv a) = some q) :
    (Instr.lookup t (.map mb) (kv a) false).run P w = .ok (match lookA l a with | some x => ev x | none => z) w := by
  cases mb with
  | none =>
    obtain rfl : l = [] := h
    obtain ⟨q, hq⟩ := hk
    have hf : (Instr.findKey k (kv a) []).run P w = .ok none w := by
      rcases K.find w hq [] (by simp) with ⟨h1, _⟩ | ⟨j, e0, _, h2, _⟩
      · exact h1
      · simp at h2
    simp [Instr.lookup, run_underlying ht, K.check w _ hq, hf, hz, Result.andThen, lookA]
  | some b =>
    have := Mp.look (show Mp P k kv ev w b l from h) K inj ht hz false hk
    rw [this]
    cases lookA l a <;> rfl
end

end Go.Proofs.Ytipddhcfcehcaaa
namespace Go.Proofs.Ytipddhcfcehcaaa
open Go Go.RowKit Go.Maps

abbrev blR (l : List R2) : List (R2 × Bool) := l.map fun p => (p, true)
theorem blR_keys (l : List R2) : (blR l).map (·.1) = l := by simp [blR, Function.comp_def]
theorem look_blR (l : List R2) (a : R2) : lookA (blR l) a = if a ∈ l then some true else none := by
  induction l with
  | nil => rfl
  | cons x r ih =>
    simp only [blR, List.map_cons, lookA] at *
    by_cases h : x = a
    · subst h; simp
    · simp [h, ih, Ne.symm h]
theorem put_blR (l : List R2) (a : R2) (h : a ∉ l) : putA (blR l) a true = blR (l ++ [a]) := by
  rw [put_miss (fun p hp e => h (by obtain ⟨x, hx, rfl⟩ := List.mem_map.1 hp; exact e ▸ hx))]
  simp [blR]
theorem put_blR_in (l : List R2) (a : R2) (h : a ∈ l) : putA (blR l) a true = blR l := by
  induction l with
  | nil => simp at h
  | cons x r ih =>
    simp only [blR, List.map_cons, putA] at *
    by_cases e : x = a
    · subst e; simp
    · rw [if_neg e]
      rw [ih (by simpa [Ne.symm e] using h)]
end Go.Proofs.Ytipddhcfcehcaaa
