/- Lemmas for the claim, no condition. -/
import Derived.Laws.EntriesVeiled
import Derived.Shelf.Abstract
import Derived.Sort.MapsRangeIn
import Derived.RangeFuncGives
import Derived.RangeFuncNested
import Derived.WalkKit
import Derived.TacticsInMore
import Derived.RegionIn
import Derived.LoopNIn
import Derived.LoopIn
import Derived.Sort.KeysCollected
import Derived.RangeFuncLeaves
import Derived.OwnWalkIn
import Derived.Test.YtjdigpfipmckhaaGreatYReWalks14
import Derived.Test.YtjdigpfipmckhaaGreatYReWalks9
import Derived.Test.YtjdigpfipmckhaaGreatYReWalks3
import Derived.Test.YtjdigpfipmckhaaGreatYReWalks0
import Derived.Test.YtjdigpfipmckhaaGreatYReWalks10
import Derived.Test.YtjdigpfipmckhaaGreatYReWalks1
namespace Go.Proofs.YtjdigpfipmckhaaGreat
open Go Go.RowKit Go.Maps
theorem Own.mono {w : World} {B B' : Nat} {e : TypeId} {sz : Nat} {v : Value} {xs : List Value} (h : Own w B e sz v xs) (hb : B' ≤ B) : Own w B' e sz v xs := by
  obtain ⟨n, h⟩ := h
  refine ⟨n, h.1, ?_⟩
  rcases h.2 with hn | ⟨g, cap, cur, rfl, hbg, r⟩
  · exact .inl hn
  · exact .inr ⟨g, cap, cur, rfl, by omega, r⟩
theorem BkW.mono {w : World} {B B' b3 : Nat} {P : List (R2 × RT)} (h : BkW w B b3 P) (hb : B' ≤ B) : BkW w B' b3 P := by
  obtain ⟨lw, h1, h2, h3⟩ := h
  exact ⟨lw, h1, ⟨fun x hx => ⟨(h2.rows x hx).1, (h2.rows x hx).2.mono hb⟩, h2.apart⟩, h3⟩
structure Bk (w : World) (b1 b2 b3 : Nat) (ts : List TyS) : Prop where
  R : BkR (· < w.heap.size) w b1 (refsOf ts)
  T : Mp Tryz.prog 9 Value.string bV w b2 (tyL ts)
  W : BkW w 0 b3 (refsOf ts)
theorem Bk.up {w w' : World} {b1 b2 b3 : Nat} {ts : List TyS} (h : Bk w b1 b2 b3 ts) (hb : Below w.heap.size w w') : Bk w' b1 b2 b3 ts := ⟨h.R.up hb, h.T.below hb, h.W.up hb⟩
theorem BkR.mono {S S' : Nat → Prop} {w : World} {b1 : Nat} {P : List (R2 × RT)} (h : BkR S w b1 P) (hs : ∀ x, S x → S' x) : BkR S' w b1 P := by
  obtain ⟨lr, h1, h2, h3⟩ := h
  exact ⟨lr, h1, h2, fun x hx => (h3 x hx).mono hs⟩
theorem open_bk (ts : List TyS) (tv : Value) (w : World) (h : TysAt (· < w.heap.size) w ts tv) (hok : ∀ t ∈ ts, t.Ok) (hu : uniqOk ts = true) (hsz : (refsOf ts).length ≤ 1099511627776) :
    Calls Tryz.prog 105 #[.agg #[tv]] w fun e w' => ∃ b1 b2 b3, e = .returned (.agg #[.map (some b1), .map (some b2), .map (some b3)]) ∧ Bk w' b1 b2 b3 ts ∧ Below w.heap.size w w' := by
  refine (open_any ts tv w (fun _ hx => hx) h hok hu hsz).mono ?_
  rintro e w' ⟨b1, b2, b3, rfl, hb, hw⟩
  exact ⟨b1, b2, b3, rfl, ⟨hb.R.mono fun x hx => Nat.lt_of_lt_of_le hx hw.size, hb.T, hb.W.mono (Nat.zero_le _)⟩, hw⟩
end Go.Proofs.YtjdigpfipmckhaaGreat
namespace Go.Proofs.YtjdigpfipmckhaaGreat
open Go Go.RowKit Go.Maps
set_option maxRecDepth 100000 in
set_option maxHeartbeats 2000000 in
theorem indexRF_any (w : World) (ps : List RT) (k : Int) (a b : ByteArray) (pv : Value) (g : Nat) (cap : Array Value) (eg : ∀ args W, (callFunc g args).run Tryz.prog W = .ok (.enter g args) W) (q : RT → Bool) (hat : RTAt (· < w.heap.size) w (.mk k a b ps) pv) (hf : ∀ i (hi : i < ps.length) W pvi, Below w.heap.size w W → RTAt (· < W.heap.size) W ps[i] pvi → Calls Tryz.prog g (#[rV ps[i] pvi] ++ cap) W fun e W' => e = .returned (.bool (q ps[i])) ∧ Below W.heap.size W W') :
    Calls Tryz.prog 182 #[pv, .func (.func g) #[] cap] w fun e w' => ∃ k : Int, e = .returned (.int .i64 k) ∧ (0 ≤ k ↔ ps.any q = true) ∧ Below w.heap.size w w' := by
  obtain ⟨ao, c, rfl, hlc, hcm, hcell⟩ := hat.rows
  dsimp only [RT.ps] at hlc hcell
  have HC := Lib.hid hcell
  have HF := Lib.hid hf
  clear hat hcell hf
  go_enter Tryz.func182, Tryz.ntmps182
  go_wp2_with fail
  go_loopw [5, 8] (fun _ ii wr => ∃ i : Nat, i ≤ ps.length ∧ ii = .int .i64 i ∧ (∀ j (hj : j < ps.length), j < i → q ps[j] = false) ∧ Below w.heap.size w wr) (fun _ ii _ => ps.length - (intOf ii).toNat)
  case atStart => exact ⟨0, by omega, rfl, fun _ _ h => absurd h (by omega), Below.refl _ _⟩
  case round =>
    obtain ⟨i, hi, rfl, hall, hbel⟩ := hrel
    have HALL := Lib.hid hall
    clear hall
    by_cases hlt : i < ps.length
    · have HUP := Lib.hid (fun h => upto_succ (p := fun j hj => q ps[j] = false) HALL.out hlt h)
      have HAN := Lib.hid (fun (h : q ps[i] = true) => (show ps.any q = true from List.any_eq_true.2 ⟨_, List.getElem_mem hlt, h⟩))
      obtain ⟨bb, off, pv2, hbo, hb, c0, c1, c2, c3, hat2⟩ := HC.out i hlt
      cases hbo
      have d0 := (hbel.cell (p := ⟨bb, off + i * 4, none⟩) hb).trans c0
      have d1 := (hbel.cell (p := ⟨bb, off + i * 4 + 1, none⟩) hb).trans c1
      have d2 := (hbel.cell (p := ⟨bb, off + i * 4 + 2, none⟩) hb).trans c2
      have d3 := (hbel.cell (p := ⟨bb, off + i * 4 + 3, none⟩) hb).trans c3
      have HR := Lib.hid (HF.out i hlt wr pv2 hbel (hat2.up hbel))
      clear c0 c1 c2 c3 hat2 hb
      unfold rV at HR
      generalize ps[i] = p at *
      have HB := Lib.hid hbel
      clear hbel
      cases hq : q p with
      | true =>
        rw [hq] at HR
        have HT := Lib.hid (HAN.out hq)
        clear HUP HAN hq
        go_wp2_with fail
        refine HR.out.mono ?_
        rintro e w5 ⟨rfl, hb5⟩
        have HBE := Lib.hid (HB.out.trans (hb5.mono HB.out.size))
        clear HR hb5 d0 d1 d2 d3
        go_wp2_with fail
        go_ret
        exact ⟨_, rfl, ⟨fun _ => HT.out, fun _ => by omega⟩, HBE.out⟩
      | false =>
        rw [hq] at HR
        have HN := Lib.hid (HUP.out hq)
        clear HUP HAN hq
        go_wp2_with fail
        refine HR.out.mono ?_
        rintro e w5 ⟨rfl, hb5⟩
        have HBE := Lib.hid (HB.out.trans (hb5.mono HB.out.size))
        clear HR hb5 d0 d1 d2 d3
        go_wp2_with fail
        go_roundw
        case rel => exact ⟨i + 1, by omega, by go_num, HN.out, HBE.out⟩
        case measure => simp [intOf]; omega
    · obtain rfl : i = ps.length := by omega
      have HN := Lib.hid (show ¬ ps.any q = true from fun h => by
        obtain ⟨x, hx, hq⟩ := List.any_eq_true.1 h
        obtain ⟨j, hj, rfl⟩ := List.getElem_of_mem hx
        rw [HALL.out j hj hj] at hq
        cases hq)
      have HB := Lib.hid hbel
      clear hbel
      go_wp2_with fail
      go_ret
      exact ⟨_, rfl, ⟨fun h => absurd h (by omega), fun h => absurd h HN.out⟩, HB.out⟩
set_option maxRecDepth 100000 in
set_option maxHeartbeats 2000000 in
theorem containsRF_any (w : World) (ps : List RT) (k : Int) (a b : ByteArray) (pv : Value) (g : Nat) (cap : Array Value) (eg : ∀ args W, (callFunc g args).run Tryz.prog W = .ok (.enter g args) W) (q : RT → Bool) (hat : RTAt (· < w.heap.size) w (.mk k a b ps) pv) (hf : ∀ i (hi : i < ps.length) W pvi, Below w.heap.size w W → RTAt (· < W.heap.size) W ps[i] pvi → Calls Tryz.prog g (#[rV ps[i] pvi] ++ cap) W fun e W' => e = .returned (.bool (q ps[i])) ∧ Below W.heap.size W W') :
    Calls Tryz.prog 155 #[pv, .func (.func g) #[] cap] w fun e w' => e = .returned (.bool (ps.any q)) ∧ Below w.heap.size w w' := by
  have HI := Lib.hid (indexRF_any w ps k a b pv g cap eg q hat hf)
  clear hat hf
  go_enter Tryz.func155, Tryz.ntmps155
  go_wp2_with fail
  refine HI.out.mono ?_
  rintro e w2 ⟨k, rfl, hk, hb⟩
  have HK := Lib.hid hk
  have HB := Lib.hid hb
  clear HI hk hb
  by_cases h0 : 0 ≤ k
  · have HM := Lib.hid (HK.out.1 h0)
    go_wp2_with fail
    go_ret
    exact ⟨by rw [HM.out]; simp [h0], HB.out⟩
  · have HM := Lib.hid (show ps.any q = false from by cases h : ps.any q with | false => rfl | true => exact absurd (HK.out.2 h) h0)
    go_wp2_with fail
    go_ret
    exact ⟨by rw [HM.out]; simp [h0], HB.out⟩
end Go.Proofs.YtjdigpfipmckhaaGreat
namespace Go.Proofs.YtjdigpfipmckhaaGreat
open Go Go.RowKit Go.Maps Go.Shelf
mutual
def RT.pnamed (P : List (R2 × RT)) (typ : ByteArray) : RT → Bool
  | .mk k a b ps => if k = 2 then (lookA P ⟨typ, a⟩).isSome else if k = 3 then (lookA P ⟨typ, a⟩).isSome && decide (0 < (whereP P b).length) else pnamedL P typ ps
def pnamedL (P : List (R2 × RT)) (typ : ByteArray) : List RT → Bool | [] => true | r :: rs => r.pnamed P typ && pnamedL P typ rs
end
theorem pnamedL_eq (P : List (R2 × RT)) (typ : ByteArray) : ∀ l : List RT, pnamedL P typ l = l.all fun r => r.pnamed P typ
  | [] => rfl
  | r :: rs => by rw [pnamedL, List.all_cons, pnamedL_eq P typ rs]
set_option maxRecDepth 100000 in
set_option maxHeartbeats 2000000 in
theorem named1_any {b1 b2 b3 : Nat} {typ : ByteArray} (p : RT) (pv : Value) (X Y : Nat) (w : World) (g : Bool) (hX : Blk w X #[.map (some b1), .map (some b2), .map (some b3)] 184) (hY : Blk w Y #[.string typ] 9) (hat : RTAt (· < w.heap.size) w p pv)
    (h : Calls Tryz.prog 106 #[.agg #[.map (some b1), .map (some b2), .map (some b3)], .string typ, rV p pv] (w.alloc (.cells #[.int .i64 p.k, .string p.a, .string p.b, pv] 98)) fun e w' => e = .returned (.bool g) ∧ Below w.heap.size w w') :
    Calls Tryz.prog 156 #[rV p pv, .pointer (some ⟨X, 0, none⟩), .pointer (some ⟨Y, 0, none⟩)] w fun e w' => e = .returned (.bool (!g)) ∧ Below w.heap.size w w' := by
  have HC := Lib.hid h
  obtain ⟨ao, c, rfl, -⟩ := hat.rows
  have hb := (Blk.made w #[.int .i64 p.k, .string p.a, .string p.b, .slice ao p.ps.length c] 98).cells
  have hx := (hX.alloc (.cells #[.int .i64 p.k, .string p.a, .string p.b, .slice ao p.ps.length c] 98)).cells
  have hy := (hY.alloc (.cells #[.int .i64 p.k, .string p.a, .string p.b, .slice ao p.ps.length c] 98)).cells
  clear h hX hY hat
  unfold rV at HC ⊢
  go_enter Tryz.func156, Tryz.ntmps156
  go_wp2_with fail
  refine HC.out.mono ?_
  rintro e w2 ⟨rfl, hb2⟩
  have HB := Lib.hid hb2
  clear HC hb hx hy hb2
  go_wp2_with fail
  go_ret
  exact ⟨rfl, HB.out⟩
set_option maxRecDepth 100000 in
set_option maxHeartbeats 4000000 in
theorem pnamed_any {b1 b2 b3 : Nat} {ts : List TyS} (typ : ByteArray) (htyp : typ.size ≤ maxLen) (r : RT) : ∀ (pv : Value) (w : World), Bk w b1 b2 b3 ts → RTAt (· < w.heap.size) w r pv → r.Ok →
    Calls Tryz.prog 106 #[.agg #[.map (some b1), .map (some b2), .map (some b3)], .string typ, rV r pv] w fun e w' => e = .returned (.bool (r.pnamed (refsOf ts) typ)) ∧ Below w.heap.size w w' := by
  induction r using RT.ind with
  | h r ih =>
  intro pv w hbk hat hok
  obtain ⟨-, hoa, hob, hop⟩ := r.ok_iff.1 hok
  obtain ⟨k, ra, rb, ps⟩ := r
  obtain ⟨ao, c, rfl, -⟩ := hat.rows
  dsimp only [RT.k, RT.a, RT.b, RT.ps] at hoa hob hop ih
  have IH := Lib.hid ih
  have HOP := Lib.hid hop
  have HRA := Lib.hid (show ra.size ≤ maxLen from by unfold maxLen; omega)
  have HRB := Lib.hid (show rb.size ≤ maxLen from by unfold maxLen; omega)
  unfold rV
  dsimp only [RT.k, RT.a, RT.b, RT.ps]
  clear ih hop hoa hob hok
  by_cases k2 : k = 2
  · subst k2
    have HE := Lib.hid (show (RT.mk 2 ra rb ps).pnamed (refsOf ts) typ = (lookA (refsOf ts) ⟨typ, ra⟩).isSome from by rw [RT.pnamed]; rfl)
    obtain ⟨wx, hwx⟩ : ∃ x, x = w.alloc (.cells #[.map (some b1), .map (some b2), .map (some b3)] 184) := ⟨_, rfl⟩
    obtain ⟨wy, hwy⟩ : ∃ x, x = wx.alloc (.cells #[.string typ] 9) := ⟨_, rfl⟩
    obtain ⟨wz, hwz⟩ : ∃ x, x = wy.alloc (.cells #[.int .i64 2, .string ra, .string rb, .slice ao ps.length c] 98) := ⟨_, rfl⟩
    have ex : wx.heap.size = w.heap.size + 1 := by rw [hwx]; simp
    have ey : wy.heap.size = w.heap.size + 1 + 1 := by rw [hwy]; simp [ex]
    have xwx : Ext w wx := by rw [hwx]; exact Ext.alloc _ _
    have xxy : Ext wx wy := by rw [hwy]; exact Ext.alloc _ _
    have xyz : Ext wy wz := by rw [hwz]; exact Ext.alloc _ _
    have HX := Lib.hid (show Blk wz w.heap.size #[.map (some b1), .map (some b2), .map (some b3)] 184 from Blk.below (by rw [hwx]; exact Blk.made _ _ _) (xxy.trans xyz))
    have HY := Lib.hid (show Blk wz (w.heap.size + 1) #[.string typ] 9 from Blk.below (by rw [hwy, ← ex]; exact Blk.made _ _ _) xyz)
    have HZ := Lib.hid (show Blk wz (w.heap.size + 1 + 1) #[.int .i64 2, .string ra, .string rb, .slice ao ps.length c] 98 from by rw [hwz, ← ey]; exact Blk.made _ _ _)
    have XWZ := Lib.hid (show Below w.heap.size w wz from xwx.trans (xxy.trans xyz))
    have HBK := Lib.hid (hbk.up XWZ.out)
    obtain ⟨z, hlk, hzat, -, -⟩ := HBK.out.R.look ⟨typ, ra⟩ ⟨htyp, HRA.out⟩
    obtain ⟨zo, zc, hzv, -⟩ := hzat.rows
    generalize hok : (lookA (refsOf ts) ⟨typ, ra⟩).isSome = ok at *
    unfold rvV rV r2V at hlk
    dsimp only at hlk
    rw [hzv] at hlk
    have h4 : Ext wz (wz.alloc (.cells #[.int .i64 z.1.k, .string z.1.a, .string z.1.b, .slice zo z.1.ps.length zc] 98)) := Ext.alloc _ _
    have x3 := HX.out.cells
    have y3 := HY.out.cells
    have z3 := HZ.out.cells
    have x4 := (HX.out.below h4).cells
    have z4 := (HZ.out.below h4).cells
    have HB4 := Lib.hid (show Below w.heap.size w (wz.alloc (.cells #[.int .i64 z.1.k, .string z.1.a, .string z.1.b, .slice zo z.1.ps.length zc] 98)) from Ext.trans XWZ.out h4)
    have HBK4 := Lib.hid (HBK.out.up h4)
    clear hbk hzat hzv hat ex ey xwx xxy xyz h4
    subst hwz hwy hwx
    go_enter Tryz.func106, Tryz.ntmps106
    go_wp2_with fail
    go_ret
    exact ⟨by rw [HE.out]; simp, HB4.out⟩
  by_cases k3 : k = 3
  · subst k3
    have HE := Lib.hid (show (RT.mk 3 ra rb ps).pnamed (refsOf ts) typ = ((lookA (refsOf ts) ⟨typ, ra⟩).isSome && decide (0 < (whereP (refsOf ts) rb).length)) from by rw [RT.pnamed]; rfl)
    clear k2
    obtain ⟨wx, hwx⟩ : ∃ x, x = w.alloc (.cells #[.map (some b1), .map (some b2), .map (some b3)] 184) := ⟨_, rfl⟩
    obtain ⟨wy, hwy⟩ : ∃ x, x = wx.alloc (.cells #[.string typ] 9) := ⟨_, rfl⟩
    obtain ⟨wz, hwz⟩ : ∃ x, x = wy.alloc (.cells #[.int .i64 3, .string ra, .string rb, .slice ao ps.length c] 98) := ⟨_, rfl⟩
    have ex : wx.heap.size = w.heap.size + 1 := by rw [hwx]; simp
    have ey : wy.heap.size = w.heap.size + 1 + 1 := by rw [hwy]; simp [ex]
    have xwx : Ext w wx := by rw [hwx]; exact Ext.alloc _ _
    have xxy : Ext wx wy := by rw [hwy]; exact Ext.alloc _ _
    have xyz : Ext wy wz := by rw [hwz]; exact Ext.alloc _ _
    have HX := Lib.hid (show Blk wz w.heap.size #[.map (some b1), .map (some b2), .map (some b3)] 184 from Blk.below (by rw [hwx]; exact Blk.made _ _ _) (xxy.trans xyz))
    have HY := Lib.hid (show Blk wz (w.heap.size + 1) #[.string typ] 9 from Blk.below (by rw [hwy, ← ex]; exact Blk.made _ _ _) xyz)
    have HZ := Lib.hid (show Blk wz (w.heap.size + 1 + 1) #[.int .i64 3, .string ra, .string rb, .slice ao ps.length c] 98 from by rw [hwz, ← ey]; exact Blk.made _ _ _)
    have XWZ := Lib.hid (show Below w.heap.size w wz from xwx.trans (xxy.trans xyz))
    have HBK := Lib.hid (hbk.up XWZ.out)
    obtain ⟨z, hlk, hzat, -, -⟩ := HBK.out.R.look ⟨typ, ra⟩ ⟨htyp, HRA.out⟩
    obtain ⟨zo, zc, hzv, -⟩ := hzat.rows
    generalize hok : (lookA (refsOf ts) ⟨typ, ra⟩).isSome = ok at *
    unfold rvV rV r2V at hlk
    dsimp only at hlk
    rw [hzv] at hlk
    have h4 : Ext wz (wz.alloc (.cells #[.int .i64 z.1.k, .string z.1.a, .string z.1.b, .slice zo z.1.ps.length zc] 98)) := Ext.alloc _ _
    have x3 := HX.out.cells
    have y3 := HY.out.cells
    have z3 := HZ.out.cells
    have x4 := (HX.out.below h4).cells
    have z4 := (HZ.out.below h4).cells
    have HB4 := Lib.hid (show Below w.heap.size w (wz.alloc (.cells #[.int .i64 z.1.k, .string z.1.a, .string z.1.b, .slice zo z.1.ps.length zc] 98)) from Ext.trans XWZ.out h4)
    have HBK4 := Lib.hid (HBK.out.up h4)
    obtain ⟨v, hlw, hov, -⟩ := HBK4.out.W.look rb HRB.out
    obtain ⟨vo, vn, vc, rfl, hvn, -, -⟩ := hov.sl.len
    rw [txs_length, Nat.mul_one] at hvn
    subst hvn
    clear hov
    clear hbk hzat hzv hat ex ey xwx xxy xyz h4
    subst hwz hwy hwx
    cases ok with
    | false =>
      go_enter Tryz.func106, Tryz.ntmps106
      go_wp2_with fail
      go_ret
      exact ⟨by rw [HE.out]; simp, HB4.out⟩
    | true =>
      by_cases hp : 0 < (whereP (refsOf ts) rb).length
      · have hpI : (0 : Int) < ((whereP (refsOf ts) rb).length : Int) := by omega
        have HP := Lib.hid hp
        clear hp
        go_enter Tryz.func106, Tryz.ntmps106
        go_wp2_with fail
        go_ret
        exact ⟨by rw [HE.out, decide_eq_true HP.out]; simp, HB4.out⟩
      · have hpI : ¬ ((0 : Int) < ((whereP (refsOf ts) rb).length : Int)) := by omega
        have HP := Lib.hid hp
        clear hp
        go_enter Tryz.func106, Tryz.ntmps106
        go_wp2_with fail
        go_ret
        exact ⟨by rw [HE.out, decide_eq_false HP.out]; simp, HB4.out⟩
  have q2 : (k == 2) = false := by rw [beq_eq_false_iff_ne]; exact k2
  have q3 : (k == 3) = false := by rw [beq_eq_false_iff_ne]; exact k3
  have HE := Lib.hid (show (RT.mk k ra rb ps).pnamed (refsOf ts) typ = ps.all fun r => r.pnamed (refsOf ts) typ from by rw [RT.pnamed, if_neg k2, if_neg k3, pnamedL_eq])
  clear k2 k3
  obtain ⟨wx, hwx⟩ : ∃ x, x = w.alloc (.cells #[.map (some b1), .map (some b2), .map (some b3)] 184) := ⟨_, rfl⟩
  obtain ⟨wy, hwy⟩ : ∃ x, x = wx.alloc (.cells #[.string typ] 9) := ⟨_, rfl⟩
  obtain ⟨wz, hwz⟩ : ∃ x, x = wy.alloc (.cells #[.int .i64 k, .string ra, .string rb, .slice ao ps.length c] 98) := ⟨_, rfl⟩
  have ex : wx.heap.size = w.heap.size + 1 := by rw [hwx]; simp
  have ey : wy.heap.size = w.heap.size + 1 + 1 := by rw [hwy]; simp [ex]
  have xwx : Ext w wx := by rw [hwx]; exact Ext.alloc _ _
  have xxy : Ext wx wy := by rw [hwy]; exact Ext.alloc _ _
  have xyz : Ext wy wz := by rw [hwz]; exact Ext.alloc _ _
  have HX := Lib.hid (show Blk wz w.heap.size #[.map (some b1), .map (some b2), .map (some b3)] 184 from Blk.below (by rw [hwx]; exact Blk.made _ _ _) (xxy.trans xyz))
  have HY := Lib.hid (show Blk wz (w.heap.size + 1) #[.string typ] 9 from Blk.below (by rw [hwy, ← ex]; exact Blk.made _ _ _) xyz)
  have HZ := Lib.hid (show Blk wz (w.heap.size + 1 + 1) #[.int .i64 k, .string ra, .string rb, .slice ao ps.length c] 98 from by rw [hwz, ← ey]; exact Blk.made _ _ _)
  have XWZ := Lib.hid (show Below w.heap.size w wz from xwx.trans (xxy.trans xyz))
  have HBK := Lib.hid (hbk.up XWZ.out)
  obtain ⟨z, hlk, hzat, -, -⟩ := HBK.out.R.look ⟨typ, ra⟩ ⟨htyp, HRA.out⟩
  obtain ⟨zo, zc, hzv, -⟩ := hzat.rows
  generalize hok : (lookA (refsOf ts) ⟨typ, ra⟩).isSome = ok at *
  unfold rvV rV r2V at hlk
  dsimp only at hlk
  rw [hzv] at hlk
  have h4 : Ext wz (wz.alloc (.cells #[.int .i64 z.1.k, .string z.1.a, .string z.1.b, .slice zo z.1.ps.length zc] 98)) := Ext.alloc _ _
  have x3 := HX.out.cells
  have y3 := HY.out.cells
  have z3 := HZ.out.cells
  have x4 := (HX.out.below h4).cells
  have z4 := (HZ.out.below h4).cells
  have HB4 := Lib.hid (show Below w.heap.size w (wz.alloc (.cells #[.int .i64 z.1.k, .string z.1.a, .string z.1.b, .slice zo z.1.ps.length zc] 98)) from Ext.trans XWZ.out h4)
  have HBK4 := Lib.hid (HBK.out.up h4)
  have hmf : ∀ (fn : Fn) (first cap : Array Value) (W : World), (Instr.makeFunc fn first cap).run Tryz.prog W = .ok (.func fn first cap) W := fun _ _ _ _ => rfl
  have HCF := Lib.hid (containsRF_any _ ps k ra rb _ 156 #[.pointer (some ⟨w.heap.size, 0, none⟩), .pointer (some ⟨w.heap.size + 1, 0, none⟩)] (enters_of Tryz.func156 (by kernel_rfl) rfl) (fun p => !p.pnamed (refsOf ts) typ) (hat.up HB4.out) (fun i hi W pvi hW hati => named1_any ps[i] pvi _ _ W _ ((HX.out.below h4).below hW) ((HY.out.below h4).below hW) hati
    ((IH.out ps[i] (List.getElem_mem hi) pvi _ ((HBK4.out.up hW).up (Ext.alloc _ _)) (hati.up (Ext.alloc _ _)) (HOP.out _ (List.getElem_mem hi))).mono fun e w' hr => ⟨hr.1, Ext.trans (Ext.alloc _ _) hr.2⟩)))
  clear hbk hzat hzv hat ex ey xwx xxy xyz h4
  subst hwz hwy hwx
  go_enter Tryz.func106, Tryz.ntmps106
  go_wp2_with fail
  refine HCF.out.mono ?_
  rintro e w5 ⟨rfl, hb5⟩
  have HBE := Lib.hid (HB4.out.trans (hb5.mono HB4.out.size))
  clear HCF hb5 x3 y3 z3 x4 z4 hlk
  go_wp2_with fail
  go_ret
  exact ⟨by rw [HE.out, List.not_any_eq_all_not]; simp, HBE.out⟩
end Go.Proofs.YtjdigpfipmckhaaGreat
namespace Go.Proofs.YtjdigpfipmckhaaGreat
open Go Go.RowKit Go.Maps
abbrev blR (l : List R2) : List (R2 × Bool) := l.map fun p => (p, true)
theorem put_blR (l : List R2) (a : R2) (h : a ∉ l) : putA (blR l) a true = blR (l ++ [a]) := by
  rw [put_miss (fun p hp e => h (by obtain ⟨x, hx, rfl⟩ := List.mem_map.1 hp; exact e ▸ hx))]
  simp [blR]
theorem put_blR_in (l : List R2) (a : R2) (h : a ∈ l) : putA (blR l) a true = blR l := by
  induction l with
  | nil => simp at h
  | cons x r ih =>
    simp only [blR, List.map_cons, putA] at *
    by_cases e : x = a
    · subst e; simp
    · rw [if_neg e]
      rw [ih (by simpa [Ne.symm e] using h)]
end Go.Proofs.YtjdigpfipmckhaaGreat
namespace Go.Proofs.YtjdigpfipmckhaaGreat
open Go Go.RowKit Go.Maps
def namesT (t : TyS) : List R2 := ⟨t.name, ByteArray.empty⟩ :: t.rels.map fun r => ⟨t.name, r.1⟩
def namesOf (ts : List TyS) : List R2 := ts.flatMap namesT
theorem namesOf_take {l : List TyS} {i : Nat} (hi : i < l.length) : namesOf (l.take (i + 1)) = namesOf (l.take i) ++ namesT l[i] := by
  rw [List.take_succ_eq_append_getElem hi]
  simp only [namesOf, List.flatMap_append, List.flatMap_cons, List.flatMap_nil, List.append_nil]
theorem own_ne {s : ByteArray} (h : ownB s = true) : s ≠ ByteArray.empty := by
  rintro rfl
  revert h
  decide
theorem names_nodup {ts : List TyS} (hp : printOk ts = true) : (namesOf ts).Nodup ↔ uniqOk ts = true := by
  have hown : ∀ t ∈ ts, ∀ r ∈ t.rels, r.1 ≠ ByteArray.empty := fun t ht r hr => by
    have h1 := List.all_eq_true.1 hp t ht
    unfold tyOk at h1
    rw [Bool.and_eq_true] at h1
    have h2 := List.all_eq_true.1 h1.2 r hr
    unfold relOk at h2
    simp only [Bool.and_eq_true] at h2
    exact own_ne h2.1.2
  constructor
  · intro h
    refine uniq_of fun j hj => ⟨fun m hm _ hmj he => ?_, ?_⟩
    · have h1 := List.pairwise_iff_getElem.1 (List.pairwise_flatMap.1 h).2 m j hm hj hmj
      exact h1 ⟨ts[m].name, ByteArray.empty⟩ List.mem_cons_self ⟨ts[j].name, ByteArray.empty⟩ List.mem_cons_self (by rw [he])
    · have h1 := (List.pairwise_flatMap.1 h).1 ts[j] (List.getElem_mem hj)
      have h2 := (List.nodup_cons.1 (show (namesT ts[j]).Nodup from h1)).2
      refine List.Pairwise.map _ ?_ (List.Pairwise.of_map _ (R := fun a b : ByteArray × RT => a.1 ≠ b.1) ?_ h2)
      · exact fun a b h => h
      · exact fun a b hne e => hne (by rw [e])
  · intro h
    refine List.pairwise_flatMap.2 ⟨fun t ht => ?_, List.pairwise_iff_getElem.2 fun m j hm hj hmj => ?_⟩
    · obtain ⟨j, hj, rfl⟩ := List.getElem_of_mem ht
      refine List.nodup_cons.2 ⟨fun hm => ?_, ?_⟩
      · obtain ⟨r, hr, he⟩ := List.mem_map.1 hm
        injection he with _ he
        exact hown _ ht r hr he
      · have h1 := (uniq_at h hj).2
        refine List.Pairwise.map _ ?_ (List.Pairwise.of_map _ (R := fun a b : ByteArray × RT => a.1 ≠ b.1) (fun a b h => h) h1)
        exact fun a b hne e => hne (by injection e)
    · intro x hx y hy e
      subst e
      have h1 := (uniq_at h hj).1 m hm hj hmj
      have n1 : x.t = ts[m].name := by
        rcases List.mem_cons.1 hx with rfl | hx
        · rfl
        · obtain ⟨r, _, rfl⟩ := List.mem_map.1 hx
          rfl
      have n2 : x.t = ts[j].name := by
        rcases List.mem_cons.1 hy with rfl | hy
        · rfl
        · obtain ⟨r, _, rfl⟩ := List.mem_map.1 hy
          rfl
      exact h1 (n1.symm.trans n2)
structure NamesI (L N : List R2) : Prop where
  mem : ∀ x, x ∈ N ↔ x ∈ L
  le : N.length ≤ L.length
  eq : N.length = L.length ↔ L.Nodup
theorem NamesI.nil : NamesI [] [] := ⟨fun _ => Iff.rfl, Nat.le_refl _, by simp⟩
def addR (N : List R2) (x : R2) : List R2 := if x ∈ N then N else N ++ [x]
theorem addR_len (N : List R2) (x : R2) : (addR N x).length ≤ N.length + 1 := by
  unfold addR
  split <;> simp
theorem addR_mem (N : List R2) (x y : R2) : y ∈ addR N x ↔ y ∈ N ∨ y = x := by
  unfold addR
  split
  · rename_i h
    exact ⟨.inl, fun hy => hy.elim id fun e => e ▸ h⟩
  · simp
theorem put_addR (N : List R2) (x : R2) : putA (blR N) x true = blR (addR N x) := by
  unfold addR
  split
  · rename_i h; exact put_blR_in N x h
  · rename_i h; exact put_blR N x h
theorem NamesI.step {L N : List R2} (h : NamesI L N) (x : R2) : NamesI (L ++ [x]) (addR N x) := by
  refine ⟨fun y => by rw [addR_mem, h.mem, List.mem_append, List.mem_singleton], ?_, ?_⟩
  · have := addR_len N x
    have := h.le
    simp
    omega
  · unfold addR
    split
    · rename_i hx
      have h1 := h.le
      have h2 := (h.mem x).1 hx
      rw [List.length_append, List.nodup_append]
      simp only [List.length_cons, List.length_nil]
      constructor
      · omega
      · rintro ⟨_, _, h3⟩
        exact absurd rfl (h3 x h2 x (by simp))
    · rename_i hx
      have h2 : ¬ x ∈ L := fun h3 => hx ((h.mem x).2 h3)
      rw [List.length_append, List.length_append, List.nodup_append]
      simp only [List.length_cons, List.length_nil]
      constructor
      · intro h3
        refine ⟨h.eq.1 (by omega), by simp, fun a ha b hb => ?_⟩
        obtain rfl := List.mem_singleton.1 hb
        exact fun e => h2 (e ▸ ha)
      · rintro ⟨h3, _, _⟩
        have := h.eq.2 h3
        omega
theorem NamesI.lt {L N : List R2} (h : NamesI L N) : N.length < L.length ↔ ¬ L.Nodup := by
  rw [← h.eq]
  have := h.le
  omega
theorem refs_mem {ts : List TyS} {p : R2 × RT} : p ∈ refsOf ts ↔ ∃ t ∈ ts, ∃ r ∈ t.rels, p = (⟨t.name, r.1⟩, r.2) := by
  unfold refsOf relsOf
  rw [List.mem_flatMap]
  constructor
  · rintro ⟨t, ht, hp⟩
    obtain ⟨r, hr, rfl⟩ := List.mem_map.1 hp
    exact ⟨t, ht, r, hr, rfl⟩
  · rintro ⟨t, ht, r, hr, rfl⟩
    exact ⟨t, ht, List.mem_map.2 ⟨r, hr, rfl⟩⟩
theorem uniq_eq {ts : List TyS} (h : uniqOk ts = true) {t u : TyS} (ht : t ∈ ts) (hu : u ∈ ts) (he : t.name = u.name) : t = u := by
  obtain ⟨i, hi, rfl⟩ := List.getElem_of_mem ht
  obtain ⟨j, hj, rfl⟩ := List.getElem_of_mem hu
  rcases Nat.lt_trichotomy i j with h1 | h1 | h1
  · exact absurd he ((uniq_at h hj).1 i hi hj h1)
  · subst h1; rfl
  · exact absurd he.symm ((uniq_at h hi).1 j hj hi h1)
theorem look_has {ts : List TyS} (h : uniqOk ts = true) {t : TyS} (ht : t ∈ ts) (a : ByteArray) : (lookA (refsOf ts) ⟨t.name, a⟩).isSome = hasT t a := by
  cases hl : lookA (refsOf ts) ⟨t.name, a⟩ with
  | none =>
    have h1 := look_none_iff.1 hl
    symm
    show hasT t a = false
    unfold hasT
    rw [List.any_eq_false]
    intro r hr he
    have he : r.1 = a := of_decide_eq_true he
    exact h1 _ (refs_mem.2 ⟨t, ht, r, hr, rfl⟩) (by rw [he])
  | some x =>
    obtain ⟨u, hu, r, hr, e⟩ := refs_mem.1 (look_mem hl)
    injection e with e1 e2
    injection e1 with e3 e4
    obtain rfl := uniq_eq h ht hu e3
    symm
    show hasT t a = true
    unfold hasT
    exact List.any_eq_true.2 ⟨r, hr, decide_eq_true e4.symm⟩
theorem where_any (ts : List TyS) (b : ByteArray) : decide (0 < (whereP (refsOf ts) b).length) = anyT ts b := by
  rw [Bool.eq_iff_iff, decide_eq_true_eq]
  unfold whereP anyT
  rw [List.length_map, List.any_eq_true]
  constructor
  · intro h
    obtain ⟨x, hx⟩ := List.exists_mem_of_length_pos h
    rw [List.mem_filter, decide_eq_true_eq] at hx
    obtain ⟨u, hu, r, hr, rfl⟩ := refs_mem.1 hx.1
    exact ⟨u, hu, List.any_eq_true.2 ⟨r, hr, decide_eq_true hx.2⟩⟩
  · rintro ⟨u, hu, h⟩
    obtain ⟨r, hr, he⟩ := List.any_eq_true.1 h
    exact List.length_pos_of_mem (List.mem_filter.2 ⟨refs_mem.2 ⟨u, hu, r, hr, rfl⟩, he⟩)
theorem textOk_leaf {k : Int} {a b : ByteArray} {ps : List RT} {d : Nat} (h : (RT.mk k a b ps).textOk d = true) (hk : k = 2 ∨ k = 3) : ps = [] := by
  rw [RT.textOk] at h
  rcases hk with rfl | rfl
  · simp only [Int.reduceEq, if_false, if_true, Bool.and_eq_true, decide_eq_true_eq] at h
    exact List.eq_nil_of_length_eq_zero h.2
  · simp only [Int.reduceEq, if_false, if_true, Bool.and_eq_true, decide_eq_true_eq] at h
    exact List.eq_nil_of_length_eq_zero h.2
theorem textOk_parts {k : Int} {a b : ByteArray} {ps : List RT} {d : Nat} (h : (RT.mk k a b ps).textOk d = true) : ∀ p ∈ ps, ∃ d', p.textOk d' = true := by
  intro p hp
  by_cases h4 : k = 4 ∨ k = 5
  · have hn : k ≠ 1 ∧ k ≠ 2 ∧ k ≠ 3 := by omega
    rw [RT.textOk, if_neg hn.1, if_neg hn.2.1, if_neg hn.2.2, if_pos h4, textL_eq, Bool.and_eq_true] at h
    have h1 := List.all_eq_true.1 h.2 p hp
    unfold goodP at h1
    rw [Bool.and_eq_true] at h1
    exact ⟨_, h1.2⟩
  · exfalso
    have hnil : ps = [] := by
      rw [RT.textOk] at h
      by_cases k1 : k = 1
      · subst k1
        simp only [if_true, Bool.and_eq_true, decide_eq_true_eq] at h
        exact List.eq_nil_of_length_eq_zero h.2
      · by_cases k2 : k = 2
        · subst k2
          simp only [Int.reduceEq, if_false, if_true, Bool.and_eq_true, decide_eq_true_eq] at h
          exact List.eq_nil_of_length_eq_zero h.2
        · by_cases k3 : k = 3
          · subst k3
            simp only [Int.reduceEq, if_false, if_true, Bool.and_eq_true, decide_eq_true_eq] at h
            exact List.eq_nil_of_length_eq_zero h.2
          · rw [if_neg k1, if_neg k2, if_neg k3, if_neg h4] at h
            cases h
    rw [hnil] at hp
    cases hp
theorem named_eq2 {ts : List TyS} (h : uniqOk ts = true) {t : TyS} (ht : t ∈ ts) (r : RT) : ∀ d, r.textOk d = true → r.pnamed (refsOf ts) t.name = r.named ts t := by
  induction r using RT.ind with
  | h r ih =>
    intro d hd
    obtain ⟨k, a, b, ps⟩ := r
    dsimp only [RT.ps] at ih
    rw [RT.pnamed, RT.named, pnamedL_eq, namedL_eq]
    unfold headOk
    by_cases k2 : k = 2
    · subst k2
      obtain rfl := textOk_leaf hd (.inl rfl)
      rw [if_pos rfl, look_has h ht]
      simp
    · by_cases k3 : k = 3
      · subst k3
        obtain rfl := textOk_leaf hd (.inr rfl)
        rw [if_neg k2, if_pos rfl, look_has h ht, where_any]
        simp
      · rw [if_neg k2, if_neg k3]
        have e2 : (k == 2) = false := by rw [beq_eq_false_iff_ne]; exact k2
        have e3 : (k == 3) = false := by rw [beq_eq_false_iff_ne]; exact k3
        rw [e2, e3]
        simp only [Bool.false_and, Bool.or_false, Bool.not_false, Bool.true_and]
        rw [Bool.eq_iff_iff, List.all_eq_true, List.all_eq_true]
        constructor <;> intro hall p hp
        · obtain ⟨d', hd'⟩ := textOk_parts hd p hp
          rw [← ih p hp d' hd']
          exact hall p hp
        · obtain ⟨d', hd'⟩ := textOk_parts hd p hp
          rw [ih p hp d' hd']
          exact hall p hp
theorem rel_text {ts : List TyS} (hp : printOk ts = true) {t : TyS} (ht : t ∈ ts) {r : ByteArray × RT} (hr : r ∈ t.rels) : r.2.textOk 0 = true := by
  have h1 := List.all_eq_true.1 hp t ht
  unfold tyOk at h1
  rw [Bool.and_eq_true] at h1
  have h2 := List.all_eq_true.1 h1.2 r hr
  unfold relOk at h2
  simp only [Bool.and_eq_true] at h2
  exact h2.1.1
theorem names_all {ts : List TyS} (hp : printOk ts = true) (hu : uniqOk ts = true) : (∀ x ∈ refsOf ts, x.2.pnamed (refsOf ts) x.1.t = true) ↔ namesOk ts = true := by
  unfold namesOk
  rw [List.all_eq_true]
  constructor
  · intro h t ht
    rw [List.all_eq_true]
    intro r hr
    rw [← named_eq2 hu ht r.2 0 (rel_text hp ht hr)]
    exact h _ (refs_mem.2 ⟨t, ht, r, hr, rfl⟩)
  · intro h x hx
    obtain ⟨t, ht, r, hr, rfl⟩ := refs_mem.1 hx
    dsimp only
    rw [named_eq2 hu ht r.2 0 (rel_text hp ht hr)]
    exact List.all_eq_true.1 (h t ht) r hr
end Go.Proofs.YtjdigpfipmckhaaGreat
