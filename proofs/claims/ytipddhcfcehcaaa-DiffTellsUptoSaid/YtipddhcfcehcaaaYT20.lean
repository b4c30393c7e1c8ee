/- Lemmas for the claim, no condition. -/
import Derived.Laws.EntriesVeiled
import Derived.Shelf.Abstract
import Derived.Sort.MapsRangeIn
import Derived.RangeFuncGives
import Derived.RangeFuncNested
import Derived.WalkKit
import Derived.TacticsInMore
import Derived.RegionIn
import Derived.LoopNIn
import Derived.LoopIn
import Derived.Sort.KeysCollected
import Derived.RangeFuncLeaves
import Derived.OwnWalkIn
import Derived.Test.YtipddhcfcehcaaaYT16
import Derived.Test.YtipddhcfcehcaaaYT2
import Derived.Test.YtipddhcfcehcaaaYT1
import Derived.Test.YtipddhcfcehcaaaYT12
namespace Go.Proofs.Ytipddhcfcehcaaa
open Go Go.RowKit Go.Maps Go.Shelf

mutual
/-- Is all that a rule names there, by a book of the relations P? -/
def RT.pnamed (P : List (R2 × RT)) (typ : ByteArray) : RT → Bool
  | .mk k a b ps => if k = 2 then (lookA P ⟨typ, a⟩).isSome else if k = 3 then (lookA P ⟨typ, a⟩).isSome && decide (0 < (whereP P b).length) else pnamedL P typ ps
def pnamedL (P : List (R2 × RT)) (typ : ByteArray) : List RT → Bool | [] => true | r :: rs => r.pnamed P typ && pnamedL P typ rs
end
theorem pnamedL_eq (P : List (R2 × RT)) (typ : ByteArray) : ∀ l : List RT, pnamedL P typ l = l.all fun r => r.pnamed P typ
  | [] => rfl
  | r :: rs => by rw [pnamedL, List.all_cons, pnamedL_eq P typ rs]
set_option maxRecDepth 100000 in
set_option maxHeartbeats 2000000 in
theorem named1_any {b1 b2 b3 : Nat} {typ : ByteArray} (p : RT) (pv : Value) (X Y : Nat) (w : World) (g : Bool) (hX : Blk w X #[.map (some b1), .map (some b2), .map (some b3)] 117) (hY : Blk w Y #[.string typ] 9) (hat : RTAt (· < w.heap.size) w p pv)
    (h : Calls Try.prog 84 #[.agg #[.map (some b1), .map (some b2), .map (some b3)], .string typ, rV p pv] (w.alloc (.cells #[.int .i64 p.k, .string p.a, .string p.b, pv] 72)) fun e w' => e = .returned (.bool g) ∧ Below w.heap.size w w') :
    Calls Try.prog 102 #[rV p pv, .pointer (some ⟨X, 0, none⟩), .pointer (some ⟨Y, 0, none⟩)] w fun e w' => e = .returned (.bool (!g)) ∧ Below w.heap.size w w' := by
  have HC := Lib.hid h
  obtain ⟨ao, c, rfl, -⟩ := hat.rows
  have hb := (Blk.made w #[.int .i64 p.k, .string p.a, .string p.b, .slice ao p.ps.length c] 72).cells
  have hx := (hX.alloc (.cells #[.int .i64 p.k, .string p.a, .string p.b, .slice ao p.ps.length c] 72)).cells
  have hy := (hY.alloc (.cells #[.int .i64 p.k, .string p.a, .string p.b, .slice ao p.ps.length c] 72)).cells
  clear h hX hY hat
  unfold rV at HC ⊢
  go_enter Try.func102, Try.ntmps102
  go_wp2_with fail
  refine HC.out.mono ?_
  rintro e w2 ⟨rfl, hb2⟩
  have HB := Lib.hid hb2
  clear HC hb hx hy hb2
  go_wp2_with fail
  go_ret
  exact ⟨rfl, HB.out⟩

set_option maxRecDepth 100000 in
set_option maxHeartbeats 4000000 in
theorem pnamed_any {b1 b2 b3 : Nat} {ts : List TyS} (typ : ByteArray) (htyp : typ.size ≤ maxLen) (r : RT) : ∀ (pv : Value) (w : World), Bk w b1 b2 b3 ts → RTAt (· < w.heap.size) w r pv → r.Ok →
    Calls Try.prog 84 #[.agg #[.map (some b1), .map (some b2), .map (some b3)], .string typ, rV r pv] w fun e w' => e = .returned (.bool (r.pnamed (refsOf ts) typ)) ∧ Below w.heap.size w w' := by
  induction r using RT.ind with
  | h r ih =>
  intro pv w hbk hat hok
  obtain ⟨-, hoa, hob, hop⟩ := r.ok_iff.1 hok
  obtain ⟨k, ra, rb, ps⟩ := r
  obtain ⟨ao, c, rfl, -⟩ := hat.rows
  dsimp only [RT.k, RT.a, RT.b, RT.ps] at hoa hob hop ih
  have IH := Lib.hid ih
  have HOP := Lib.hid hop
  have HRA := Lib.hid (show ra.size ≤ maxLen from by unfold maxLen; omega)
  have HRB := Lib.hid (show rb.size ≤ maxLen from by unfold maxLen; omega)
  unfold rV
  dsimp only [RT.k, RT.a, RT.b, RT.ps]
  clear ih hop hoa hob hok
  by_cases k2 : k = 2
  · subst k2
    have HE := Lib.hid (show (RT.mk 2 ra rb ps).pnamed (refsOf ts) typ = (lookA (refsOf ts) ⟨typ, ra⟩).isSome from by rw [RT.pnamed]; rfl)
    obtain ⟨wx, hwx⟩ : ∃ x, x = w.alloc (.cells #[.map (some b1), .map (some b2), .map (some b3)] 117) := ⟨_, rfl⟩
    obtain ⟨wy, hwy⟩ : ∃ x, x = wx.alloc (.cells #[.string typ] 9) := ⟨_, rfl⟩
    obtain ⟨wz, hwz⟩ : ∃ x, x = wy.alloc (.cells #[.int .i64 2, .string ra, .string rb, .slice ao ps.length c] 72) := ⟨_, rfl⟩
    have ex : wx.heap.size = w.heap.size + 1 := by rw [hwx]; simp
    have ey : wy.heap.size = w.heap.size + 1 + 1 := by rw [hwy]; simp [ex]
    have xwx : Ext w wx := by rw [hwx]; exact Ext.alloc _ _
    have xxy : Ext wx wy := by rw [hwy]; exact Ext.alloc _ _
    have xyz : Ext wy wz := by rw [hwz]; exact Ext.alloc _ _
    have HX := Lib.hid (show Blk wz w.heap.size #[.map (some b1), .map (some b2), .map (some b3)] 117 from Blk.below (by rw [hwx]; exact Blk.made _ _ _) (xxy.trans xyz))
    have HY := Lib.hid (show Blk wz (w.heap.size + 1) #[.string typ] 9 from Blk.below (by rw [hwy, ← ex]; exact Blk.made _ _ _) xyz)
    have HZ := Lib.hid (show Blk wz (w.heap.size + 1 + 1) #[.int .i64 2, .string ra, .string rb, .slice ao ps.length c] 72 from by rw [hwz, ← ey]; exact Blk.made _ _ _)
    have XWZ := Lib.hid (show Below w.heap.size w wz from xwx.trans (xxy.trans xyz))
    have HBK := Lib.hid (hbk.up XWZ.out)
    obtain ⟨z, hlk, hzat, -, -⟩ := HBK.out.R.look ⟨typ, ra⟩ ⟨htyp, HRA.out⟩
    obtain ⟨zo, zc, hzv, -⟩ := hzat.rows
    generalize hok : (lookA (refsOf ts) ⟨typ, ra⟩).isSome = ok at *
    unfold rvV rV r2V at hlk
    dsimp only at hlk
    rw [hzv] at hlk
    have h4 : Ext wz (wz.alloc (.cells #[.int .i64 z.1.k, .string z.1.a, .string z.1.b, .slice zo z.1.ps.length zc] 72)) := Ext.alloc _ _
    have x3 := HX.out.cells
    have y3 := HY.out.cells
    have z3 := HZ.out.cells
    have x4 := (HX.out.below h4).cells
    have z4 := (HZ.out.below h4).cells
    have HB4 := Lib.hid (show Below w.heap.size w (wz.alloc (.cells #[.int .i64 z.1.k, .string z.1.a, .string z.1.b, .slice zo z.1.ps.length zc] 72)) from Ext.trans XWZ.out h4)
    have HBK4 := Lib.hid (HBK.out.up h4)
    clear hbk hzat hzv hat ex ey xwx xxy xyz h4
    subst hwz hwy hwx
    go_enter Try.func84, Try.ntmps84
    go_wp2_with fail
    go_ret
    exact ⟨by rw [HE.out]; simp, HB4.out⟩
  by_cases k3 : k = 3
  · subst k3
    have HE := Lib.hid (show (RT.mk 3 ra rb ps).pnamed (refsOf ts) typ = ((lookA (refsOf ts) ⟨typ, ra⟩).isSome && decide (0 < (whereP (refsOf ts) rb).length)) from by rw [RT.pnamed]; rfl)
    clear k2
    obtain ⟨wx, hwx⟩ : ∃ x, x = w.alloc (.cells #[.map (some b1), .map (some b2), .map (some b3)] 117) := ⟨_, rfl⟩
    obtain ⟨wy, hwy⟩ : ∃ x, x = wx.alloc (.cells #[.string typ] 9) := ⟨_, rfl⟩
    obtain ⟨wz, hwz⟩ : ∃ x, x = wy.alloc (.cells #[.int .i64 3, .string ra, .string rb, .slice ao ps.length c] 72) := ⟨_, rfl⟩
    have ex : wx.heap.size = w.heap.size + 1 := by rw [hwx]; simp
    have ey : wy.heap.size = w.heap.size + 1 + 1 := by rw [hwy]; simp [ex]
    have xwx : Ext w wx := by rw [hwx]; exact Ext.alloc _ _
    have xxy : Ext wx wy := by rw [hwy]; exact Ext.alloc _ _
    have xyz : Ext wy wz := by rw [hwz]; exact Ext.alloc _ _
    have HX := Lib.hid (show Blk wz w.heap.size #[.map (some b1), .map (some b2), .map (some b3)] 117 from Blk.below (by rw [hwx]; exact Blk.made _ _ _) (xxy.trans xyz))
    have HY := Lib.hid (show Blk wz (w.heap.size + 1) #[.string typ] 9 from Blk.below (by rw [hwy, ← ex]; exact Blk.made _ _ _) xyz)
    have HZ := Lib.hid (show Blk wz (w.heap.size + 1 + 1) #[.int .i64 3, .string ra, .string rb, .slice ao ps.length c] 72 from by rw [hwz, ← ey]; exact Blk.made _ _ _)
    have XWZ := Lib.hid (show Below w.heap.size w wz from xwx.trans (xxy.trans xyz))
    have HBK := Lib.hid (hbk.up XWZ.out)
    obtain ⟨z, hlk, hzat, -, -⟩ := HBK.out.R.look ⟨typ, ra⟩ ⟨htyp, HRA.out⟩
    obtain ⟨zo, zc, hzv, -⟩ := hzat.rows
    generalize hok : (lookA (refsOf ts) ⟨typ, ra⟩).isSome = ok at *
    unfold rvV rV r2V at hlk
    dsimp only at hlk
    rw [hzv] at hlk
    have h4 : Ext wz (wz.alloc (.cells #[.int .i64 z.1.k, .string z.1.a, .string z.1.b, .slice zo z.1.ps.length zc] 72)) := Ext.alloc _ _
    have x3 := HX.out.cells
    have y3 := HY.out.cells
    have z3 := HZ.out.cells
    have x4 := (HX.out.below h4).cells
    have z4 := (HZ.out.below h4).cells
    have HB4 := Lib.hid (show Below w.heap.size w (wz.alloc (.cells #[.int .i64 z.1.k, .string z.1.a, .string z.1.b, .slice zo z.1.ps.length zc] 72)) from Ext.trans XWZ.out h4)
    have HBK4 := Lib.hid (HBK.out.up h4)
    obtain ⟨v, hlw, hov, -⟩ := HBK4.out.W.look rb HRB.out
    obtain ⟨vo, vn, vc, rfl, hvn, -, -⟩ := hov.sl.len
    rw [txs_length, Nat.mul_one] at hvn
    subst hvn
    clear hov
    clear hbk hzat hzv hat ex ey xwx xxy xyz h4
    subst hwz hwy hwx
    cases ok with
    | false =>
      go_enter Try.func84, Try.ntmps84
      go_wp2_with fail
      go_ret
      exact ⟨by rw [HE.out]; simp, HB4.out⟩
    | true =>
      by_cases hp : 0 < (whereP (refsOf ts) rb).length
      · have hpI : (0 : Int) < ((whereP (refsOf ts) rb).length : Int) := by omega
        have HP := Lib.hid hp
        clear hp
        go_enter Try.func84, Try.ntmps84
        go_wp2_with fail
        go_ret
        exact ⟨by rw [HE.out, decide_eq_true HP.out]; simp, HB4.out⟩
      · have hpI : ¬ ((0 : Int) < ((whereP (refsOf ts) rb).length : Int)) := by omega
        have HP := Lib.hid hp
        clear hp
        go_enter Try.func84, Try.ntmps84
        go_wp2_with fail
        go_ret
        exact ⟨by rw [HE.out, decide_eq_false HP.out]; simp, HB4.out⟩
  have q2 : (k == 2) = false := by rw [beq_eq_false_iff_ne]; exact k2
  have q3 : (k == 3) = false := by rw [beq_eq_false_iff_ne]; exact k3
  have HE := Lib.hid (show (RT.mk k ra rb ps).pnamed (refsOf ts) typ = ps.all fun r => r.pnamed (refsOf ts) typ from by rw [RT.pnamed, if_neg k2, if_neg k3, pnamedL_eq])
  clear k2 k3
  obtain ⟨wx, hwx⟩ : ∃ x, x = w.alloc (.cells #[.map (some b1), .map (some b2), .map (some b3)] 117) := ⟨_, rfl⟩
  obtain ⟨wy, hwy⟩ : ∃ x, x = wx.alloc (.cells #[.string typ] 9) := ⟨_, rfl⟩
  obtain ⟨wz, hwz⟩ : ∃ x, x = wy.alloc (.cells #[.int .i64 k, .string ra, .string rb, .slice ao ps.length c] 72) := ⟨_, rfl⟩
  have ex : wx.heap.size = w.heap.size + 1 := by rw [hwx]; simp
  have ey : wy.heap.size = w.heap.size + 1 + 1 := by rw [hwy]; simp [ex]
  have xwx : Ext w wx := by rw [hwx]; exact Ext.alloc _ _
  have xxy : Ext wx wy := by rw [hwy]; exact Ext.alloc _ _
  have xyz : Ext wy wz := by rw [hwz]; exact Ext.alloc _ _
  have HX := Lib.hid (show Blk wz w.heap.size #[.map (some b1), .map (some b2), .map (some b3)] 117 from Blk.below (by rw [hwx]; exact Blk.made _ _ _) (xxy.trans xyz))
  have HY := Lib.hid (show Blk wz (w.heap.size + 1) #[.string typ] 9 from Blk.below (by rw [hwy, ← ex]; exact Blk.made _ _ _) xyz)
  have HZ := Lib.hid (show Blk wz (w.heap.size + 1 + 1) #[.int .i64 k, .string ra, .string rb, .slice ao ps.length c] 72 from by rw [hwz, ← ey]; exact Blk.made _ _ _)
  have XWZ := Lib.hid (show Below w.heap.size w wz from xwx.trans (xxy.trans xyz))
  have HBK := Lib.hid (hbk.up XWZ.out)
  obtain ⟨z, hlk, hzat, -, -⟩ := HBK.out.R.look ⟨typ, ra⟩ ⟨htyp, HRA.out⟩
  obtain ⟨zo, zc, hzv, -⟩ := hzat.rows
  generalize hok : (lookA (refsOf ts) ⟨typ, ra⟩).isSome = ok at *
  unfold rvV rV r2V at hlk
  dsimp only at hlk
  rw [hzv] at hlk
  have h4 : Ext wz (wz.alloc (.cells #[.int .i64 z.1.k, .string z.1.a, .string z.1.b, .slice zo z.1.ps.length zc] 72)) := Ext.alloc _ _
  have x3 := HX.out.cells
  have y3 := HY.out.cells
  have z3 := HZ.out.cells
  have x4 := (HX.out.below h4).cells
  have z4 := (HZ.out.below h4).cells
  have HB4 := Lib.hid (show Below w.heap.size w (wz.alloc (.cells #[.int .i64 z.1.k, .string z.1.a, .string z.1.b, .slice zo z.1.ps.length zc] 72)) from Ext.trans XWZ.out h4)
  have HBK4 := Lib.hid (HBK.out.up h4)
  have hmf : ∀ (fn : Fn) (first cap : Array Value) (W : World), (Instr.makeFunc fn first cap).run Try.prog W = .ok (.func fn first cap) W := fun _ _ _ _ => rfl
  have HCF := Lib.hid (containsRF_any _ ps k ra rb _ 102 #[.pointer (some ⟨w.heap.size, 0, none⟩), .pointer (some ⟨w.heap.size + 1, 0, none⟩)] (enters_of Try.func102 (by kernel_rfl) rfl) (fun p => !p.pnamed (refsOf ts) typ) (hat.up HB4.out) (fun i hi W pvi hW hati => named1_any ps[i] pvi _ _ W _ ((HX.out.below h4).below hW) ((HY.out.below h4).below hW) hati
    ((IH.out ps[i] (List.getElem_mem hi) pvi _ ((HBK4.out.up hW).up (Ext.alloc _ _)) (hati.up (Ext.alloc _ _)) (HOP.out _ (List.getElem_mem hi))).mono fun e w' hr => ⟨hr.1, Ext.trans (Ext.alloc _ _) hr.2⟩)))
  clear hbk hzat hzv hat ex ey xwx xxy xyz h4
  subst hwz hwy hwx
  go_enter Try.func84, Try.ntmps84
  go_wp2_with fail
  refine HCF.out.mono ?_
  rintro e w5 ⟨rfl, hb5⟩
  have HBE := Lib.hid (HB4.out.trans (hb5.mono HB4.out.size))
  clear HCF hb5 x3 y3 z3 x4 z4 hlk
  go_wp2_with fail
  go_ret
  exact ⟨by rw [HE.out, List.not_any_eq_all_not]; simp, HBE.out⟩

end Go.Proofs.Ytipddhcfcehcaaa
namespace Go.Proofs.Ytipddhcfcehcaaa
open Go Go.RowKit

/-- Points in order, each once. -/
def UpR (l : List R2) : Prop := l.Pairwise fun a b => ltR a b = true
end Go.Proofs.Ytipddhcfcehcaaa
namespace Go.Proofs.Ytipddhcfcehcaaa
open Go Go.RowKit Go.Maps

theorem Kept.grown {w w' : World} {r : Nat} (h : Kept (· ≠ r) w w') : w.grownBy w' (some r) := ⟨h.os, h.tape, h.output, h.size, fun k _ hk => h.block k fun e => hk (by rw [e])⟩
end Go.Proofs.Ytipddhcfcehcaaa
namespace Go.Proofs.Ytipddhcfcehcaaa
open Go Go.RowKit Go.Maps

open Classical in
section
variable {P : Program} {k t e : TypeId} {κ α : Type} {kv : κ → Value} {ev : α → Value} {w : World}
/-- A map that may be nil. -/
def MpO (P : Program) (k : TypeId) (kv : κ → Value) (ev : α → Value) (w : World) : Option Nat → List (κ × α) → Prop
  | none, l => l = []
  | some b, l => Mp P k kv ev w b l
theorem MpO.nodup {mb : Option Nat} {l : List (κ × α)} (h : MpO P k kv ev w mb l) : (l.map (·.1)).Nodup := by
  cases mb with
  | none => obtain rfl : l = [] := h; simp
  | some b => exact Mp.nodup (show Mp P k kv ev w b l from h)
theorem MpO.below {w' : World} {mb : Option Nat} {l : List (κ × α)} (h : MpO P k kv ev w mb l) (hb : Below w.heap.size w w') : MpO P k kv ev w' mb l := by
  cases mb with
  | none => exact h
  | some b => exact Mp.below (show Mp P k kv ev w b l from h) hb
theorem MpO.same {w' : World} {mb : Option Nat} {l : List (κ × α)} (h : MpO P k kv ev w mb l) (hb : ∀ b, mb = some b → w'.heap[b]? = w.heap[b]?) : MpO P k kv ev w' mb l := by
  cases mb with
  | none => exact h
  | some b => exact Mp.same (show Mp P k kv ev w b l from h) (hb b rfl)
theorem MpO.look [DecidableEq κ] {mb : Option Nat} {l : List (κ × α)} (h : MpO P k kv ev w mb l) (K : Keyed P k) (inj : ∀ a b, kv a = kv b → a = b) (ht : P.underlying t = some (.map k e)) {z : Value} (hz : (zeroValue e).run P w = .ok z w) {a : κ} (hk : ∃ q, keyOf P k (kv a) = some q) :
    (Instr.lookup t (.map mb) (kv a) false).run P w = .ok (match lookA l a with | some x => ev x | none => z) w := by
  cases mb with
  | none =>
    obtain rfl : l = [] := h
    obtain ⟨q, hq⟩ := hk
    have hf : (Instr.findKey k (kv a) []).run P w = .ok none w := by
      rcases K.find w hq [] (by simp) with ⟨h1, _⟩ | ⟨j, e0, _, h2, _⟩
      · exact h1
      · simp at h2
    simp [Instr.lookup, run_underlying ht, K.check w _ hq, hf, hz, Result.andThen, lookA]
  | some b =>
    have := Mp.look (show Mp P k kv ev w b l from h) K inj ht hz false hk
    rw [this]
    cases lookA l a <;> rfl
end

end Go.Proofs.Ytipddhcfcehcaaa
namespace Go.Proofs.Ytipddhcfcehcaaa
open Go Go.RowKit Go.Maps

abbrev blR (l : List R2) : List (R2 × Bool) := l.map fun p => (p, true)
theorem put_blR (l : List R2) (a : R2) (h : a ∉ l) : putA (blR l) a true = blR (l ++ [a]) := by
  rw [put_miss (fun p hp e => h (by obtain ⟨x, hx, rfl⟩ := List.mem_map.1 hp; exact e ▸ hx))]
  simp [blR]
theorem put_blR_in (l : List R2) (a : R2) (h : a ∈ l) : putA (blR l) a true = blR l := by
  induction l with
  | nil => simp at h
  | cons x r ih =>
    simp only [blR, List.map_cons, putA] at *
    by_cases e : x = a
    · subst e; simp
    · rw [if_neg e]
      rw [ih (by simpa [Ne.symm e] using h)]
end Go.Proofs.Ytipddhcfcehcaaa
namespace Go.Proofs.Ytipddhcfcehcaaa
open Go Go.RowKit Go.Maps

/-- The names of a schema: of each type, of each relation. -/
def namesT (t : TyS) : List R2 := ⟨t.name, ByteArray.empty⟩ :: t.rels.map fun r => ⟨t.name, r.1⟩
def namesOf (ts : List TyS) : List R2 := ts.flatMap namesT
theorem namesOf_take {l : List TyS} {i : Nat} (hi : i < l.length) : namesOf (l.take (i + 1)) = namesOf (l.take i) ++ namesT l[i] := by
  rw [List.take_succ_eq_append_getElem hi]
  simp only [namesOf, List.flatMap_append, List.flatMap_cons, List.flatMap_nil, List.append_nil]
theorem own_ne {s : ByteArray} (h : ownB s = true) : s ≠ ByteArray.empty := by
  rintro rfl
  revert h
  decide
theorem names_nodup {ts : List TyS} (hp : printOk ts = true) : (namesOf ts).Nodup ↔ uniqOk ts = true := by
  have hown : ∀ t ∈ ts, ∀ r ∈ t.rels, r.1 ≠ ByteArray.empty := fun t ht r hr => by
    have h1 := List.all_eq_true.1 hp t ht
    unfold tyOk at h1
    rw [Bool.and_eq_true] at h1
    have h2 := List.all_eq_true.1 h1.2 r hr
    unfold relOk at h2
    simp only [Bool.and_eq_true] at h2
    exact own_ne h2.1.2
  constructor
  · intro h
    refine uniq_of fun j hj => ⟨fun m hm _ hmj he => ?_, ?_⟩
    · have h1 := List.pairwise_iff_getElem.1 (List.pairwise_flatMap.1 h).2 m j hm hj hmj
      exact h1 ⟨ts[m].name, ByteArray.empty⟩ List.mem_cons_self ⟨ts[j].name, ByteArray.empty⟩ List.mem_cons_self (by rw [he])
    · have h1 := (List.pairwise_flatMap.1 h).1 ts[j] (List.getElem_mem hj)
      have h2 := (List.nodup_cons.1 (show (namesT ts[j]).Nodup from h1)).2
      refine List.Pairwise.map _ ?_ (List.Pairwise.of_map _ (R := fun a b : ByteArray × RT => a.1 ≠ b.1) ?_ h2)
      · exact fun a b h => h
      · exact fun a b hne e => hne (by rw [e])
  · intro h
    refine List.pairwise_flatMap.2 ⟨fun t ht => ?_, List.pairwise_iff_getElem.2 fun m j hm hj hmj => ?_⟩
    · obtain ⟨j, hj, rfl⟩ := List.getElem_of_mem ht
      refine List.nodup_cons.2 ⟨fun hm => ?_, ?_⟩
      · obtain ⟨r, hr, he⟩ := List.mem_map.1 hm
        injection he with _ he
        exact hown _ ht r hr he
      · have h1 := (uniq_at h hj).2
        refine List.Pairwise.map _ ?_ (List.Pairwise.of_map _ (R := fun a b : ByteArray × RT => a.1 ≠ b.1) (fun a b h => h) h1)
        exact fun a b hne e => hne (by injection e)
    · intro x hx y hy e
      subst e
      have h1 := (uniq_at h hj).1 m hm hj hmj
      have n1 : x.t = ts[m].name := by
        rcases List.mem_cons.1 hx with rfl | hx
        · rfl
        · obtain ⟨r, _, rfl⟩ := List.mem_map.1 hx
          rfl
      have n2 : x.t = ts[j].name := by
        rcases List.mem_cons.1 hy with rfl | hy
        · rfl
        · obtain ⟨r, _, rfl⟩ := List.mem_map.1 hy
          rfl
      exact h1 (n1.symm.trans n2)
/-- The set of names, met one behind the other. -/
structure NamesI (L N : List R2) : Prop where
  mem : ∀ x, x ∈ N ↔ x ∈ L
  le : N.length ≤ L.length
  eq : N.length = L.length ↔ L.Nodup
theorem NamesI.nil : NamesI [] [] := ⟨fun _ => Iff.rfl, Nat.le_refl _, by simp⟩
def addR (N : List R2) (x : R2) : List R2 := if x ∈ N then N else N ++ [x]
theorem addR_len (N : List R2) (x : R2) : (addR N x).length ≤ N.length + 1 := by
  unfold addR
  split <;> simp
theorem addR_mem (N : List R2) (x y : R2) : y ∈ addR N x ↔ y ∈ N ∨ y = x := by
  unfold addR
  split
  · rename_i h
    exact ⟨.inl, fun hy => hy.elim id fun e => e ▸ h⟩
  · simp
theorem put_addR (N : List R2) (x : R2) : putA (blR N) x true = blR (addR N x) := by
  unfold addR
  split
  · rename_i h; exact put_blR_in N x h
  · rename_i h; exact put_blR N x h
theorem NamesI.step {L N : List R2} (h : NamesI L N) (x : R2) : NamesI (L ++ [x]) (addR N x) := by
  refine ⟨fun y => by rw [addR_mem, h.mem, List.mem_append, List.mem_singleton], ?_, ?_⟩
  · have := addR_len N x
    have := h.le
    simp
    omega
  · unfold addR
    split
    · rename_i hx
      have h1 := h.le
      have h2 := (h.mem x).1 hx
      rw [List.length_append, List.nodup_append]
      simp only [List.length_cons, List.length_nil]
      constructor
      · omega
      · rintro ⟨_, _, h3⟩
        exact absurd rfl (h3 x h2 x (by simp))
    · rename_i hx
      have h2 : ¬ x ∈ L := fun h3 => hx ((h.mem x).2 h3)
      rw [List.length_append, List.length_append, List.nodup_append]
      simp only [List.length_cons, List.length_nil]
      constructor
      · intro h3
        refine ⟨h.eq.1 (by omega), by simp, fun a ha b hb => ?_⟩
        obtain rfl := List.mem_singleton.1 hb
        exact fun e => h2 (e ▸ ha)
      · rintro ⟨h3, _, _⟩
        have := h.eq.2 h3
        omega
theorem NamesI.lt {L N : List R2} (h : NamesI L N) : N.length < L.length ↔ ¬ L.Nodup := by
  rw [← h.eq]
  have := h.le
  omega

theorem refs_mem {ts : List TyS} {p : R2 × RT} : p ∈ refsOf ts ↔ ∃ t ∈ ts, ∃ r ∈ t.rels, p = (⟨t.name, r.1⟩, r.2) := by
  unfold refsOf relsOf
  rw [List.mem_flatMap]
  constructor
  · rintro ⟨t, ht, hp⟩
    obtain ⟨r, hr, rfl⟩ := List.mem_map.1 hp
    exact ⟨t, ht, r, hr, rfl⟩
  · rintro ⟨t, ht, r, hr, rfl⟩
    exact ⟨t, ht, List.mem_map.2 ⟨r, hr, rfl⟩⟩
theorem uniq_eq {ts : List TyS} (h : uniqOk ts = true) {t u : TyS} (ht : t ∈ ts) (hu : u ∈ ts) (he : t.name = u.name) : t = u := by
  obtain ⟨i, hi, rfl⟩ := List.getElem_of_mem ht
  obtain ⟨j, hj, rfl⟩ := List.getElem_of_mem hu
  rcases Nat.lt_trichotomy i j with h1 | h1 | h1
  · exact absurd he ((uniq_at h hj).1 i hi hj h1)
  · subst h1; rfl
  · exact absurd he.symm ((uniq_at h hi).1 j hj hi h1)
theorem look_has {ts : List TyS} (h : uniqOk ts = true) {t : TyS} (ht : t ∈ ts) (a : ByteArray) : (lookA (refsOf ts) ⟨t.name, a⟩).isSome = hasT t a := by
  cases hl : lookA (refsOf ts) ⟨t.name, a⟩ with
  | none =>
    have h1 := look_none_iff.1 hl
    symm
    show hasT t a = false
    unfold hasT
    rw [List.any_eq_false]
    intro r hr he
    have he : r.1 = a := of_decide_eq_true he
    exact h1 _ (refs_mem.2 ⟨t, ht, r, hr, rfl⟩) (by rw [he])
  | some x =>
    obtain ⟨u, hu, r, hr, e⟩ := refs_mem.1 (look_mem hl)
    injection e with e1 e2
    injection e1 with e3 e4
    obtain rfl := uniq_eq h ht hu e3
    symm
    show hasT t a = true
    unfold hasT
    exact List.any_eq_true.2 ⟨r, hr, decide_eq_true e4.symm⟩
theorem where_any (ts : List TyS) (b : ByteArray) : decide (0 < (whereP (refsOf ts) b).length) = anyT ts b := by
  rw [Bool.eq_iff_iff, decide_eq_true_eq]
  unfold whereP anyT
  rw [List.length_map, List.any_eq_true]
  constructor
  · intro h
    obtain ⟨x, hx⟩ := List.exists_mem_of_length_pos h
    rw [List.mem_filter, decide_eq_true_eq] at hx
    obtain ⟨u, hu, r, hr, rfl⟩ := refs_mem.1 hx.1
    exact ⟨u, hu, List.any_eq_true.2 ⟨r, hr, decide_eq_true hx.2⟩⟩
  · rintro ⟨u, hu, h⟩
    obtain ⟨r, hr, he⟩ := List.any_eq_true.1 h
    exact List.length_pos_of_mem (List.mem_filter.2 ⟨refs_mem.2 ⟨u, hu, r, hr, rfl⟩, he⟩)
theorem textOk_leaf {k : Int} {a b : ByteArray} {ps : List RT} {d : Nat} (h : (RT.mk k a b ps).textOk d = true) (hk : k = 2 ∨ k = 3) : ps = [] := by
  rw [RT.textOk] at h
  rcases hk with rfl | rfl
  · simp only [Int.reduceEq, if_false, if_true, Bool.and_eq_true, decide_eq_true_eq] at h
    exact List.eq_nil_of_length_eq_zero h.2
  · simp only [Int.reduceEq, if_false, if_true, Bool.and_eq_true, decide_eq_true_eq] at h
    exact List.eq_nil_of_length_eq_zero h.2
theorem textOk_parts {k : Int} {a b : ByteArray} {ps : List RT} {d : Nat} (h : (RT.mk k a b ps).textOk d = true) : ∀ p ∈ ps, ∃ d', p.textOk d' = true := by
  intro p hp
  by_cases h4 : k = 4 ∨ k = 5
  · have hn : k ≠ 1 ∧ k ≠ 2 ∧ k ≠ 3 := by omega
    rw [RT.textOk, if_neg hn.1, if_neg hn.2.1, if_neg hn.2.2, if_pos h4, textL_eq, Bool.and_eq_true] at h
    have h1 := List.all_eq_true.1 h.2 p hp
    unfold goodP at h1
    rw [Bool.and_eq_true] at h1
    exact ⟨_, h1.2⟩
  · exfalso
    have hnil : ps = [] := by
      rw [RT.textOk] at h
      by_cases k1 : k = 1
      · subst k1
        simp only [if_true, Bool.and_eq_true, decide_eq_true_eq] at h
        exact List.eq_nil_of_length_eq_zero h.2
      · by_cases k2 : k = 2
        · subst k2
          simp only [Int.reduceEq, if_false, if_true, Bool.and_eq_true, decide_eq_true_eq] at h
          exact List.eq_nil_of_length_eq_zero h.2
        · by_cases k3 : k = 3
          · subst k3
            simp only [Int.reduceEq, if_false, if_true, Bool.and_eq_true, decide_eq_true_eq] at h
            exact List.eq_nil_of_length_eq_zero h.2
          · rw [if_neg k1, if_neg k2, if_neg k3, if_neg h4] at h
            cases h
    rw [hnil] at hp
    cases hp
/-- The program's named is the document's, of rules that may be printed. -/
theorem named_eq2 {ts : List TyS} (h : uniqOk ts = true) {t : TyS} (ht : t ∈ ts) (r : RT) : ∀ d, r.textOk d = true → r.pnamed (refsOf ts) t.name = r.named ts t := by
  induction r using RT.ind with
  | h r ih =>
    intro d hd
    obtain ⟨k, a, b, ps⟩ := r
    dsimp only [RT.ps] at ih
    rw [RT.pnamed, RT.named, pnamedL_eq, namedL_eq]
    unfold headOk
    by_cases k2 : k = 2
    · subst k2
      obtain rfl := textOk_leaf hd (.inl rfl)
      rw [if_pos rfl, look_has h ht]
      simp
    · by_cases k3 : k = 3
      · subst k3
        obtain rfl := textOk_leaf hd (.inr rfl)
        rw [if_neg k2, if_pos rfl, look_has h ht, where_any]
        simp
      · rw [if_neg k2, if_neg k3]
        have e2 : (k == 2) = false := by rw [beq_eq_false_iff_ne]; exact k2
        have e3 : (k == 3) = false := by rw [beq_eq_false_iff_ne]; exact k3
        rw [e2, e3]
        simp only [Bool.false_and, Bool.or_false, Bool.not_false, Bool.true_and]
        rw [Bool.eq_iff_iff, List.all_eq_true, List.all_eq_true]
        constructor <;> intro hall p hp
        · obtain ⟨d', hd'⟩ := textOk_parts hd p hp
          rw [← ih p hp d' hd']
          exact hall p hp
        · obtain ⟨d', hd'⟩ := textOk_parts hd p hp
          rw [ih p hp d' hd']
          exact hall p hp
theorem rel_text {ts : List TyS} (hp : printOk ts = true) {t : TyS} (ht : t ∈ ts) {r : ByteArray × RT} (hr : r ∈ t.rels) : r.2.textOk 0 = true := by
  have h1 := List.all_eq_true.1 hp t ht
  unfold tyOk at h1
  rw [Bool.and_eq_true] at h1
  have h2 := List.all_eq_true.1 h1.2 r hr
  unfold relOk at h2
  simp only [Bool.and_eq_true] at h2
  exact h2.1.1
theorem names_all {ts : List TyS} (hp : printOk ts = true) (hu : uniqOk ts = true) : (∀ x ∈ refsOf ts, x.2.pnamed (refsOf ts) x.1.t = true) ↔ namesOk ts = true := by
  unfold namesOk
  rw [List.all_eq_true]
  constructor
  · intro h t ht
    rw [List.all_eq_true]
    intro r hr
    rw [← named_eq2 hu ht r.2 0 (rel_text hp ht hr)]
    exact h _ (refs_mem.2 ⟨t, ht, r, hr, rfl⟩)
  · intro h x hx
    obtain ⟨t, ht, r, hr, rfl⟩ := refs_mem.1 hx
    dsimp only
    rw [named_eq2 hu ht r.2 0 (rel_text hp ht hr)]
    exact List.all_eq_true.1 (h t ht) r hr

end Go.Proofs.Ytipddhcfcehcaaa
