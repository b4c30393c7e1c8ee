/- Lemmas for the claim, no condition. -/
import Derived.Test.YtjdigpfipmckhaaYRcOwn0
import GoSem.PinnedTables
import Derived.Deep.DeepHandedRow
import Derived.Lib.SmallJoins
import Derived.Test.YtjdigpfipmckhaaYRcOwn12
import Derived.Test.YtjdigpfipmckhaaYRcOwn3
import Derived.Test.YtjdigpfipmckhaaYRcOwn19
import Derived.Test.YtjdigpfipmckhaaYRcOwn20
import Derived.Test.YtjdigpfipmckhaaYRcOwn21
namespace Go.Proofs.Ytjdigpfipmckhaa
open Go Go.RowKit Go.Maps
theorem chk_long {ts : List TyS} (h : chk06 ts = 0) : longOk ts = true := by
  unfold chk06 at h
  split at h
  · split at h
    · assumption
    · cases h
  · cases h
theorem long_small {ts : List TyS} (h : longOk ts = true) : ts.length ≤ 16 ∧ ∀ t ∈ ts, t.rels.length ≤ 16 ∧ ∀ r ∈ t.rels, r.2.sz ≤ 32 := by
  unfold longOk at h
  rw [Bool.and_eq_true, decide_eq_true_eq, List.all_eq_true] at h
  refine ⟨h.1, fun t ht => ?_⟩
  have h2 := h.2 t ht
  unfold tyLong at h2
  rw [Bool.and_eq_true, decide_eq_true_eq, List.all_eq_true] at h2
  exact ⟨h2.1, fun r hr => by simpa using h2.2 r hr⟩
theorem long_refs {ts : List TyS} (h : longOk ts = true) : (refsOf ts).length ≤ 256 := by
  obtain ⟨h1, h2⟩ := long_small h
  have := flat_le (fun t : TyS => relsOf t.name t.rels) 16 ts fun t ht => by unfold relsOf; rw [List.length_map]; exact (h2 t ht).1
  unfold refsOf
  omega
end Go.Proofs.Ytjdigpfipmckhaa
namespace Go.Proofs.Ytjdigpfipmckhaa
open Go Go.RowKit Go.ChangeShapes Go.WideShapes Go.ChangeAt
def bc (l : List UInt8) : List Value := l.map fun c => .int .u8 c.toNat
theorem bc_length (a : List UInt8) : (bc a).length = a.length := by simp [bc]
theorem bytes_at {S : Nat → Prop} {w : World} {ao : Option Addr} {l : List UInt8} {c : Nat} (h : Sl S w 1 (.slice ao l.length c) (bc l)) : ∀ i (hi : i < l.length), ∃ b off, ao = some ⟨b, off, none⟩ ∧ S b ∧ w.cell? ⟨b, off + i, none⟩ = some (.int .u8 l[i].toNat) := by
  obtain ⟨ao', n', c', hv, h1, h2, h3, h4, h5⟩ := h
  cases hv
  intro i hi
  obtain ⟨b, off, rfl, hb, hc⟩ := h5 (fun e => by have := congrArg List.length e; rw [bc_length] at this; simp only [List.length_nil] at this; omega)
  exact ⟨b, off, rfl, hb, hc i _ (by simp [bc, hi])⟩
section
variable {H : Type} {enc : TypeId × Value → H} {W : World} {base : Nat} {v : Value} {d : DataW H} {ps : List MemPlace}
set_option maxRecDepth 100000 in
theorem open_bytesV (hok : Value.okWide Try.prog W .any base 22 v) (h : DataW.Trod enc Try.prog W 0 (fun _ => true) true 22 v d ps) : ∃ l : List UInt8, Sl (· < W.heap.size) W 1 v (bc l) := by
  obtain ⟨xs, elems, fuel, hs, hl, he, _⟩ := open_sl Try.underlying22 (okWide_slice Try.underlying22 hok) h
  rw [show Try.prog.cellsOf 5 = 1 from by kernel_rfl] at hs hl he
  have hall : ∀ i (hi : i < xs.length), ∃ c : UInt8, xs[i] = .int .u8 c.toNat := by
    intro i hi
    have hie : i < elems.length := by omega
    have := he i elems[i] (by simp [hie])
    rw [Nat.mul_one, show (xs.drop i).take 1 = [xs[i]] from by rw [List.drop_eq_getElem_cons hi]; rfl] at this
    obtain ⟨n, e1, _, hw⟩ := DataW.trod_int Try.underlying5 this
    have hb := bounds_u8 hw
    refine ⟨UInt8.ofNat n.toNat, ?_⟩
    have e2 : xs[i] = .int .u8 n := by simpa using e1
    rw [e2]
    congr 1
    have : (UInt8.ofNat n.toNat).toNat = n.toNat := by simp; omega
    rw [this]
    omega
  refine ⟨xs.map fun x => match x with | .int _ n => UInt8.ofNat n.toNat | _ => 0, ?_⟩
  have : bc (xs.map fun x => match x with | .int _ n => UInt8.ofNat n.toNat | _ => 0) = xs := by
    apply List.ext_getElem
    · simp [bc]
    · intro i h1 h2
      obtain ⟨c, hc⟩ := hall i h2
      simp [bc, hc]
  rw [this]
  exact hs
set_option maxRecDepth 100000 in
theorem open_u8V (hok : Value.okWide Try.prog W .any base 5 v) (h : DataW.Trod enc Try.prog W 0 (fun _ => true) true 5 v d ps) : ∃ q : Nat, v = .int .u8 q ∧ q < 256 := by
  obtain ⟨x, rfl, _, _, wx⟩ := open_int Try.underlying5 hok h
  have hb := bounds_u8 wx
  exact ⟨x.toNat, by congr 1; omega, by omega⟩
end
end Go.Proofs.Ytjdigpfipmckhaa
namespace Go.Proofs.Ytjdigpfipmckhaa
open Go Go.RowKit Go.Maps
def Tp (w : World) (tp : Nat) : Prop := ∃ (bv : Value) (l : List UInt8) (n : Nat), n ≤ l.length ∧ Sl (· < tp) w 1 bv (bc l) ∧ Blk w tp #[bv, .int .i64 n] 26
abbrev KT (tp : Nat) (w w' : World) : Prop := Kept (fun b => b < w.heap.size ∧ b ≠ tp) w w'
theorem KT.trans {tp : Nat} {w w' w'' : World} (h : KT tp w w') (k : KT tp w' w'') : KT tp w w'' := Kept.trans h (Kept.mono k fun b hb => ⟨Nat.lt_of_lt_of_le hb.1 h.size, hb.2⟩)
theorem KT.of {tp : Nat} {w w' : World} (h : Ext w w') : KT tp w w' := Below.kept h fun b hb => hb.1
theorem Tp.ext {w w' : World} {tp : Nat} (h : Tp w tp) (hb : Ext w w') : Tp w' tp := by
  obtain ⟨bv, l, n, hn, hs, hB⟩ := h
  exact ⟨bv, l, n, hn, hs.same ((Same.below hb).mono fun b h => Nat.lt_trans h hB.lt), hB.below hb⟩
theorem Tp.lt {w : World} {tp : Nat} (h : Tp w tp) : tp < w.heap.size := by
  obtain ⟨bv, l, n, hn, hs, hB⟩ := h
  exact hB.lt
theorem KT.same {tp : Nat} {w w' : World} {S : Nat → Prop} (h : KT tp w w') (hS : ∀ b, S b → b < w.heap.size ∧ b ≠ tp) : Same S w w' := fun b hb => h.block b (hS b hb)
theorem KT.blk {tp : Nat} {w w' : World} (h : KT tp w w') {B : Nat} {cs : Array Value} {e : TypeId} (hB : Blk w B cs e) (hn : B ≠ tp) : Blk w' B cs e := Kept.blk h hB ⟨hB.lt, hn⟩
set_option maxRecDepth 100000 in
set_option maxHeartbeats 600000 in
theorem next_any (tp : Nat) (n : Int) (w : World) (h : Tp w tp) (hn : 1 ≤ n) (hm : n ≤ 1000000) : Calls Try.prog 14 #[.pointer (some ⟨tp, 0, none⟩), .int .i64 n] w fun e w' => ∃ k : Nat, e = .returned (.int .i64 k) ∧ (k : Int) < n ∧ Tp w' tp ∧ KT tp w w' := by
  obtain ⟨bv, l, m, hml, hs, hB⟩ := h
  obtain ⟨ao, ln, c, rfl, hln, hlc, hcm⟩ := hs.len
  rw [bc_length, Nat.mul_one] at hln
  subst hln
  have HS := Lib.hid hs
  have HB := Lib.hid hB
  have HM := Lib.hid hm
  have HML := Lib.hid hml
  clear hs hB hm
  by_cases h2 : n < 2
  · have HN := Lib.hid hn
    have hn2 : decide (n < 2) = true := decide_eq_true h2
    go_enter Try.func14, Try.ntmps14
    go_wp2_with fail
    refine region_walkN (Ext w) (Ext.drew w) (by kernel_rfl) (by kernel_rfl) (fun _ _ d _ _ h => by cases d <;> exact h) ?_
    ((refine WalkN.take 0 _ ?_ (by simp only [gtA, gtZ]; rfl) (by kernel_rfl) (by kernel_rfl) (by rfl) (fun W hW => ?_) ?_; rotate_left; · (go_simp; try with_reducible rfl)); simp only [Act.put, puA, puZ, puS]); ((refine WalkN.take 1 _ ?_ (by simp only [gtA, gtS, gtZ]; rfl) (by kernel_rfl) (by kernel_rfl) (by rfl) (fun W hW => ?_) ?_; rotate_left; · (go_simp; try with_reducible rfl)); simp only [Act.put, puA, puZ, puS]); ((refine WalkN.take 2 _ ?_ (by simp only [gtA, gtS, gtZ]; rfl) (by kernel_rfl) (by kernel_rfl) (by rfl) (fun W hW => ?_) ?_; rotate_left; · (go_simp; try with_reducible rfl)); simp only [Act.put, puA, puZ, puS])
    (refine WalkN.skip 3 _ (by simp only [gtA, gtS, gtZ]; rfl) (by kernel_rfl) (by kernel_rfl) (by rfl) ?_; simp only [Act.put, puA, puZ, puS]); (refine WalkN.skip 4 _ (by simp only [gtA, gtS, gtZ]; rfl) (by kernel_rfl) (by kernel_rfl) (by rfl) ?_; simp only [Act.put, puA, puZ, puS]); (refine WalkN.skip 5 _ (by simp only [gtA, gtS, gtZ]; rfl) (by kernel_rfl) (by kernel_rfl) (by rfl) ?_; simp only [Act.put, puA, puZ, puS]); (refine WalkN.skip 6 _ (by simp only [gtA, gtS, gtZ]; rfl) (by kernel_rfl) (by kernel_rfl) (by rfl) ?_; simp only [Act.put, puA, puZ, puS]); (refine WalkN.skip 7 _ (by simp only [gtA, gtS, gtZ]; rfl) (by kernel_rfl) (by kernel_rfl) (by rfl) ?_; simp only [Act.put, puA, puZ, puS]); (refine WalkN.skip 8 _ (by simp only [gtA, gtS, gtZ]; rfl) (by kernel_rfl) (by kernel_rfl) (by rfl) ?_; simp only [Act.put, puA, puZ, puS]); (refine WalkN.skip 9 _ (by simp only [gtA, gtS, gtZ]; rfl) (by kernel_rfl) (by kernel_rfl) (by rfl) ?_; simp only [Act.put, puA, puZ, puS]); (refine WalkN.skip 10 _ (by simp only [gtA, gtS, gtZ]; rfl) (by kernel_rfl) (by kernel_rfl) (by rfl) ?_; simp only [Act.put, puA, puZ, puS]); (refine WalkN.skip 11 _ (by simp only [gtA, gtS, gtZ]; rfl) (by kernel_rfl) (by kernel_rfl) (by rfl) ?_; simp only [Act.put, puA, puZ, puS]); (refine WalkN.skip 12 _ (by simp only [gtA, gtS, gtZ]; rfl) (by kernel_rfl) (by kernel_rfl) (by rfl) ?_; simp only [Act.put, puA, puZ, puS])
    ((refine WalkN.take 13 _ ?_ (by simp only [gtA, gtS, gtZ]; rfl) (by kernel_rfl) (by kernel_rfl) (by rfl) (fun W hW => ?_) ?_; rotate_left; · (go_simp; try with_reducible rfl)); simp only [Act.put, puA, puZ, puS])
    refine WalkN.done (by kernel_rfl) ?_
    go_wp2_with fail
    go_ret
    exact ⟨0, rfl, by have := HN.out; omega, ⟨_, l, m, HML.out, HS.out.same ((Same.below (Ext.drew w)).mono fun b h => Nat.lt_trans h HB.out.lt), HB.out.below (Ext.drew w)⟩, KT.of (Ext.drew w)⟩
  · have hn2 : decide (n < 2) = false := decide_eq_false h2
    have HN2 := Lib.hid h2
    have a0 : ∀ W, Ext w W → W.cell? ⟨tp, 0, none⟩ = some (.slice ao l.length c) := fun W h => by rw [(HB.out.below h).cells]; rfl
    have a1 : ∀ W, Ext w W → W.cell? ⟨tp, 1, none⟩ = some (.int .i64 m) := fun W h => by rw [(HB.out.below h).cells]; rfl
    clear h2
    by_cases hlt : m < l.length
    · have hge : decide ((l.length : Int) ≤ (m : Int)) = false := decide_eq_false (by omega)
      have hge2 : ¬ (l.length : Int) ≤ (m : Int) := by omega
      go_enter Try.func14, Try.ntmps14
      go_wp2_with fail
      refine region_walkN (Ext w) (Ext.drew w) (by kernel_rfl) (by kernel_rfl) (fun _ _ d _ _ h => by cases d <;> exact h) ?_
      ((refine WalkN.take 0 _ ?_ (by simp only [gtA, gtZ]; rfl) (by kernel_rfl) (by kernel_rfl) (by rfl) (fun W hW => ?_) ?_; rotate_left; · (go_simp; try with_reducible rfl)); simp only [Act.put, puA, puZ, puS]); ((refine WalkN.take 1 _ ?_ (by simp only [gtA, gtS, gtZ]; rfl) (by kernel_rfl) (by kernel_rfl) (by rfl) (fun W hW => ?_) ?_; rotate_left; · (go_simp; try with_reducible rfl)); simp only [Act.put, puA, puZ, puS]); ((refine WalkN.take 2 _ ?_ (by simp only [gtA, gtS, gtZ]; rfl) (by kernel_rfl) (by kernel_rfl) (by rfl) (fun W hW => ?_) ?_; rotate_left; · (go_simp; try with_reducible rfl)); simp only [Act.put, puA, puZ, puS]); ((refine WalkN.take 3 _ ?_ (by simp only [gtA, gtS, gtZ]; rfl) (by kernel_rfl) (by kernel_rfl) (by rfl) (fun W hW => ?_) ?_; rotate_left; · (go_simp; try with_reducible rfl)); simp only [Act.put, puA, puZ, puS]); ((refine WalkN.take 4 _ ?_ (by simp only [gtA, gtS, gtZ]; rfl) (by kernel_rfl) (by kernel_rfl) (by rfl) (fun W hW => ?_) ?_; rotate_left; · (go_simp; try with_reducible rfl)); simp only [Act.put, puA, puZ, puS]); ((refine WalkN.take 5 _ ?_ (by simp only [gtA, gtS, gtZ]; rfl) (by kernel_rfl) (by kernel_rfl) (by rfl) (fun W hW => ?_) ?_; rotate_left; · (go_simp; try with_reducible rfl)); simp only [Act.put, puA, puZ, puS]); ((refine WalkN.take 6 _ ?_ (by simp only [gtA, gtS, gtZ]; rfl) (by kernel_rfl) (by kernel_rfl) (by rfl) (fun W hW => ?_) ?_; rotate_left; · (go_simp; try with_reducible rfl)); simp only [Act.put, puA, puZ, puS]); ((refine WalkN.take 7 _ ?_ (by simp only [gtA, gtS, gtZ]; rfl) (by kernel_rfl) (by kernel_rfl) (by rfl) (fun W hW => ?_) ?_; rotate_left; · (go_simp; try with_reducible rfl)); simp only [Act.put, puA, puZ, puS]); ((refine WalkN.take 8 _ ?_ (by simp only [gtA, gtS, gtZ]; rfl) (by kernel_rfl) (by kernel_rfl) (by rfl) (fun W hW => ?_) ?_; rotate_left; · (go_simp; try with_reducible rfl)); simp only [Act.put, puA, puZ, puS]); ((refine WalkN.take 9 _ ?_ (by simp only [gtA, gtS, gtZ]; rfl) (by kernel_rfl) (by kernel_rfl) (by rfl) (fun W hW => ?_) ?_; rotate_left; · (go_simp; try with_reducible rfl)); simp only [Act.put, puA, puZ, puS]); ((refine WalkN.take 10 _ ?_ (by simp only [gtA, gtS, gtZ]; rfl) (by kernel_rfl) (by kernel_rfl) (by rfl) (fun W hW => ?_) ?_; rotate_left; · (go_simp; try with_reducible rfl)); simp only [Act.put, puA, puZ, puS]); ((refine WalkN.take 11 _ ?_ (by simp only [gtA, gtS, gtZ]; rfl) (by kernel_rfl) (by kernel_rfl) (by rfl) (fun W hW => ?_) ?_; rotate_left; · (go_simp; try with_reducible rfl)); simp only [Act.put, puA, puZ, puS]); ((refine WalkN.take 12 _ ?_ (by simp only [gtA, gtS, gtZ]; rfl) (by kernel_rfl) (by kernel_rfl) (by rfl) (fun W hW => ?_) ?_; rotate_left; · (go_simp; try with_reducible rfl)); simp only [Act.put, puA, puZ, puS]); ((refine WalkN.take 13 _ ?_ (by simp only [gtA, gtS, gtZ]; rfl) (by kernel_rfl) (by kernel_rfl) (by rfl) (fun W hW => ?_) ?_; rotate_left; · (go_simp; try with_reducible rfl)); simp only [Act.put, puA, puZ, puS])
      refine WalkN.done (by kernel_rfl) ?_
      have c1 := a1 _ (Ext.drew w)
      have hf1 := (HB.out.below (Ext.drew w)).free
      have hw1 : wrap64 ((m : Int) + 1) = ((m + 1 : Nat) : Int) := by rw [wrap_in _ (by omega) (by omega)]; omega
      obtain ⟨bb, off, rfl, hb, hcl⟩ := bytes_at HS.out m hlt
      generalize hq : l[m] = q at *
      clear a0 a1
      have HD := Lib.hid (HB.out.below (Ext.drew w))
      have HSD := Lib.hid (HS.out.same ((Same.below (Ext.drew w)).mono fun b h => Nat.lt_trans h HB.out.lt))
      go_wp2_with fail
      obtain ⟨w2, hw2⟩ : ∃ x, x = (w.setCell ⟨tp, 1, none⟩ (.int .i64 ((m : Int) + 1))).drew := ⟨_, rfl⟩
      rw [← hw2]
      have H2 := Lib.hid (show Blk w2 tp #[.slice (some ⟨bb, off, none⟩) l.length c, .int .i64 ((m + 1 : Nat) : Int)] 26 from by rw [hw2]; exact (HB.out.set_to 1 _ (by simp)).drew)
      have HK2 := Lib.hid (show KT tp w w2 from by rw [hw2]; exact ((Kept.refl _ _).set (fun h => h.2 rfl) _).drew)
      have hcl2 := (World.cell?_of_block (a := ⟨bb, off + m, none⟩) (HK2.out.block bb ⟨Nat.lt_trans hb HB.out.lt, by omega⟩)).trans hcl
      have HS2 := Lib.hid (HS.out.same (HK2.out.same (S := (· < tp)) fun b (h : b < tp) => ⟨Nat.lt_trans h HB.out.lt, by omega⟩))
      have HTW := Lib.hid (show Tp w2 tp from ⟨_, l, m + 1, hlt, HS2.out, H2.out⟩)
      have b0 : ∀ W, Ext w2 W → W.cell? ⟨tp, 0, none⟩ = some (.slice (some ⟨bb, off, none⟩) l.length c) := fun W h => by rw [(H2.out.below h).cells]; rfl
      have b1 : ∀ W, Ext w2 W → W.cell? ⟨tp, 1, none⟩ = some (.int .i64 ((m + 1 : Nat) : Int)) := fun W h => by rw [(H2.out.below h).cells]; rfl
      have b2 : ∀ W, Ext w2 W → W.cell? ⟨bb, off + m, none⟩ = some (.int .u8 q.toNat) := fun W h => Ext.cell h (a := ⟨bb, off + m, none⟩) hcl2
      have hs1 : IntKind.i64.wrap (m : Int) = (m : Int) := IntWalk.i64_in _ (by omega)
      have hs2 : (0 : Int) ≤ (m : Int) := by omega
      have hs3 : (m : Int) < (l.length : Int) := by omega
      obtain ⟨n', rfl⟩ : ∃ n' : Nat, n = n' := ⟨n.toNat, by omega⟩
      have hmod : (q.toNat : Int).tmod (n' : Int) = ((q.toNat % n' : Nat) : Int) := by
        rw [Int.tmod_eq_emod_of_nonneg (by omega)]; simp
      have hkl := Nat.mod_lt q.toNat (show 0 < n' from by omega)
      have hn0 : ¬ n' = 0 := by omega
      have hq0 := q.toNat_lt
      generalize q.toNat = qn at *
      have hqw : IntKind.i64.wrap (qn : Int) = (qn : Int) := IntWalk.i64_in _ (by omega)
      generalize hk : qn % n' = k at *
      have HKL := Lib.hid hkl
      clear hw2 c1 hf1 hw1 hcl hcl2 hb hq hk hkl
      refine region_walkN (Ext w2) (Ext.drew w2) (by kernel_rfl) (by kernel_rfl) (fun _ _ d _ _ h => by cases d <;> exact h) ?_
      ((refine WalkN.take 0 _ ?_ (by simp only [gtA, gtZ]; rfl) (by kernel_rfl) (by kernel_rfl) (by rfl) (fun W hW => ?_) ?_; rotate_left; · (go_simp; try with_reducible rfl)); simp only [Act.put, puA, puZ, puS]); ((refine WalkN.take 1 _ ?_ (by simp only [gtA, gtS, gtZ]; rfl) (by kernel_rfl) (by kernel_rfl) (by rfl) (fun W hW => ?_) ?_; rotate_left; · (go_simp; try with_reducible rfl)); simp only [Act.put, puA, puZ, puS]); ((refine WalkN.take 2 _ ?_ (by simp only [gtA, gtS, gtZ]; rfl) (by kernel_rfl) (by kernel_rfl) (by rfl) (fun W hW => ?_) ?_; rotate_left; · (go_simp; try with_reducible rfl)); simp only [Act.put, puA, puZ, puS]); ((refine WalkN.take 3 _ ?_ (by simp only [gtA, gtS, gtZ]; rfl) (by kernel_rfl) (by kernel_rfl) (by rfl) (fun W hW => ?_) ?_; rotate_left; · (go_simp; try with_reducible rfl)); simp only [Act.put, puA, puZ, puS]); ((refine WalkN.take 4 _ ?_ (by simp only [gtA, gtS, gtZ]; rfl) (by kernel_rfl) (by kernel_rfl) (by rfl) (fun W hW => ?_) ?_; rotate_left; · (go_simp; try with_reducible rfl)); simp only [Act.put, puA, puZ, puS]); ((refine WalkN.take 5 _ ?_ (by simp only [gtA, gtS, gtZ]; rfl) (by kernel_rfl) (by kernel_rfl) (by rfl) (fun W hW => ?_) ?_; rotate_left; · (go_simp; try with_reducible rfl)); simp only [Act.put, puA, puZ, puS]); ((refine WalkN.take 6 _ ?_ (by simp only [gtA, gtS, gtZ]; rfl) (by kernel_rfl) (by kernel_rfl) (by rfl) (fun W hW => ?_) ?_; rotate_left; · (go_simp; try with_reducible rfl)); simp only [Act.put, puA, puZ, puS]); ((refine WalkN.take 7 _ ?_ (by simp only [gtA, gtS, gtZ]; rfl) (by kernel_rfl) (by kernel_rfl) (by rfl) (fun W hW => ?_) ?_; rotate_left; · (go_simp; try with_reducible rfl)); simp only [Act.put, puA, puZ, puS]); ((refine WalkN.take 8 _ ?_ (by simp only [gtA, gtS, gtZ]; rfl) (by kernel_rfl) (by kernel_rfl) (by rfl) (fun W hW => ?_) ?_; rotate_left; · (go_simp; try with_reducible rfl)); simp only [Act.put, puA, puZ, puS]); ((refine WalkN.take 9 _ ?_ (by simp only [gtA, gtS, gtZ]; rfl) (by kernel_rfl) (by kernel_rfl) (by rfl) (fun W hW => ?_) ?_; rotate_left; · (go_simp; try with_reducible rfl)); simp only [Act.put, puA, puZ, puS]); ((refine WalkN.take 10 _ ?_ (by simp only [gtA, gtS, gtZ]; rfl) (by kernel_rfl) (by kernel_rfl) (by rfl) (fun W hW => ?_) ?_; rotate_left; · (go_simp; try with_reducible rfl)); simp only [Act.put, puA, puZ, puS]); ((refine WalkN.take 11 _ ?_ (by simp only [gtA, gtS, gtZ]; rfl) (by kernel_rfl) (by kernel_rfl) (by rfl) (fun W hW => ?_) ?_; rotate_left; · (go_simp; try with_reducible rfl)); simp only [Act.put, puA, puZ, puS]); ((refine WalkN.take 12 _ ?_ (by simp only [gtA, gtS, gtZ]; rfl) (by kernel_rfl) (by kernel_rfl) (by rfl) (fun W hW => ?_) ?_; rotate_left; · (go_simp; try with_reducible rfl)); simp only [Act.put, puA, puZ, puS]); ((refine WalkN.take 13 _ ?_ (by simp only [gtA, gtS, gtZ]; rfl) (by kernel_rfl) (by kernel_rfl) (by rfl) (fun W hW => ?_) ?_; rotate_left; · (go_simp; try with_reducible rfl)); simp only [Act.put, puA, puZ, puS]); ((refine WalkN.take 14 _ ?_ (by simp only [gtA, gtS, gtZ]; rfl) (by kernel_rfl) (by kernel_rfl) (by rfl) (fun W hW => ?_) ?_; rotate_left; · (go_simp; try with_reducible rfl)); simp only [Act.put, puA, puZ, puS])
      refine WalkN.done (by kernel_rfl) ?_
      clear b0 b1 b2
      go_wp2_with fail
      go_ret
      exact ⟨k, rfl, by have := HKL.out; omega, HTW.out.ext (Ext.drew w2), KT.trans HK2.out (KT.of (Ext.drew w2))⟩
    · have hge : decide ((l.length : Int) ≤ (m : Int)) = true := decide_eq_true (by omega)
      have hge2 : (l.length : Int) ≤ (m : Int) := by omega
      go_enter Try.func14, Try.ntmps14
      go_wp2_with fail
      refine region_walkN (Ext w) (Ext.drew w) (by kernel_rfl) (by kernel_rfl) (fun _ _ d _ _ h => by cases d <;> exact h) ?_
      ((refine WalkN.take 0 _ ?_ (by simp only [gtA, gtZ]; rfl) (by kernel_rfl) (by kernel_rfl) (by rfl) (fun W hW => ?_) ?_; rotate_left; · (go_simp; try with_reducible rfl)); simp only [Act.put, puA, puZ, puS]); ((refine WalkN.take 1 _ ?_ (by simp only [gtA, gtS, gtZ]; rfl) (by kernel_rfl) (by kernel_rfl) (by rfl) (fun W hW => ?_) ?_; rotate_left; · (go_simp; try with_reducible rfl)); simp only [Act.put, puA, puZ, puS]); ((refine WalkN.take 2 _ ?_ (by simp only [gtA, gtS, gtZ]; rfl) (by kernel_rfl) (by kernel_rfl) (by rfl) (fun W hW => ?_) ?_; rotate_left; · (go_simp; try with_reducible rfl)); simp only [Act.put, puA, puZ, puS]); ((refine WalkN.take 3 _ ?_ (by simp only [gtA, gtS, gtZ]; rfl) (by kernel_rfl) (by kernel_rfl) (by rfl) (fun W hW => ?_) ?_; rotate_left; · (go_simp; try with_reducible rfl)); simp only [Act.put, puA, puZ, puS]); ((refine WalkN.take 4 _ ?_ (by simp only [gtA, gtS, gtZ]; rfl) (by kernel_rfl) (by kernel_rfl) (by rfl) (fun W hW => ?_) ?_; rotate_left; · (go_simp; try with_reducible rfl)); simp only [Act.put, puA, puZ, puS]); ((refine WalkN.take 5 _ ?_ (by simp only [gtA, gtS, gtZ]; rfl) (by kernel_rfl) (by kernel_rfl) (by rfl) (fun W hW => ?_) ?_; rotate_left; · (go_simp; try with_reducible rfl)); simp only [Act.put, puA, puZ, puS]); ((refine WalkN.take 6 _ ?_ (by simp only [gtA, gtS, gtZ]; rfl) (by kernel_rfl) (by kernel_rfl) (by rfl) (fun W hW => ?_) ?_; rotate_left; · (go_simp; try with_reducible rfl)); simp only [Act.put, puA, puZ, puS]); ((refine WalkN.take 7 _ ?_ (by simp only [gtA, gtS, gtZ]; rfl) (by kernel_rfl) (by kernel_rfl) (by rfl) (fun W hW => ?_) ?_; rotate_left; · (go_simp; try with_reducible rfl)); simp only [Act.put, puA, puZ, puS]); ((refine WalkN.take 8 _ ?_ (by simp only [gtA, gtS, gtZ]; rfl) (by kernel_rfl) (by kernel_rfl) (by rfl) (fun W hW => ?_) ?_; rotate_left; · (go_simp; try with_reducible rfl)); simp only [Act.put, puA, puZ, puS]); ((refine WalkN.take 9 _ ?_ (by simp only [gtA, gtS, gtZ]; rfl) (by kernel_rfl) (by kernel_rfl) (by rfl) (fun W hW => ?_) ?_; rotate_left; · (go_simp; try with_reducible rfl)); simp only [Act.put, puA, puZ, puS]); ((refine WalkN.take 10 _ ?_ (by simp only [gtA, gtS, gtZ]; rfl) (by kernel_rfl) (by kernel_rfl) (by rfl) (fun W hW => ?_) ?_; rotate_left; · (go_simp; try with_reducible rfl)); simp only [Act.put, puA, puZ, puS]); ((refine WalkN.take 11 _ ?_ (by simp only [gtA, gtS, gtZ]; rfl) (by kernel_rfl) (by kernel_rfl) (by rfl) (fun W hW => ?_) ?_; rotate_left; · (go_simp; try with_reducible rfl)); simp only [Act.put, puA, puZ, puS]); ((refine WalkN.take 12 _ ?_ (by simp only [gtA, gtS, gtZ]; rfl) (by kernel_rfl) (by kernel_rfl) (by rfl) (fun W hW => ?_) ?_; rotate_left; · (go_simp; try with_reducible rfl)); simp only [Act.put, puA, puZ, puS]); ((refine WalkN.take 13 _ ?_ (by simp only [gtA, gtS, gtZ]; rfl) (by kernel_rfl) (by kernel_rfl) (by rfl) (fun W hW => ?_) ?_; rotate_left; · (go_simp; try with_reducible rfl)); simp only [Act.put, puA, puZ, puS])
      refine WalkN.done (by kernel_rfl) ?_
      clear a0 a1
      go_wp2_with fail
      go_ret
      exact ⟨0, rfl, by have := HN2.out; omega, ⟨_, l, m, HML.out, HS.out.same ((Same.below (Ext.drew w)).mono fun b h => Nat.lt_trans h HB.out.lt), HB.out.below (Ext.drew w)⟩, KT.of (Ext.drew w)⟩
end Go.Proofs.Ytjdigpfipmckhaa
