/- The document's table: Cut. The document's filter: Hash, times, many, places. No condition: lemmas. -/
import Derived.Test.YtmmeofiocbfamaaGreatDoorZ33
import Derived.Test.YtmmeofiocbfamaaGreatDoorZ31
namespace Go.Proofs.YtmmeofiocbfamaaGreatDoor
open Go Go.RowKit

theorem rowsTT : ElemT Tryz.prog 37 22 1 24 := ElemT.mk' Tryz.underlying37 (show _ = some (some (.slice none 0 0), 1, 24) by kernel_rfl) rfl (by decide)
/-- A row of rows of the call's own; each lies apart from u. -/
def RowsAp (w : World) (B : Nat) (v u : Value) (rows : List (List ByteArray)) : Prop :=
  ∃ vs, Own w B 22 1 v vs ∧ vs.length = rows.length ∧ ∀ i (h : i < vs.length) (h' : i < rows.length), Own w B 9 1 vs[i] (sc rows[i]) ∧ ∀ g, vs[i].ownBlock = some g → u.ownBlock ≠ some g
theorem RowsAp.nil (w : World) (B : Nat) (u : Value) : RowsAp w B (.slice none 0 0) u [] := ⟨[], Own.nil _ _ _ _, rfl, fun _ h => absurd h (by simp)⟩
section
variable {w w' : World} {B : Nat} {v u u' : Value} {rows : List (List ByteArray)}
theorem RowsAp.below (h : RowsAp w B v u rows) (hb : Below w.heap.size w w') : RowsAp w' B v u rows := by
  obtain ⟨vs, h1, h2, h3⟩ := h
  exact ⟨vs, h1.below hb, h2, fun i hi hi' => ⟨(h3 i hi hi').1.below hb, (h3 i hi hi').2⟩⟩
theorem RowsAp.rws (h : RowsAp w B v u rows) : RwsT w v rows := by
  obtain ⟨vs, h1, h2, h3⟩ := h
  exact ⟨vs, h1.sl.mono fun b hb => hb.2, h2, fun i hi hi' => (h3 i hi hi').1.sl.mono fun b hb => hb.2⟩
theorem RowsAp.own (h : RowsAp w B v u rows) : ∃ vs, Own w B 22 1 v vs ∧ vs.length = rows.length := by
  obtain ⟨vs, h1, h2, _⟩ := h
  exact ⟨vs, h1, h2⟩
theorem RowsAp.free (h : RowsAp w B v u rows) : RowsAp w B v (.slice none 0 0) rows := by
  obtain ⟨vs, h1, h2, h3⟩ := h
  exact ⟨vs, h1, h2, fun i hi hi' => ⟨(h3 i hi hi').1, fun g _ e => by cases e⟩⟩
/-- What u has grew. -/
theorem RowsAp.grew {xs : List Value} (h : RowsAp w B v u rows) (hu : Own w B 9 1 u xs) (hw : ∀ g, u'.ownBlock = some g → u.ownBlock = some g ∨ w.heap.size ≤ g) (hg : w.grownBy w' u.ownBlock) : RowsAp w' B v u' rows := by
  obtain ⟨vs, h1, h2, h3⟩ := h
  refine ⟨vs, h1.aside hu (by decide) hg, h2, fun i hi hi' => ?_⟩
  obtain ⟨k1, k2⟩ := h3 i hi hi'
  refine ⟨k1.keepOwn fun g e => hg.block g (k1.block g e).2 fun e2 => k2 g e e2.symm, fun g e e2 => ?_⟩
  rcases hw g e2 with e3 | e3
  · exact k2 g e e3
  · have := (k1.block g e).2; omega
/-- One more row is appended. -/
theorem RowsAp.snoc {v' : Value} {r : List ByteArray} {vs : List Value} (h1 : Own w B 22 1 v vs) (h2 : vs.length = rows.length)
    (h3 : ∀ i (h : i < vs.length) (h' : i < rows.length), Own w B 9 1 vs[i] (sc rows[i]) ∧ ∀ g, vs[i].ownBlock = some g → u.ownBlock ≠ some g) (hu : Own w B 9 1 u (sc r))
    (hv : Own w' B 22 1 v' (vs ++ [u])) (hg : w.grownBy w' v.ownBlock) : RowsAp w' B v' (.slice none 0 0) (rows ++ [r]) := by
  refine ⟨vs ++ [u], hv, by simp [h2], fun i hi hi' => ⟨?_, fun g _ e => by cases e⟩⟩
  have hne : 9 ≠ 22 := by decide
  by_cases hlt : i < vs.length
  · rw [List.getElem_append_left hlt, List.getElem_append_left (by omega)]
    exact (h3 i hlt (by omega)).1.aside h1 hne hg
  · obtain rfl : i = vs.length := by simp at hi; omega
    rw [List.getElem_append_right (Nat.le_refl _), List.getElem_append_right (by omega)]
    simp only [Nat.sub_self, List.getElem_cons_zero, h2]
    exact hu.aside h1 hne hg
end
theorem cutA_take (split : Int) (ks : List ByteArray) (i : Nat) (h : i < ks.length) : cutA split (ks.take (i + 1)) = cutS split (cutA split (ks.take i)) ks[i] := by
  unfold cutA
  rw [List.take_succ_eq_append_getElem h, List.foldl_append]
  rfl
theorem cutL_last {split : Int} {ks : List ByteArray} {d : List (List ByteArray)} {o : List ByteArray} {z : Nat} {x : ByteArray} (h : cutA split ks = cutS split (d, o, z) x) : cutL split ks = d ++ [o ++ [x]] := by
  unfold cutL
  rw [h]
  unfold cutS
  by_cases hs : split ≤ ((z + x.size : Nat) : Int)
  · rw [if_pos hs]; simp
  · rw [if_neg hs]; simp
/-- Bounds of what is cut so far. -/
theorem cutA_len (split : Int) (M : Nat) : ∀ (ks : List ByteArray) (c : List (List ByteArray) × List ByteArray × Nat), (∀ k ∈ ks, k.size ≤ M) →
    (ks.foldl (cutS split) c).1.length ≤ c.1.length + ks.length ∧ (ks.foldl (cutS split) c).2.1.length ≤ c.2.1.length + ks.length ∧ (ks.foldl (cutS split) c).2.2 ≤ c.2.2 + M * ks.length
  | [], c, _ => ⟨Nat.le_refl _, Nat.le_refl _, Nat.le_refl _⟩
  | k :: ks, c, h => by
    have ih := cutA_len split M ks (cutS split c k) fun x hx => h x (List.mem_cons_of_mem _ hx)
    have hk := h k (by simp)
    have h1 : (cutS split c k).1.length ≤ c.1.length + 1 ∧ (cutS split c k).2.1.length ≤ c.2.1.length + 1 ∧ (cutS split c k).2.2 ≤ c.2.2 + M := by
      unfold cutS
      split <;> simp <;> omega
    rw [List.foldl_cons, List.length_cons, Nat.mul_add, Nat.mul_one]
    generalize M * ks.length = q at *
    omega

set_option maxRecDepth 100000 in
set_option maxHeartbeats 1600000 in
theorem cut14_any (v : Value) (ks : List ByteArray) (split : Int) (w : World) (h : Sl (· < w.heap.size) w 1 v (sc ks)) (hne : ks ≠ []) (hl : ks.length ≤ 1000) (hk : ∀ k ∈ ks, k.size ≤ 1000) :
    Calls Tryz.prog 11 #[v, .int .i64 split] w fun e w' => ∃ v', e = .returned v' ∧ RowsAp w' w.heap.size v' (.slice none 0 0) (cutL split ks) ∧ Ext w w' := by
  have HK := Lib.hid hk
  obtain ⟨ao, c, rfl, hlc, hcm, -, hcell⟩ := Sl.strs0 h
  have HC := Lib.hid hcell
  have HNE := Lib.hid (List.length_pos_iff.2 hne)
  clear h hk hcell hne
  go_enter Tryz.func11, Tryz.ntmps11
  go_wp2_with fail
  go_loopw [5, 6, 7, 12] (fun dv ov zv iv wr => ∃ (i : Nat) (d : List (List ByteArray)) (o : List ByteArray) (z : Nat), i ≤ ks.length ∧ iv = .int .i64 i ∧ zv = .int .i64 z ∧ RowsAp wr w.heap.size dv ov d ∧ Own wr w.heap.size 9 1 ov (sc o) ∧ Ext w wr ∧ (i < ks.length → (d, o, z) = cutA split (ks.take i)) ∧ (i = ks.length → d = cutL split ks)) (fun _ _ _ iv _ => ks.length - (intOf iv).toNat)
  case atStart => exact ⟨0, [], [], 0, Nat.zero_le _, rfl, rfl, RowsAp.nil _ _ _, Own.nil _ _ _ _, Ext.refl _, fun _ => rfl, fun h => by have := HNE.out; omega⟩
  case round =>
    obtain ⟨i, d, o, z, hi, rfl, rfl, hr, ho, hx, hc1, hc2⟩ := hrel
    have HR := Lib.hid hr
    have HO := Lib.hid ho
    have HX := Lib.hid hx
    have HC1 := Lib.hid hc1
    have HC2 := Lib.hid hc2
    obtain ⟨oo, ocap, rfl, -, -, -, -⟩ := Sl.strs0 ho.sl
    obtain ⟨vs0, hv0, -⟩ := hr.own
    obtain ⟨dO, dn, dc, rfl, -, -, -⟩ := hv0.sl.len
    clear hr ho hx hc1 hc2 hv0
    by_cases hlt : i < ks.length
    · obtain ⟨b, off, rfl, hb, hc⟩ := HC.out (by omega)
      have hcl := HX.out.cell (hc i hlt)
      have HEQ := Lib.hid (HC1.out hlt)
      have HST := Lib.hid (show cutA split (ks.take (i + 1)) = cutS split (d, o, z) ks[i] from by rw [cutA_take split ks i hlt, ← HEQ.out])
      have HBD := Lib.hid (show d.length ≤ 1000 ∧ o.length ≤ 1000 ∧ z ≤ 1000000 from by
        have := cutA_len split 1000 (ks.take i) ([], [], 0) fun k hk => HK.out k (List.mem_of_mem_take hk)
        have e : (ks.take i).foldl (cutS split) ([], [], 0) = (d, o, z) := HEQ.out.symm
        rw [e] at this
        simp only [List.length_nil, Nat.zero_add, List.length_take] at this
        omega)
      have HIL := Lib.hid hlt
      have HKZ := Lib.hid (HK.out _ (List.getElem_mem hlt))
      have HLA := Lib.hid (show i + 1 = ks.length → cutL split ks = d ++ [o ++ [ks[i]]] from fun e => by
        have h1 := HST.out
        rw [e, List.take_of_length_le (Nat.le_refl _)] at h1
        exact cutL_last h1)
      generalize hkey : ks[i] = key at *
      have hwz : wrap64 ((z : Int) + (key.size : Int)) = (z : Int) + (key.size : Int) := by have := HBD.out; have := HKZ.out; unfold wrap64; omega
      have hwl : wrap64 ((ks.length : Int) - 1) = (ks.length : Int) - 1 := by unfold wrap64; omega
      have HOL := Lib.hid (show o.length ≤ 1000 from by have := HBD.out; omega)
      clear hc hb hkey
      by_cases hs : split ≤ (z : Int) + (key.size : Int)
      · have HT := Lib.hid (show (i + 1 < ks.length → (d ++ [o ++ [key]], [], 0) = cutA split (ks.take (i + 1))) ∧ (i + 1 = ks.length → d ++ [o ++ [key]] = cutL split ks) from ⟨fun _ => by
            rw [HST.out]
            unfold cutS
            rw [if_pos (by simpa using hs)], fun e => (HLA.out e).symm⟩)
        go_wp2_with (at_builtin; first | (refine wpList_ownw_lit strsT rfl (.tmp 17) (.tmp 19) rfl rfl HO.out rfl rfl (by simp [Value.oneCell']) (by have := HOL.out; rw [sc_length]; simp; omega) (by have := HOL.out; rw [sc_length]; simp; omega) HX.out.size ?_; intro v5 w5 hown5 hwh5 hgr5; have HO5 := Lib.hid (show Own w5 w.heap.size 9 1 v5 (sc (o ++ [key])) from by rw [sc_append]; exact hown5); have HR5 := Lib.hid (HR.out.grew HO.out hwh5 hgr5); have HX5 := Lib.hid (show Ext w w5 from Below.trans HX.out ((Below.refl _ _).grown hgr5 HX.out.size fun g hg => (HO.out.block g hg).1)); obtain ⟨eo5, en5, ec5, rfl, -, -, -⟩ := HO5.out.sl.len; clear hown5 hwh5 hgr5; obtain ⟨vs, g1, g2, g3⟩ := HR5.out; have HG1 := Lib.hid g1; have HG2 := Lib.hid g2; have HG3 := Lib.hid g3; clear g1 g2 g3) | go_must (refine wpList_own_lit rowsTT rfl (.tmp 35) (.tmp 37) rfl rfl HG1.out rfl rfl (by simp [Value.oneCell']) (by have := HG2.out; have := HBD.out; simp; omega) (by have := HG2.out; have := HBD.out; simp; omega) HX5.out.size ?_; intro v6 w6 hown6 hb6 hgr6; have HR6 := Lib.hid (RowsAp.snoc HG1.out HG2.out HG3.out HO5.out hown6 hgr6); have HX6 := Lib.hid (show Ext w w6 from Below.trans HX5.out hb6); obtain ⟨eo6, en6, ec6, rfl, -, -, -⟩ := hown6.sl.len; clear hown6 hb6 hgr6))
        go_roundw
        case rel => exact ⟨i + 1, d ++ [o ++ [key]], [], 0, HIL.out, by go_num, rfl, HR6.out, Own.nil _ _ _ _, HX6.out, HT.out.1, HT.out.2⟩
        case measure => have := HIL.out; simp [intOf]; omega
      · by_cases hlast : i + 1 = ks.length
        · have hie : (i : Int) = (ks.length : Int) - 1 := by omega
          have hib : ((i : Int) == (ks.length : Int) - 1) = true := by simpa using hie
          have HT := Lib.hid (show (i + 1 < ks.length → (d ++ [o ++ [key]], [], 0) = cutA split (ks.take (i + 1))) ∧ (i + 1 = ks.length → d ++ [o ++ [key]] = cutL split ks) from ⟨fun h => by omega, fun e => (HLA.out e).symm⟩)
          clear hlast hie
          go_wp2_with (at_builtin; first | (refine wpList_ownw_lit strsT rfl (.tmp 17) (.tmp 19) rfl rfl HO.out rfl rfl (by simp [Value.oneCell']) (by have := HOL.out; rw [sc_length]; simp; omega) (by have := HOL.out; rw [sc_length]; simp; omega) HX.out.size ?_; intro v5 w5 hown5 hwh5 hgr5; have HO5 := Lib.hid (show Own w5 w.heap.size 9 1 v5 (sc (o ++ [key])) from by rw [sc_append]; exact hown5); have HR5 := Lib.hid (HR.out.grew HO.out hwh5 hgr5); have HX5 := Lib.hid (show Ext w w5 from Below.trans HX.out ((Below.refl _ _).grown hgr5 HX.out.size fun g hg => (HO.out.block g hg).1)); obtain ⟨eo5, en5, ec5, rfl, -, -, -⟩ := HO5.out.sl.len; clear hown5 hwh5 hgr5; obtain ⟨vs, g1, g2, g3⟩ := HR5.out; have HG1 := Lib.hid g1; have HG2 := Lib.hid g2; have HG3 := Lib.hid g3; clear g1 g2 g3) | go_must (refine wpList_own_lit rowsTT rfl (.tmp 35) (.tmp 37) rfl rfl HG1.out rfl rfl (by simp [Value.oneCell']) (by have := HG2.out; have := HBD.out; simp; omega) (by have := HG2.out; have := HBD.out; simp; omega) HX5.out.size ?_; intro v6 w6 hown6 hb6 hgr6; have HR6 := Lib.hid (RowsAp.snoc HG1.out HG2.out HG3.out HO5.out hown6 hgr6); have HX6 := Lib.hid (show Ext w w6 from Below.trans HX5.out hb6); obtain ⟨eo6, en6, ec6, rfl, -, -, -⟩ := hown6.sl.len; clear hown6 hb6 hgr6))
          go_roundw
          case rel => exact ⟨i + 1, d ++ [o ++ [key]], [], 0, HIL.out, by go_num, rfl, HR6.out, Own.nil _ _ _ _, HX6.out, HT.out.1, HT.out.2⟩
          case measure => have := HIL.out; simp [intOf]; omega
        · have hin : ¬ ((i : Int) = (ks.length : Int) - 1) := by omega
          have hib : ((i : Int) == (ks.length : Int) - 1) = false := by simpa using hin
          have HT := Lib.hid (show (i + 1 < ks.length → (d, o ++ [key], z + key.size) = cutA split (ks.take (i + 1))) ∧ (i + 1 = ks.length → d = cutL split ks) from ⟨fun _ => by
            rw [HST.out]
            unfold cutS
            rw [if_neg (by simpa using hs)], fun e => absurd e hlast⟩)
          clear hlast
          go_wp2_with (at_builtin; go_must (refine wpList_ownw_lit strsT rfl (.tmp 17) (.tmp 19) rfl rfl HO.out rfl rfl (by simp [Value.oneCell']) (by have := HOL.out; rw [sc_length]; simp; omega) (by have := HOL.out; rw [sc_length]; simp; omega) HX.out.size ?_; intro v5 w5 hown5 hwh5 hgr5; have HO5 := Lib.hid (show Own w5 w.heap.size 9 1 v5 (sc (o ++ [key])) from by rw [sc_append]; exact hown5); have HR5 := Lib.hid (HR.out.grew HO.out hwh5 hgr5); have HX5 := Lib.hid (show Ext w w5 from Below.trans HX.out ((Below.refl _ _).grown hgr5 HX.out.size fun g hg => (HO.out.block g hg).1)); obtain ⟨eo5, en5, ec5, rfl, -, -, -⟩ := HO5.out.sl.len; clear hown5 hwh5 hgr5))
          go_roundw
          case rel => exact ⟨i + 1, d, o ++ [key], z + key.size, HIL.out, by go_num, by go_num, HR5.out, HO5.out, HX5.out, HT.out.1, HT.out.2⟩
          case measure => have := HIL.out; simp [intOf]; omega
    · obtain rfl : i = ks.length := by omega
      have HD := Lib.hid (HC2.out rfl)
      go_wp2_with fail
      go_ret
      exact ⟨_, rfl, by rw [← HD.out]; exact HR.out.free, HX.out⟩

end Go.Proofs.YtmmeofiocbfamaaGreatDoor
namespace Go.Proofs.YtmmeofiocbfamaaGreatDoor
open Go Go.RowKit

theorem u64_in (z : Nat) (h : z < 18446744073709551616) : IntKind.u64.wrap (z : Int) = (z : Int) := by rw [IntKind.wrap_u64]; omega
set_option maxRecDepth 100000 in
set_option maxHeartbeats 400000 in
theorem times_any (a b : Nat) (w : World) (ha : a < 18446744073709551616) (hb : b < 18446744073709551616) :
    Calls Tryz.prog 97 #[.int .u64 a, .int .u64 b] w fun e w' => e = .returned (.int .u64 (a * b % 18446744073709551616 : Nat)) ∧ w' = w := by
  have HT := Lib.hid (times_eq a b)
  obtain ⟨l, hl⟩ : ∃ l, l = a % 4294967296 := ⟨_, rfl⟩
  obtain ⟨h, hh⟩ : ∃ l, l = a / 4294967296 := ⟨_, rfl⟩
  obtain ⟨x, hx⟩ : ∃ l, l = b % 4294967296 := ⟨_, rfl⟩
  obtain ⟨y, hy⟩ : ∃ l, l = b / 4294967296 := ⟨_, rfl⟩
  have e1 : (a : Int) % 4294967296 = (l : Int) := by omega
  have e2 : (a : Int) / 4294967296 = (h : Int) := by omega
  have e3 : (b : Int) % 4294967296 = (x : Int) := by omega
  have e4 : (b : Int) / 4294967296 = (y : Int) := by omega
  have hmul : ∀ p q : Nat, p < 4294967296 → q < 4294967296 → p * q ≤ 18446744073709551616 - 8589934591 := fun p q hp hq => by
    have := Nat.mul_le_mul (Nat.le_sub_one_of_lt hp) (Nat.le_sub_one_of_lt hq)
    omega
  obtain ⟨p, hp⟩ : ∃ p, p = l * y := ⟨_, rfl⟩
  obtain ⟨q, hq⟩ : ∃ p, p = h * x := ⟨_, rfl⟩
  obtain ⟨r, hr⟩ : ∃ p, p = l * x := ⟨_, rfl⟩
  have lp := hmul l y (by omega) (by omega)
  have lq := hmul h x (by omega) (by omega)
  have lr := hmul l x (by omega) (by omega)
  rw [← hp] at lp
  rw [← hq] at lq
  rw [← hr] at lr
  have m1 : (l : Int) * (y : Int) = (p : Int) := by rw [hp]; push_cast; rfl
  have m2 : (h : Int) * (x : Int) = (q : Int) := by rw [hq]; push_cast; rfl
  have m3 : (l : Int) * (x : Int) = (r : Int) := by rw [hr]; push_cast; rfl
  have w1 := u64_in p (by omega)
  have w2 := u64_in q (by omega)
  have w3 := u64_in r (by omega)
  obtain ⟨c, hc⟩ : ∃ c, c = (p % 4294967296 + q % 4294967296) % 4294967296 := ⟨_, rfl⟩
  obtain ⟨t, ht⟩ : ∃ t, t = (r / 4294967296 + c) % 4294967296 := ⟨_, rfl⟩
  have c1 : IntKind.u64.wrap ((p : Int) % 4294967296 + (q : Int) % 4294967296) = (p : Int) % 4294967296 + (q : Int) % 4294967296 := by rw [IntKind.wrap_u64]; omega
  have c2 : ((p : Int) % 4294967296 + (q : Int) % 4294967296) % 4294967296 = (c : Int) := by omega
  have t1 : IntKind.u64.wrap ((r : Int) / 4294967296 + (c : Int)) = (r : Int) / 4294967296 + (c : Int) := by rw [IntKind.wrap_u64]; omega
  have t2 : ((r : Int) / 4294967296 + (c : Int)) % 4294967296 = (t : Int) := by omega
  have t3 : IntKind.u64.wrap ((t : Int) * 4294967296) = (t : Int) * 4294967296 := by rw [IntKind.wrap_u64]; omega
  have t4 : IntKind.u64.wrap ((t : Int) * 4294967296 + (r : Int) % 4294967296) = (t : Int) * 4294967296 + (r : Int) % 4294967296 := by rw [IntKind.wrap_u64]; omega
  have HR := Lib.hid (show (t : Int) * 4294967296 + (r : Int) % 4294967296 = ((a * b % 18446744073709551616 : Nat) : Int) from by
    have h0 := HT.out
    simp only [show (2 : Nat) ^ 32 = 4294967296 from rfl, show (2 : Nat) ^ 64 = 18446744073709551616 from rfl] at h0
    rw [← hl, ← hh, ← hx, ← hy, ← hp, ← hq, ← hr] at h0
    rw [← h0, ← hc]
    omega)
  have HLR := Lib.hid lr
  clear HT hl hh hx hy hp hq hr lp lq lr hc ht hmul
  go_enter Tryz.func97, Tryz.ntmps97
  go_wp2_with fail
  go_ret
  have s1 : IntKind.u64.wrap ((r : Int) / 4294967296) = (r : Int) / 4294967296 := by have := HLR.out; rw [IntKind.wrap_u64]; omega
  have t5 : ((r : Int) / 4294967296 + (c : Int)).tmod 4294967296 = (t : Int) := by rw [Int.tmod_eq_emod_of_nonneg (by omega)]; exact t2
  exact ⟨by rw [s1, t1, t5, t3, t4]; exact congrArg (fun z => Ending.returned (Value.int .u64 z)) HR.out, rfl⟩

set_option maxRecDepth 100000 in
set_option maxHeartbeats 400000 in
theorem hash12_any (s : ByteArray) (w : World) (hs : s.size ≤ 1000000000) :
    Calls Tryz.prog 86 #[.string s] w fun e w' => e = .returned (.int .u64 (hashB s.data.toList)) ∧ w' = w := by
  have hsz : s.data.toList.length = s.size := Array.length_toList
  go_enter Tryz.func86, Tryz.ntmps86
  go_wp2_with fail
  go_loopw [3, 4] (fun hv iv wr => ∃ i : Nat, i ≤ s.size ∧ iv = .int .i64 i ∧ hv = .int .u64 (hashF 14695981039346656037 (s.data.toList.take i)) ∧ wr = w) (fun _ iv _ => s.size - (intOf iv).toNat)
  case atStart => exact ⟨0, by omega, rfl, rfl, rfl⟩
  case round =>
    obtain ⟨i, hi, rfl, rfl, rfl⟩ := hrel
    by_cases hlt : i < s.size
    · have HN := Lib.hid (hashF_snoc 14695981039346656037 (show i < s.data.toList.length by omega))
      have HL := Lib.hid (hashF_lt (show 14695981039346656037 < 18446744073709551616 by decide) (s.data.toList.take i))
      have hi0 : (0 : Int) ≤ (i : Int) := by omega
      have HC := Lib.hid (show s[i] = s.data.toList[i]'(by omega) from by simp [ByteArray.getElem_eq_getElem_data])
      have hc := (s[i]).toNat_lt
      generalize hashF 14695981039346656037 (s.data.toList.take i) = h at *
      have hxe : bits .xor .u64 (h : Int) ((s[i].toNat : Nat) : Int) = ((h ^^^ s[i].toNat : Nat) : Int) := u64_xor_nat h s[i].toNat HL.out (by omega)
      have hwc : IntKind.u64.wrap ((s[i].toNat : Nat) : Int) = ((s[i].toNat : Nat) : Int) := u64_in _ (by omega)
      have HTM := Lib.hid (times_any (h ^^^ s[i].toNat) 1099511628211 wr (Nat.xor_lt_two_pow (n := 64) HL.out (by omega)) (by decide))
      have HE := Lib.hid (show (h ^^^ s[i].toNat) * 1099511628211 % 18446744073709551616 = hashF 14695981039346656037 (s.data.toList.take (i + 1)) from by rw [HN.out, ← HC.out]; rfl)
      rw [HE.out] at HTM
      clear HL HN
      go_wp2_with fail
      refine HTM.out.mono ?_
      rintro e wq ⟨rfl, rfl⟩
      go_wp2_with fail
      go_roundw
      case rel => exact ⟨i + 1, by omega, by go_num, rfl, trivial⟩
      case measure => simp [intOf]; omega
    · obtain rfl : i = s.size := by omega
      have HV := Lib.hid (show hashF 14695981039346656037 (s.data.toList.take s.size) = hashB s.data.toList from by rw [← hsz, List.take_length]; rfl)
      go_wp2_with fail
      go_ret
      exact ⟨by rw [HV.out]; rfl, rfl⟩

set_option maxRecDepth 100000 in
theorem many12_any (b : Nat) (w : World) (hb : b ≤ 40) :
    Calls Tryz.prog 70 #[.int .i64 b] w fun e w' => e = .returned (.int .i64 (manyN b)) ∧ w' = w := by
  go_enter Tryz.func70, Tryz.ntmps70
  have HV := Lib.hid (show min (max (69 * (b : Int) / 100) 1) 30 = ((manyN b : Nat) : Int) from by unfold manyN; omega)
  go_wp2_with fail
  go_ret
  exact ⟨congrArg (fun z => Ending.returned (Value.int .i64 z)) HV.out, rfl⟩

def uc (l : List Nat) : List Value := l.map fun n => .int .u64 (n : Nat)
theorem uc_length (l : List Nat) : (uc l).length = l.length := List.length_map _
theorem u64sT : ElemT Tryz.prog 105 51 1 8 := ElemT.mk' Tryz.underlying105 (show _ = some (some (.int .u64 0), 1, 8) by kernel_rfl) rfl (by decide)
/-- A key's places. -/
def plcL (key : List UInt8) (k bits : Nat) : List Nat := (List.range k).map fun i => plcN key bits i

set_option maxRecDepth 100000 in
set_option maxHeartbeats 800000 in
theorem places_any (s : ByteArray) (k bits : Nat) (w : World) (hs : s.size ≤ 1000000000) (hk : k ≤ 30) (hb : 0 < bits) (hb2 : bits ≤ 8000000000) :
    Calls Tryz.prog 69 #[.string s, .int .i64 k, .int .u64 bits] w fun e w' => ∃ v, e = .returned v ∧ Own w' w.heap.size 51 1 v (uc (plcL s.data.toList k bits)) ∧ Ext w w' := by
  have HH := Lib.hid (hash12_any s w hs)
  have HL := Lib.hid (show hashB s.data.toList < 18446744073709551616 from hashF_lt (by decide) _)
  have HP := Lib.hid (fun i => show plcN s.data.toList bits i = (hashB s.data.toList % 4294967296 + i * stepD s.data.toList) % bits from rfl)
  have HD := Lib.hid (show stepD s.data.toList = if hashB s.data.toList / 4294967296 % 2 = 0 then hashB s.data.toList / 4294967296 + 1 else hashB s.data.toList / 4294967296 from rfl)
  have HSN := Lib.hid (fun i => show plcL s.data.toList (i + 1) bits = plcL s.data.toList i bits ++ [plcN s.data.toList bits i] from by unfold plcL; rw [List.range_succ, List.map_append]; rfl)
  have HPL := Lib.hid (fun i => show (plcL s.data.toList i bits).length = i from by unfold plcL; rw [List.length_map, List.length_range])
  generalize hashB s.data.toList = h at *
  generalize stepD s.data.toList = y at *
  obtain ⟨x, hx⟩ : ∃ x, x = h % 4294967296 := ⟨_, rfl⟩
  obtain ⟨z, hz⟩ : ∃ z, z = h / 4294967296 := ⟨_, rfl⟩
  have e1 : (h : Int) % 4294967296 = (x : Int) := by omega
  have e2 : (h : Int) / 4294967296 = (z : Int) := by omega
  have HZ := Lib.hid (show z < 4294967296 ∧ x < 4294967296 from by have := HL.out; omega)
  rw [← hx] at HP
  rw [← hz] at HD
  have HY := Lib.hid (show y ≤ 4294967296 from by rw [HD.out]; have := HZ.out; split <;> omega)
  clear hx hz
  go_enter Tryz.func69, Tryz.ntmps69
  go_wp2_with fail
  refine HH.out.mono ?_
  clear HH
  rintro e w1 ⟨rfl, rfl⟩
  have hwz := u64_in z (by have := HZ.out; omega)
  by_cases hev : z % 2 = 0
  case' pos =>
    have HYE := Lib.hid (show ((z : Int) + 1) = (y : Int) from by rw [HD.out, if_pos hev]; omega)
    have hei : (z : Int).tmod 2 = 0 := by rw [Int.tmod_eq_emod_of_nonneg (by omega)]; omega
    have hw : IntKind.u64.wrap ((z : Int) + 1) = (y : Int) := by rw [HYE.out]; exact u64_in y (by have := HY.out; omega)
    clear hev
    go_wp2_with fail
  case' neg =>
    have HYE := Lib.hid (show z = y from by rw [HD.out, if_neg hev])
    have hei : (z : Int).tmod 2 = 1 := by rw [Int.tmod_eq_emod_of_nonneg (by omega)]; omega
    clear hev
    go_wp2_with fail
    rw [HYE.out]
  all_goals
    try rw [e1]
    clear hei e1 e2 hwz
    go_loopw [10, 11] (fun pv iv wr => ∃ i : Nat, i ≤ k ∧ iv = .int .i64 i ∧ Own wr w1.heap.size 51 1 pv (uc (plcL s.data.toList i bits)) ∧ Ext w1 wr) (fun _ iv _ => k - (intOf iv).toNat)
    case atStart => exact ⟨0, Nat.zero_le _, rfl, Own.nil _ _ _ _, Ext.refl _⟩
    case round =>
      obtain ⟨i, hi, rfl, ho, hx⟩ := hrel
      have HO := Lib.hid ho
      have HX := Lib.hid hx
      obtain ⟨oo, on, oc, rfl, -, -, -⟩ := ho.sl.len
      clear ho hx
      by_cases hlt : i < k
      · have hiy : i * y ≤ 30 * 4294967296 := Nat.mul_le_mul (by omega) HY.out
        obtain ⟨m, hm⟩ : ∃ m, m = i * y := ⟨_, rfl⟩
        rw [← hm] at hiy
        have HS := Lib.hid (HSN.out i)
        rw [HP.out i, ← hm] at HS
        have f1 : IntKind.u64.wrap (i : Int) = (i : Int) := u64_in i (by omega)
        have f2 : (i : Int) * (y : Int) = (m : Int) := by rw [hm]; push_cast; rfl
        have f3 : IntKind.u64.wrap (m : Int) = (m : Int) := u64_in m (by omega)
        have f4 : IntKind.u64.wrap ((x : Int) + (m : Int)) = ((x : Int) + (m : Int)) := by rw [IntKind.wrap_u64]; have := HZ.out; omega
        have f5 : ((x : Int) + (m : Int)).tmod (bits : Int) = (((x + m) % bits : Nat) : Int) := by rw [Int.tmod_eq_emod_of_nonneg (by omega)]; push_cast; rfl
        have f6 : ¬ ((bits : Int) = 0) := by omega
        clear hm
        generalize (x + m) % bits = pp at *
        go_wp2_with (at_builtin; go_must (refine wpList_own_lit u64sT rfl (.tmp 28) (.tmp 37) rfl rfl HO.out rfl rfl (by simp [Value.oneCell']) (by rw [uc_length, HPL.out]; simp; omega) (by rw [uc_length, HPL.out]; simp; omega) HX.out.size ?_; intro v5 w5 hown5 hb5 hgr5; have HO5 := Lib.hid (show Own w5 w1.heap.size 51 1 v5 (uc (plcL s.data.toList (i + 1) bits)) from by rw [HS.out]; unfold uc at hown5 ⊢; rw [List.map_append]; exact hown5); have HX5 := Lib.hid (show Ext w1 w5 from Below.trans HX.out hb5); obtain ⟨oo5, on5, oc5, rfl, -, -, -⟩ := hown5.sl.len; clear hown5 hb5 hgr5))
        go_roundw
        case rel => exact ⟨i + 1, by omega, by go_num, HO5.out, HX5.out⟩
        case measure => simp [intOf]; omega
      · obtain rfl : i = k := by omega
        go_wp2_with fail
        go_ret
        exact ⟨_, rfl, HO.out, HX.out⟩

end Go.Proofs.YtmmeofiocbfamaaGreatDoor
