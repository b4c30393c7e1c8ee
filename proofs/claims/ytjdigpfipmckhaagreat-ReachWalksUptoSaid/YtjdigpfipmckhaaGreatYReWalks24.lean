/- Lemmas for the claim, no condition. -/
import Derived.Test.YtjdigpfipmckhaaGreatYReWalks23
import Derived.Test.YtjdigpfipmckhaaGreatYReWalks8
import Derived.Test.YtjdigpfipmckhaaGreatYReWalks0
import Derived.Test.YtjdigpfipmckhaaGreatYReWalks10
import Derived.Test.YtjdigpfipmckhaaGreatYReWalks3
import Derived.Test.YtjdigpfipmckhaaGreatYReWalks11
import Derived.Test.YtjdigpfipmckhaaGreatYReWalks5
import Derived.Test.YtjdigpfipmckhaaGreatYReWalks9
import Derived.Test.YtjdigpfipmckhaaGreatYReWalks21
import Derived.Test.YtjdigpfipmckhaaGreatYReWalks13
namespace Go.Proofs.YtjdigpfipmckhaaGreat
open Go Go.RowKit Go.Maps
set_option maxRecDepth 100000 in
set_option maxHeartbeats 1000000 in
theorem walkE_any (ts : List TyS) (tv fv sv pv mv : Value) (w : World) (hpv : ∃ p : P3, pv = pV p) (h : TysAt (· < w.heap.size) w ts tv) (hok : ∀ t ∈ ts, t.Ok) (hc : chk06 ts ≠ 0) (hsB : schB ts ≤ 549755813888) (hsz : ∀ t ∈ ts, ∀ r ∈ t.rels, r.2.sz ≤ 1000000) (hln : (namesOf ts).length ≤ 1099511627776) (hlr : (refsOf ts).length ≤ 1099511627776) :
    Calls Tryz.prog 15 #[.agg #[tv], fv, sv, pv, mv] w fun e w' => Ext w w' ∧ e = .returned (.tuple #[.agg #[.slice none 0 0, .slice none 0 0], .int .i64 (chk06 ts)]) := by
  obtain ⟨p, rfl⟩ := hpv
  obtain ⟨ao, c, rfl, -⟩ := h.rows
  obtain ⟨wa, hwa⟩ : ∃ x, x = w.alloc (.cells #[.slice ao ts.length c] 24) := ⟨_, rfl⟩
  obtain ⟨wb, hwb⟩ : ∃ x, x = wa.alloc (.cells #[.string p.t, .string p.i, .string p.r] 30) := ⟨_, rfl⟩
  obtain ⟨wc, hwc⟩ : ∃ x, x = wb.alloc (.cells #[.slice none 0 0, .slice none 0 0] 37) := ⟨_, rfl⟩
  have ea : wa.heap.size = w.heap.size + 1 := by rw [hwa]; simp
  have eb : wb.heap.size = w.heap.size + 2 := by rw [hwb]; simp [ea]
  have ec : wc.heap.size = w.heap.size + 3 := by rw [hwc]; simp [eb]
  have xa : Ext w wa := by rw [hwa]; exact Ext.alloc _ _
  have xb : Ext wa wb := by rw [hwb]; exact Ext.alloc _ _
  have xc : Ext wb wc := by rw [hwc]; exact Ext.alloc _ _
  have XC := Lib.hid (show Ext w wc from xa.trans (xb.trans xc))
  have CZ := Lib.hid ec
  have CS := Lib.hid (show Blk wc w.heap.size #[.slice ao ts.length c] 24 from Blk.below (by rw [hwa]; exact Blk.made _ _ _) (xb.trans xc))
  have CG := Lib.hid (show Blk wc (w.heap.size + 2) #[.slice none 0 0, .slice none 0 0] 37 from by rw [hwc, ← eb]; exact Blk.made _ _ _)
  have CT := Lib.hid (h.up XC.out)
  obtain ⟨q, hq, hq0⟩ : ∃ q, chk06 ts = q ∧ (q == 0) = false := ⟨_, rfl, by simpa using hc⟩
  have hq1 : (q != 0) = true := by simpa using hq0
  have HCK := Lib.hid (show Calls Tryz.prog 51 #[.agg #[.slice ao ts.length c]] wc fun e w' => e = .returned (.int .i64 q) ∧ Below wc.heap.size wc w' from by
    have h1 := checkP_any ts (.slice ao ts.length c) wc CT.out hok hsB hsz hln hlr
    rw [hq] at h1
    exact h1)
  rw [hq]
  clear h hok hc hsB hsz hln hlr ea eb ec xa xb xc hq
  subst hwc hwb hwa
  have cs0 := CS.out.cells
  unfold pV
  go_enter Tryz.func15, Tryz.ntmps15
  go_wp2_with fail
  refine HCK.out.mono ?_
  rintro e w2 ⟨rfl, hx2⟩
  have X2 := Lib.hid (show Ext w w2 from XC.out.trans hx2)
  have G2 := (CG.out.below hx2)
  have cg := G2.cells
  have cf := G2.free
  clear cs0 HCK hx2 XC CZ CS CG CT
  go_wp2
  have XE : Ext w ((w2.setCell ⟨w.heap.size + 2, 0, none⟩ (.slice none 0 0)).setCell ⟨w.heap.size + 2, 1, none⟩ (.slice none 0 0)) := ((X2.out : Below w.heap.size w w2).setCell (p := ⟨w.heap.size + 2, 0, none⟩) (by show w.heap.size ≤ w.heap.size + 2; omega) _).setCell (p := ⟨w.heap.size + 2, 1, none⟩) (by show w.heap.size ≤ w.heap.size + 2; omega) _
  have GE := (G2.set_to (cs' := #[.slice none 0 0, .slice none 0 0]) 0 (.slice none 0 0) rfl).set_to (cs' := #[.slice none 0 0, .slice none 0 0]) 1 (.slice none 0 0) rfl
  refine bodyPost_ret (v := .tuple #[.agg #[.slice none 0 0, .slice none 0 0], .int .i64 q]) ?_ rfl ⟨XE, rfl⟩
  rw [results_cell_tmp rfl]
  have hl := run_loadVar_row (P := Tryz.prog) _ (w.heap.size + 2) _ 37 _ _ _ GE Tryz.underlying37 rfl (by kernel_rfl)
  simp [asAddr, hl, Result.andThen]
set_option maxRecDepth 100000 in
set_option maxHeartbeats 1000000 in
theorem walkF_any (ts : List TyS) (tv sv pv mv : Value) (w : World) (hpv : ∃ p : P3, pv = pV p) (h : TysAt (· < w.heap.size) w ts tv) (hok : ∀ t ∈ ts, t.Ok) (hc : chk06 ts = 0) (hsB : schB ts ≤ 549755813888) (hsz : ∀ t ∈ ts, ∀ r ∈ t.rels, r.2.sz ≤ 1000000) (hln : (namesOf ts).length ≤ 1099511627776) (hlr : (refsOf ts).length ≤ 1099511627776) :
    Calls Tryz.prog 15 #[.agg #[tv], .nilIface, sv, pv, mv] w fun e w' => Ext w w' ∧ e = .returned (.tuple #[.agg #[.slice none 0 0, .slice none 0 0], .int .i64 1]) := by
  obtain ⟨p, rfl⟩ := hpv
  obtain ⟨ao, c, rfl, -⟩ := h.rows
  obtain ⟨wa, hwa⟩ : ∃ x, x = w.alloc (.cells #[.slice ao ts.length c] 24) := ⟨_, rfl⟩
  obtain ⟨wb, hwb⟩ : ∃ x, x = wa.alloc (.cells #[.string p.t, .string p.i, .string p.r] 30) := ⟨_, rfl⟩
  obtain ⟨wc, hwc⟩ : ∃ x, x = wb.alloc (.cells #[.slice none 0 0, .slice none 0 0] 37) := ⟨_, rfl⟩
  have ea : wa.heap.size = w.heap.size + 1 := by rw [hwa]; simp
  have eb : wb.heap.size = w.heap.size + 2 := by rw [hwb]; simp [ea]
  have ec : wc.heap.size = w.heap.size + 3 := by rw [hwc]; simp [eb]
  have xa : Ext w wa := by rw [hwa]; exact Ext.alloc _ _
  have xb : Ext wa wb := by rw [hwb]; exact Ext.alloc _ _
  have xc : Ext wb wc := by rw [hwc]; exact Ext.alloc _ _
  have XC := Lib.hid (show Ext w wc from xa.trans (xb.trans xc))
  have CZ := Lib.hid ec
  have CS := Lib.hid (show Blk wc w.heap.size #[.slice ao ts.length c] 24 from Blk.below (by rw [hwa]; exact Blk.made _ _ _) (xb.trans xc))
  have CG := Lib.hid (show Blk wc (w.heap.size + 2) #[.slice none 0 0, .slice none 0 0] 37 from by rw [hwc, ← eb]; exact Blk.made _ _ _)
  have CT := Lib.hid (h.up XC.out)
  have HCK := Lib.hid (show Calls Tryz.prog 51 #[.agg #[.slice ao ts.length c]] wc fun e w' => e = .returned (.int .i64 0) ∧ Below wc.heap.size wc w' from by
    have h1 := checkP_any ts (.slice ao ts.length c) wc CT.out hok hsB hsz hln hlr
    rw [hc] at h1
    exact h1)
  clear h hok hc hsB hsz hln hlr ea eb ec xa xb xc
  subst hwc hwb hwa
  have cs0 := CS.out.cells
  unfold pV
  have hq : ∀ W, (binOp BinOp.eql 111 .nilIface .nilIface).run Tryz.prog W = .ok (.bool true) W := fun _ => by kernel_rfl
  go_enter Tryz.func15, Tryz.ntmps15
  go_wp2_with fail
  refine HCK.out.mono ?_
  rintro e w2 ⟨rfl, hx2⟩
  have X2 := Lib.hid (show Ext w w2 from XC.out.trans hx2)
  have G2 := (CG.out.below hx2)
  have cg := G2.cells
  have cf := G2.free
  clear cs0 HCK hx2 XC CZ CS CG CT
  go_wp2
  have XE : Ext w ((w2.setCell ⟨w.heap.size + 2, 0, none⟩ (.slice none 0 0)).setCell ⟨w.heap.size + 2, 1, none⟩ (.slice none 0 0)) := ((X2.out : Below w.heap.size w w2).setCell (p := ⟨w.heap.size + 2, 0, none⟩) (by show w.heap.size ≤ w.heap.size + 2; omega) _).setCell (p := ⟨w.heap.size + 2, 1, none⟩) (by show w.heap.size ≤ w.heap.size + 2; omega) _
  have GE := (G2.set_to (cs' := #[.slice none 0 0, .slice none 0 0]) 0 (.slice none 0 0) rfl).set_to (cs' := #[.slice none 0 0, .slice none 0 0]) 1 (.slice none 0 0) rfl
  refine bodyPost_ret (v := .tuple #[.agg #[.slice none 0 0, .slice none 0 0], .int .i64 1]) ?_ rfl ⟨XE, rfl⟩
  rw [results_cell_tmp rfl]
  have hl := run_loadVar_row (P := Tryz.prog) _ (w.heap.size + 2) _ 37 _ _ _ GE Tryz.underlying37 rfl (by kernel_rfl)
  simp [asAddr, hl, Result.andThen]
end Go.Proofs.YtjdigpfipmckhaaGreat
namespace Go.Proofs.YtjdigpfipmckhaaGreat
open Go Go.RowKit Go.Maps
def tuC (t : Tup) : List Value := [.string t.o.t, .string t.o.i, .string t.o.r, .string t.s.t, .string t.s.i, .string t.s.r]
def tuCs (l : List Tup) : List Value := l.flatMap tuC
theorem tuC_length (t : Tup) : (tuC t).length = 6 := rfl
theorem tuCs_length (l : List Tup) : (tuCs l).length = l.length * 6 := flat_length tuC_length l
theorem tuCs_append (a b : List Tup) : tuCs (a ++ b) = tuCs a ++ tuCs b := by unfold tuCs; rw [List.flatMap_append]
theorem tupT : ElemT Tryz.prog 25 104 6 96 := ElemT.mk' Tryz.underlying25 (show _ = some (some (.agg #[.string ByteArray.empty, .string ByteArray.empty, .string ByteArray.empty, .string ByteArray.empty, .string ByteArray.empty, .string ByteArray.empty]), 6, 96) by kernel_rfl) rfl (by decide)
theorem tups_rows {S : Nat → Prop} {w : World} {v : Value} {l : List Tup} (h : Sl S w 6 v (tuCs l)) :
    ∃ ao c, v = .slice ao l.length c ∧ l.length ≤ c ∧ c ≤ 9223372036854775807 ∧ ∀ i (hi : i < l.length), ∃ b off, ao = some ⟨b, off, none⟩ ∧ S b ∧ w.cell? ⟨b, off + i * 6, none⟩ = some (.string l[i].o.t) ∧ w.cell? ⟨b, off + i * 6 + 1, none⟩ = some (.string l[i].o.i) ∧ w.cell? ⟨b, off + i * 6 + 2, none⟩ = some (.string l[i].o.r) ∧
      w.cell? ⟨b, off + i * 6 + 3, none⟩ = some (.string l[i].s.t) ∧ w.cell? ⟨b, off + i * 6 + 4, none⟩ = some (.string l[i].s.i) ∧ w.cell? ⟨b, off + i * 6 + 5, none⟩ = some (.string l[i].s.r) := by
  obtain ⟨ao, c, rfl, h1, h2, hc⟩ := Sl.rows tuC_length (by decide) (show Sl S w 6 v (l.flatMap tuC) from h)
  refine ⟨ao, c, rfl, h1, h2, fun i hi => ?_⟩
  obtain ⟨b, off, rfl, hb, hc⟩ := hc (by omega)
  exact ⟨b, off, rfl, hb, hc i hi 0 _ rfl, hc i hi 1 _ rfl, hc i hi 2 _ rfl, hc i hi 3 _ rfl, hc i hi 4 _ rfl, hc i hi 5 _ rfl⟩
theorem tup_neq (a b : Tup) (W : World) : (binOp BinOp.neq 104 (tV a) (tV b)).run Tryz.prog W = .ok (.bool (decide (a ≠ b))) W := by
  obtain ⟨⟨a1, a2, a3⟩, ⟨a4, a5, a6⟩⟩ := a
  obtain ⟨⟨b1, b2, b3⟩, ⟨b4, b5, b6⟩⟩ := b
  unfold tV
  dsimp only
  go_simp
  simp only [ba_toList]
  by_cases h1 : a1 = b1
  · by_cases h2 : a2 = b2
    · by_cases h3 : a3 = b3
      · by_cases h4 : a4 = b4
        · by_cases h5 : a5 = b5
          · by_cases h6 : a6 = b6 <;> simp [h1, h2, h3, h4, h5, h6]
          · simp [h1, h2, h3, h4, h5]
        · simp [h1, h2, h3, h4]
      · simp [h1, h2, h3]
    · simp [h1, h2]
  · simp [h1]
end Go.Proofs.YtjdigpfipmckhaaGreat
namespace Go.Proofs.YtjdigpfipmckhaaGreat
open Go Go.RowKit Go.Maps
theorem p3_neq (a b : P3) (W : World) : (binOp BinOp.neq 30 (pV a) (pV b)).run Tryz.prog W = .ok (.bool (decide (a ≠ b))) W := by
  obtain ⟨a1, a2, a3⟩ := a
  obtain ⟨b1, b2, b3⟩ := b
  unfold pV
  dsimp only
  go_simp
  simp only [ba_toList]
  by_cases h1 : a1 = b1 <;> by_cases h2 : a2 = b2 <;> by_cases h3 : a3 = b3 <;> simp [h1, h2, h3]
theorem p3_eql (a b : P3) (W : World) : (binOp BinOp.eql 30 (pV a) (pV b)).run Tryz.prog W = .ok (.bool (decide (a = b))) W := by
  obtain ⟨a1, a2, a3⟩ := a
  obtain ⟨b1, b2, b3⟩ := b
  unfold pV
  dsimp only
  go_simp
  simp only [ba_toList]
  by_cases h1 : a1 = b1 <;> by_cases h2 : a2 = b2 <;> by_cases h3 : a3 = b3 <;> simp [h1, h2, h3]
def insP (q : List P3) (k : Nat) (p : P3) : List P3 := q.take k ++ [p] ++ q.drop k
theorem insP_mem (q : List P3) (k : Nat) (p x : P3) : x ∈ insP q k p ↔ x ∈ q ∨ x = p := by
  unfold insP
  conv => rhs; rw [← List.take_append_drop k q]
  simp only [List.mem_append, List.mem_singleton]
  constructor
  · rintro ((h | h) | h)
    · exact .inl (.inl h)
    · exact .inr h
    · exact .inl (.inr h)
  · rintro ((h | h) | h)
    · exact .inl (.inl h)
    · exact .inr h
    · exact .inl (.inr h)
theorem insP_up {q : List P3} {k : Nat} {p : P3} (hq : UpP q) (h1 : ∀ j (hj : j < q.length), j < k → ltP q[j] p = true) (h2 : ∀ hk : k < q.length, ltP p q[k] = true) : UpP (insP q k p) := by
  have hq' : (q.take k ++ q.drop k).Pairwise fun a b => ltP a b = true := by rw [List.take_append_drop]; exact hq
  obtain ⟨ha, hb, hab⟩ := List.pairwise_append.1 hq'
  have hlt : ∀ x ∈ q.take k, ltP x p = true := fun x hx => by
    obtain ⟨j, hj, rfl⟩ := List.getElem_of_mem hx
    rw [List.length_take] at hj
    rw [List.getElem_take]
    exact h1 j (by omega) (by omega)
  have hgt : ∀ x ∈ q.drop k, ltP p x = true := fun x hx => by
    obtain ⟨j, hj, rfl⟩ := List.getElem_of_mem hx
    rw [List.length_drop] at hj
    rw [List.getElem_drop]
    have hk : k < q.length := by omega
    rcases Nat.eq_zero_or_pos j with rfl | hj0
    · exact h2 hk
    · exact ltP_trans (h2 hk) ((List.pairwise_iff_getElem.1 hq) k (k + j) hk (by omega) (by omega))
  unfold insP UpP
  rw [List.append_assoc, List.pairwise_append]
  refine ⟨ha, ?_, fun x hx y hy => ?_⟩
  · rw [List.singleton_append, List.pairwise_cons]
    exact ⟨hgt, hb⟩
  · rcases List.mem_append.1 hy with hy | hy
    · obtain rfl : y = p := by simpa using hy
      exact hlt x hx
    · exact hab x hx y hy
theorem insP_length (q : List P3) (k : Nat) (p : P3) : (insP q k p).length = q.length + 1 := by
  unfold insP
  have := congrArg List.length (List.take_append_drop k q)
  simp only [List.length_append, List.length_singleton] at this ⊢
  omega
set_option maxRecDepth 100000 in
set_option maxHeartbeats 1600000 in
theorem less_any (a b : P3) (w : World) : Calls Tryz.prog 72 #[pV a, pV b] w fun e w' => e = .returned (.bool (ltP a b)) ∧ Below w.heap.size w w' := by
  obtain ⟨at_, ai, ar⟩ := a
  obtain ⟨bt, bi, br⟩ := b
  have hb : Below w.heap.size w ((w.alloc (.cells #[.string at_, .string ai, .string ar] 30)).alloc (.cells #[.string bt, .string bi, .string br] 30)) := ((Below.refl _ _).alloc (Nat.le_refl _) _).alloc (by simp) _
  have hA := ((Blk.made w #[.string at_, .string ai, .string ar] 30).alloc (.cells #[.string bt, .string bi, .string br] 30)).cells
  unfold pV
  dsimp only
  by_cases h1 : at_ = bt
  · subst h1
    by_cases h2 : ai = bi
    · subst h2
      have HV := Lib.hid (show Op.bytesLess ar.toList br.toList = ltP ⟨at_, ai, ar⟩ ⟨at_, ai, br⟩ from by simp [ltP, ltS])
      go_enter Tryz.func72, Tryz.ntmps72
      go_wp2_with fail
      go_ret
      exact ⟨congrArg (fun b => Ending.returned (.bool b)) HV.out, hb⟩
    · have HV := Lib.hid (show Op.bytesLess ai.toList bi.toList = ltP ⟨at_, ai, ar⟩ ⟨at_, bi, br⟩ from by simp [ltP, ltS, h2])
      have hn := ba_beq' h2
      rw [← ByteArray.toList_eq, ← ByteArray.toList_eq] at hn
      clear h2
      go_enter Tryz.func72, Tryz.ntmps72
      go_wp2_with fail
      go_ret
      exact ⟨congrArg (fun b => Ending.returned (.bool b)) HV.out, hb⟩
  · have HV := Lib.hid (show Op.bytesLess at_.toList bt.toList = ltP ⟨at_, ai, ar⟩ ⟨bt, bi, br⟩ from by simp [ltP, ltS, h1])
    have hn := ba_beq' h1
    rw [← ByteArray.toList_eq, ← ByteArray.toList_eq] at hn
    clear h1
    go_enter Tryz.func72, Tryz.ntmps72
    go_wp2_with fail
    go_ret
    exact ⟨congrArg (fun b => Ending.returned (.bool b)) HV.out, hb⟩
theorem ltP_asym {a b : P3} (h : ltP a b = true) : ltP b a = false := by
  cases k : ltP b a with
  | false => rfl
  | true => have := ltP_trans h k; rw [ltP_irr] at this; cases this
theorem upP_unique : ∀ {a b : List P3}, UpP a → UpP b → (∀ x, x ∈ a ↔ x ∈ b) → a = b
  | [], [], _, _, _ => rfl
  | [], y :: b, _, _, h => absurd ((h y).2 (by simp)) (by simp)
  | x :: a, [], _, _, h => absurd ((h x).1 (by simp)) (by simp)
  | x :: a, y :: b, ha, hb, h => by
    obtain ⟨ha1, ha2⟩ := List.pairwise_cons.1 ha
    obtain ⟨hb1, hb2⟩ := List.pairwise_cons.1 hb
    have hxy : x = y := by
      rcases List.mem_cons.1 ((h x).1 (by simp)) with e | hx
      · exact e
      · rcases List.mem_cons.1 ((h y).2 (by simp)) with e | hy
        · exact e.symm
        · have h1 := ha1 y hy
          rw [ltP_asym (hb1 x hx)] at h1
          cases h1
    subst hxy
    congr 1
    refine upP_unique ha2 hb2 fun z => ?_
    constructor
    · intro hz
      rcases List.mem_cons.1 ((h z).1 (by simp [hz])) with rfl | k
      · have := ha1 z hz; rw [ltP_irr] at this; cases this
      · exact k
    · intro hz
      rcases List.mem_cons.1 ((h z).2 (by simp [hz])) with rfl | k
      · have := hb1 z hz; rw [ltP_irr] at this; cases this
      · exact k
set_option maxRecDepth 100000 in
set_option maxHeartbeats 2000000 in
theorem sameS_any (v1 v2 : Value) (l : List P3) (w : World) (h1 : Sl (· < w.heap.size) w 3 v1 (pcs l)) (h2 : Sl (· < w.heap.size) w 3 v2 (pcs l)) : Calls Tryz.prog 35 #[v1, v2] w fun e w' => e = .returned (.bool true) ∧ Below w.heap.size w w' := by
  obtain ⟨ao, c, rfl, hlc, hcm, hc⟩ := Sl.rows pC_length (by decide) (show Sl _ w 3 v1 (List.flatMap pC l) from h1)
  obtain ⟨ao2, c2, rfl, hlc2, hcm2, hc2⟩ := Sl.rows pC_length (by decide) (show Sl _ w 3 v2 (List.flatMap pC l) from h2)
  have HC := Lib.hid hc
  have HC2 := Lib.hid hc2
  clear hc hc2 h1 h2
  go_enter Tryz.func35, Tryz.ntmps35
  go_wp2_with fail
  go_loopw [13] (fun ii wr => ∃ i : Nat, i ≤ l.length ∧ ii = .int .i64 i ∧ Below w.heap.size w wr) (fun ii _ => l.length - (intOf ii).toNat)
  case atStart => exact ⟨0, by omega, rfl, Below.refl _ _⟩
  case round =>
    obtain ⟨i, hi, rfl, hbel⟩ := hrel
    by_cases hlt : i < l.length
    · obtain ⟨b, off, rfl, hb, hc⟩ := HC.out (by omega)
      obtain ⟨b2, off2, rfl, hb2, hc2⟩ := HC2.out (by omega)
      have c0 := hc i hlt 0 _ rfl
      have c1 := hc i hlt 1 _ rfl
      have c2 := hc i hlt 2 _ rfl
      have e0 := hc2 i hlt 0 _ rfl
      have e1 := hc2 i hlt 1 _ rfl
      have e2 := hc2 i hlt 2 _ rfl
      clear hc hc2
      generalize l[i] = x at *
      obtain ⟨xt, xi, xr⟩ := x
      rw [Nat.add_zero] at c0 e0
      dsimp only at c0 c1 c2 e0 e1 e2
      go_wp2_with fail
      obtain ⟨wd, hwd⟩ : ∃ wd, wd = wr.drew := ⟨_, rfl⟩
      have hbd := hbel.drew
      rw [← hwd] at hbd
      refine region_walkN (Ext wd) (by rw [← hwd]; exact Ext.refl _) (by kernel_rfl) (by kernel_rfl) (fun _ _ d _ _ h => by cases d <;> exact h) ?_
      rw [← hwd]
      clear hwd hbel
      have g0 : ∀ W, Ext wd W → W.cell? ⟨b, off + i * 3, none⟩ = some (.string xt) := fun W h => ((Below.cell (hbd.trans (h.mono hbd.size)) (p := ⟨b, off + i * 3, none⟩) hb)).trans c0
      have g1 : ∀ W, Ext wd W → W.cell? ⟨b, off + i * 3 + 1, none⟩ = some (.string xi) := fun W h => ((Below.cell (hbd.trans (h.mono hbd.size)) (p := ⟨b, off + i * 3 + 1, none⟩) hb)).trans c1
      have g2 : ∀ W, Ext wd W → W.cell? ⟨b, off + i * 3 + 2, none⟩ = some (.string xr) := fun W h => ((Below.cell (hbd.trans (h.mono hbd.size)) (p := ⟨b, off + i * 3 + 2, none⟩) hb)).trans c2
      have k0 : ∀ W, Ext wd W → W.cell? ⟨b2, off2 + i * 3, none⟩ = some (.string xt) := fun W h => ((Below.cell (hbd.trans (h.mono hbd.size)) (p := ⟨b2, off2 + i * 3, none⟩) hb2)).trans e0
      have k1 : ∀ W, Ext wd W → W.cell? ⟨b2, off2 + i * 3 + 1, none⟩ = some (.string xi) := fun W h => ((Below.cell (hbd.trans (h.mono hbd.size)) (p := ⟨b2, off2 + i * 3 + 1, none⟩) hb2)).trans e1
      have k2 : ∀ W, Ext wd W → W.cell? ⟨b2, off2 + i * 3 + 2, none⟩ = some (.string xr) := fun W h => ((Below.cell (hbd.trans (h.mono hbd.size)) (p := ⟨b2, off2 + i * 3 + 2, none⟩) hb2)).trans e2
      (refine WalkN.tk [0, 1, 2, 3, 4, 5, 6, 7, 8] ?_; (iterate 9 ((refine TkN.c _ ?_ (by simp only [gtA, gtS, gtZ]; rfl) (by kernel_rfl) (by kernel_rfl) (by rfl) (fun W hW => ?_) ?_; rotate_left; · (go_simp; try with_reducible rfl)); simp only [Act.put, puA, puZ, puS])); refine TkN.n ?_)
      refine WalkN.done (by kernel_rfl) ?_
      clear c0 c1 c2 e0 e1 e2 g0 g1 g2 k0 k1 k2
      go_wp2_with fail
      go_roundw
      case rel => exact ⟨i + 1, by omega, by go_num, hbd⟩
      case measure => simp [intOf]; omega
    · obtain rfl : i = l.length := by omega
      go_wp2_with fail
      go_ret
      exact ⟨rfl, hbel⟩
set_option maxRecDepth 100000 in
set_option maxHeartbeats 2000000 in
theorem sameP_any (v1 v2 : Value) (l : List P3) (w : World) (h1 : Sl (· < w.heap.size) w 3 v1 (pcs l)) (h2 : Sl (· < w.heap.size) w 3 v2 (pcs l)) : Calls Tryz.prog 21 #[v1, v2] w fun e w' => e = .returned (.bool true) ∧ Below w.heap.size w w' := by
  obtain ⟨ao, c, rfl, hlc, hcm, hc⟩ := Sl.rows pC_length (by decide) (show Sl _ w 3 v1 (List.flatMap pC l) from h1)
  obtain ⟨ao2, c2, rfl, hlc2, hcm2, hc2⟩ := Sl.rows pC_length (by decide) (show Sl _ w 3 v2 (List.flatMap pC l) from h2)
  have HC := Lib.hid hc
  have HC2 := Lib.hid hc2
  clear hc hc2 h1 h2
  go_enter Tryz.func21, Tryz.ntmps21
  go_wp2_with fail
  go_loopw [13] (fun ii wr => ∃ i : Nat, i ≤ l.length ∧ ii = .int .i64 i ∧ Below w.heap.size w wr) (fun ii _ => l.length - (intOf ii).toNat)
  case atStart => exact ⟨0, by omega, rfl, Below.refl _ _⟩
  case round =>
    obtain ⟨i, hi, rfl, hbel⟩ := hrel
    by_cases hlt : i < l.length
    · obtain ⟨b, off, rfl, hb, hc⟩ := HC.out (by omega)
      obtain ⟨b2, off2, rfl, hb2, hc2⟩ := HC2.out (by omega)
      have c0 := hc i hlt 0 _ rfl
      have c1 := hc i hlt 1 _ rfl
      have c2 := hc i hlt 2 _ rfl
      have e0 := hc2 i hlt 0 _ rfl
      have e1 := hc2 i hlt 1 _ rfl
      have e2 := hc2 i hlt 2 _ rfl
      clear hc hc2
      generalize l[i] = x at *
      obtain ⟨xt, xi, xr⟩ := x
      rw [Nat.add_zero] at c0 e0
      dsimp only at c0 c1 c2 e0 e1 e2
      go_wp2_with fail
      obtain ⟨wd, hwd⟩ : ∃ wd, wd = wr.drew := ⟨_, rfl⟩
      have hbd := hbel.drew
      rw [← hwd] at hbd
      refine region_walkN (Ext wd) (by rw [← hwd]; exact Ext.refl _) (by kernel_rfl) (by kernel_rfl) (fun _ _ d _ _ h => by cases d <;> exact h) ?_
      rw [← hwd]
      clear hwd hbel
      have g0 : ∀ W, Ext wd W → W.cell? ⟨b, off + i * 3, none⟩ = some (.string xt) := fun W h => ((Below.cell (hbd.trans (h.mono hbd.size)) (p := ⟨b, off + i * 3, none⟩) hb)).trans c0
      have g1 : ∀ W, Ext wd W → W.cell? ⟨b, off + i * 3 + 1, none⟩ = some (.string xi) := fun W h => ((Below.cell (hbd.trans (h.mono hbd.size)) (p := ⟨b, off + i * 3 + 1, none⟩) hb)).trans c1
      have g2 : ∀ W, Ext wd W → W.cell? ⟨b, off + i * 3 + 2, none⟩ = some (.string xr) := fun W h => ((Below.cell (hbd.trans (h.mono hbd.size)) (p := ⟨b, off + i * 3 + 2, none⟩) hb)).trans c2
      have k0 : ∀ W, Ext wd W → W.cell? ⟨b2, off2 + i * 3, none⟩ = some (.string xt) := fun W h => ((Below.cell (hbd.trans (h.mono hbd.size)) (p := ⟨b2, off2 + i * 3, none⟩) hb2)).trans e0
      have k1 : ∀ W, Ext wd W → W.cell? ⟨b2, off2 + i * 3 + 1, none⟩ = some (.string xi) := fun W h => ((Below.cell (hbd.trans (h.mono hbd.size)) (p := ⟨b2, off2 + i * 3 + 1, none⟩) hb2)).trans e1
      have k2 : ∀ W, Ext wd W → W.cell? ⟨b2, off2 + i * 3 + 2, none⟩ = some (.string xr) := fun W h => ((Below.cell (hbd.trans (h.mono hbd.size)) (p := ⟨b2, off2 + i * 3 + 2, none⟩) hb2)).trans e2
      (refine WalkN.tk [0, 1, 2, 3, 4, 5, 6, 7, 8] ?_; (iterate 9 ((refine TkN.c _ ?_ (by simp only [gtA, gtS, gtZ]; rfl) (by kernel_rfl) (by kernel_rfl) (by rfl) (fun W hW => ?_) ?_; rotate_left; · (go_simp; try with_reducible rfl)); simp only [Act.put, puA, puZ, puS])); refine TkN.n ?_)
      refine WalkN.done (by kernel_rfl) ?_
      clear c0 c1 c2 e0 e1 e2 g0 g1 g2 k0 k1 k2
      go_wp2_with fail
      go_roundw
      case rel => exact ⟨i + 1, by omega, by go_num, hbd⟩
      case measure => simp [intOf]; omega
    · obtain rfl : i = l.length := by omega
      go_wp2_with fail
      go_ret
      exact ⟨rfl, hbel⟩
end Go.Proofs.YtjdigpfipmckhaaGreat
namespace Go.Proofs.YtjdigpfipmckhaaGreat
open Go Go.RowKit Go.Maps
structure GkAt (w : World) (gp B : Nat) (ps : List P3) (pv fv : Value) : Prop where
  box : Blk w gp #[pv, fv] 37
  pts : Own w B 30 3 pv (pcs ps)
section
variable {w w' w0 : World} {gp B B' lo x : Nat} {pv fv pv' v sv rv qv : Value} {ps : List P3} {e : TypeId} {sz : Nat} {xs : List Value} {k : Int} {subs : List P3} {refs : List Int} {q : List (FT × FV3)}
theorem GkAt.ext (h : GkAt w gp B ps pv fv) (hx : Ext w w') : GkAt w' gp B ps pv fv := ⟨h.box.below hx, h.pts.below hx⟩
theorem GkAt.same (h : GkAt w gp B ps pv fv) (h1 : w'.heap[gp]? = w.heap[gp]?) (h3 : ∀ g, pv.ownBlock = some g → w'.heap[g]? = w.heap[g]?) : GkAt w' gp B ps pv fv := ⟨h1.trans h.box, h.pts.keepOwn h3⟩
theorem GkAt.ptNe (h : GkAt w gp B ps pv fv) : ∀ g, pv.ownBlock = some g → g ≠ gp := fun g hg e => by
  obtain ⟨cur, h2⟩ := h.pts.typed hg
  subst e
  rw [show w.heap[g]? = _ from h.box] at h2
  injection h2 with h2
  injection h2 with _ h2 _
  exact absurd h2 (by decide)
theorem GkAt.un (h : GkAt w gp B ps pv fv) {x : Nat} {cs : Array Value} {fr : Nat × Nat} (hx : w.heap[x]? = some (.cells cs e fr)) (he : e ≠ 30) (he2 : e ≠ 37) : KX gp gp w pv x := by
  have hne : x ≠ gp := fun e => by
    subst e
    rw [show w.heap[x]? = _ from h.box] at hx
    injection hx with hx
    injection hx with _ hx _
    exact he2 hx.symm
  refine ⟨(Array.getElem?_eq_some_iff.1 hx).1, hne, hne, fun e => ?_⟩
  obtain ⟨c, hc⟩ := h.pts.typed e
  rw [hc] at hx
  injection hx with hx
  injection hx with _ hx _
  exact he hx.symm
theorem Fine.gpk (h : Fine gp gp w w' pv pv') (hw : GkAt w gp B ps pv fv) (hB : B ≤ gp) : PKept (· = gp) B w w' := h.kept.mono fun x hx => by
  rcases hx with hx | ⟨h1, h2, h3⟩
  · exact ⟨by have := hw.box.lt; omega, by omega, by omega, fun e => by have := (hw.pts.block x e).1; omega⟩
  · refine ⟨h2, h1, h1, fun e => ?_⟩
    obtain ⟨c, hc⟩ := hw.pts.typed e
    exact h3 c hc
theorem Fine.gblk (h : Fine gp gp w w' pv pv') (hw : GkAt w gp B ps pv fv) {x : Nat} {cs : Array Value} (hx : Blk w x cs e) (he : e ≠ 30) (he2 : e ≠ 37) : Blk w' x cs e := (h.kept.block x (hw.un hx he he2)).trans hx
theorem Fine.grow (h : Fine gp gp w w' pv pv') (hw : GkAt w gp B ps pv fv) (ho : Own w B' e sz v xs) (he : e ≠ 30) (he2 : e ≠ 37) : Own w' B' e sz v xs := ho.keepOwn fun g hg => by
  obtain ⟨c, hc⟩ := ho.typed hg
  exact h.kept.block g (hw.un hc he he2)
theorem GkAt.grown (h : GkAt w gp B ps pv fv) (ho : Own w B' e sz v xs) (he : e ≠ 30) (he2 : e ≠ 37) (hg : w.grownBy w' v.ownBlock) : GkAt w' gp B ps pv fv := by
  refine h.same (hg.block gp h.box.lt fun e => ?_) fun g hgp => hg.block g (h.pts.block g hgp).2 fun e => ?_
  · obtain ⟨c, hc⟩ := ho.typed e.symm
    exact (h.un hc he he2).2.1 rfl
  · obtain ⟨c, hc⟩ := ho.typed e.symm
    exact (h.un hc he he2).2.2.2 hgp
theorem GkAt.setBox (h : GkAt w gp B ps pv fv) {x i : Nat} {cs : Array Value} (hx : Blk w x cs e) (he : e ≠ 30) (he2 : e ≠ 37) (u : Value) : GkAt (w.setCell ⟨x, i, none⟩ u) gp B ps pv fv := by
  have hu := h.un hx he he2
  exact h.same (Below.heap_setCell _ _ _ _ fun e => hu.2.1 e.symm) fun g hg => Below.heap_setCell _ _ _ _ fun e => hu.2.2.2 (by rw [hg, show g = x from e])
theorem FmAt.gfine (h : FmAt w lo x k subs refs q sv rv qv) (hw : GkAt w gp B ps pv fv) (hf : Fine gp gp w w' pv pv') (hB : B ≤ gp) (hM : gp < lo) : FmAt w' lo x k subs refs q sv rv qv :=
  ⟨hf.gblk hw h.box (by decide) (by decide), hf.grow hw h.subs (by decide) (by decide), hf.grow hw h.refs (by decide) (by decide), h.parts.keep (hf.gpk hw hB) fun x hx => by
    rw [show x = gp from hx]
    exact hM⟩
end
theorem grown_blk {w w' : World} {B sz x : Nat} {e t : TypeId} {v : Value} {xs : List Value} {cs : Array Value} (ho : Own w B e sz v xs) (hg : w.grownBy w' v.ownBlock) (hx : Blk w x cs t) (hne : t ≠ e) : Blk w' x cs t :=
  (hg.block x hx.lt fun hv => by
    obtain ⟨c2, h2⟩ := ho.typed hv.symm
    rw [show w.heap[x]? = _ from hx] at h2
    exact hne (by injection Option.some.inj h2)).trans hx
theorem grown_below {w0 w w' : World} {B sz : Nat} {e : TypeId} {v : Value} {xs : List Value} (h : Below B w0 w) (ho : Own w B e sz v xs) (hg : w.grownBy w' v.ownBlock) (hB : B ≤ w.heap.size) : Below B w0 w' :=
  h.trans ⟨hg.os, hg.tape, hg.output, hg.size, fun x hx => hg.block x (by omega) fun e => by have := (ho.block x e.symm).1; omega⟩
theorem numD_at {ps : List P3} {p : P3} {i : Nat} (hi : i < ps.length) (h : ps[i] = p) (hn : ∀ j (hj : j < ps.length), j < i → ps[j] ≠ p) : numD ps p = i := by
  unfold numD
  rw [List.findIdx_eq hi]
  exact ⟨by simpa using h, fun j hj => by simpa using hn j (by omega) hj⟩
set_option maxRecDepth 100000 in
set_option maxHeartbeats 1600000 in
theorem number26_any (gp B : Nat) (pv fv : Value) (ps : List P3) (p : P3) (w : World) (h : GkAt w gp B ps pv fv) (hB : B ≤ gp) (hl : ps.length ≤ 1073741824) :
    Calls Tryz.prog 123 #[.pointer (some ⟨gp, 0, none⟩), pV p] w fun e w' => ∃ pv', e = .returned (.int .i64 (numD ps p : Nat)) ∧ GkAt w' gp B (putP ps p) pv' fv ∧ Fine gp gp w w' pv pv' := by
  have HBB := Lib.hid hB
  have HB0 := Lib.hid (show B ≤ w.heap.size from by have := h.box.lt; omega)
  have HPT := Lib.hid h.ptNe
  have HPL := Lib.hid h.pts.block
  obtain ⟨po, pc, rfl, hlc, hcm, -⟩ := Sl.rows pC_length (by decide) (show Sl _ w 3 pv (ps.flatMap pC) from h.pts.sl)
  have HNW := Lib.hid (numD_new ps p)
  have HAT := Lib.hid (fun i hi => numD_at (ps := ps) (p := p) (i := i) hi)
  have HPP := Lib.hid (show putP ps p = if p ∈ ps then ps else ps ++ [p] from rfl)
  obtain ⟨pt, pi, pr⟩ := p
  have hx1 := Ext.alloc w (.cells #[.string pt, .string pi, .string pr] 30)
  have HW1 := Lib.hid (h.ext hx1)
  have HP1 := Lib.hid (Blk.made w #[.string pt, .string pi, .string pr] 30)
  have HX1 := Lib.hid hx1
  have hgc := HW1.out.box.cells
  clear hx1 h hB
  unfold pV
  dsimp only
  go_enter Tryz.func123, Tryz.ntmps123
  go_wp2_with fail
  clear hgc
  obtain ⟨w1, hw1⟩ : ∃ x, x = w.alloc (.cells #[.string pt, .string pi, .string pr] 30) := ⟨_, rfl⟩
  rw [← hw1] at HW1 HP1 HX1 ⊢
  clear hw1
  go_loopw [12] (fun ii wr => ∃ i : Nat, i ≤ ps.length ∧ ii = .int .i64 i ∧ (∀ j (hj : j < ps.length), j < i → ps[j] ≠ ⟨pt, pi, pr⟩) ∧ Ext w1 wr) (fun ii _ => ps.length - (intOf ii).toNat)
  case atStart => exact ⟨0, Nat.zero_le _, rfl, fun _ _ h => absurd h (Nat.not_lt_zero _), Ext.refl _⟩
  case round =>
    obtain ⟨i, hi, rfl, hall, hxr⟩ := hrel
    have HALL := Lib.hid hall
    have HXR := Lib.hid hxr
    clear hall hxr
    by_cases hlt : i < ps.length
    · obtain ⟨ao', c', he', -, -, hcell⟩ := Sl.rows pC_length (by decide) (show Sl _ wr 3 (.slice po ps.length pc) (ps.flatMap pC) from (HW1.out.pts.below HXR.out).sl)
      cases he'
      obtain ⟨b, off, rfl, -, hcell⟩ := hcell (by omega)
      have hck := hcell i hlt
      clear hcell
      have HEQ := Lib.hid (fun (h : ps[i] = ⟨pt, pi, pr⟩) => HAT.out i hlt h HALL.out)
      have HMEM := Lib.hid (fun (h : ps[i] = (⟨pt, pi, pr⟩ : P3)) => h ▸ List.getElem_mem hlt)
      have HNX := Lib.hid (fun (h : ps[i] ≠ ⟨pt, pi, pr⟩) => upto_succ (p := fun j hj => ps[j] ≠ ⟨pt, pi, pr⟩) HALL.out hlt h)
      have HLT := Lib.hid hlt
      have hli : (i : Int) < (ps.length : Int) := by omega
      have HII := Lib.hid (show ps.length ≤ 1073741824 from hl)
      generalize ps[i] = x at *
      have hqe := fun W => p3_eql x ⟨pt, pi, pr⟩ W
      by_cases he : x = ⟨pt, pi, pr⟩
      · rw [decide_eq_true he] at hqe
        have HE := Lib.hid (HEQ.out he)
        have HM := Lib.hid (show putP ps ⟨pt, pi, pr⟩ = ps from by rw [HPP.out, if_pos (HMEM.out he)])
        clear HEQ HMEM HNX
        obtain ⟨xt, xi, xr⟩ := x
        unfold pV at hqe
        dsimp only at hqe
        have c0 : wr.cell? ⟨b, off + i * 3, none⟩ = some (.string xt) := hck 0 _ rfl
        have c1 := hck 1 _ rfl
        have c2 := hck 2 _ rfl
        clear hck he
        have HX2 := Lib.hid (Ext.alloc wr (.cells #[.string xt, .string xi, .string xr] 30))
        have hxc := (Blk.made wr #[.string xt, .string xi, .string xr] 30).cells
        have hpc := ((HP1.out.below HXR.out).below HX2.out).cells
        clear hl hlt
        go_wp2_with fail
        go_ret
        exact ⟨by rw [HE.out]; rfl, .slice (some ⟨b, off, none⟩) ps.length pc, by rw [HM.out]; exact (HW1.out.ext HXR.out).ext HX2.out, Fine.of _ _ _ (HX1.out.trans (HXR.out.trans HX2.out))⟩
      · rw [decide_eq_false he] at hqe
        have HN := Lib.hid (HNX.out he)
        clear HEQ HMEM HNX
        obtain ⟨xt, xi, xr⟩ := x
        unfold pV at hqe
        dsimp only at hqe
        have c0 : wr.cell? ⟨b, off + i * 3, none⟩ = some (.string xt) := hck 0 _ rfl
        have c1 := hck 1 _ rfl
        have c2 := hck 2 _ rfl
        clear hck he
        have HX2 := Lib.hid (Ext.alloc wr (.cells #[.string xt, .string xi, .string xr] 30))
        have hxc := (Blk.made wr #[.string xt, .string xi, .string xr] 30).cells
        have hpc := ((HP1.out.below HXR.out).below HX2.out).cells
        clear hlt
        go_wp2_with fail
        go_roundw
        case rel => exact ⟨i + 1, HLT.out, by go_num, HN.out, HXR.out.trans HX2.out⟩
        case measure => have := HLT.out; simp [intOf]; omega
    · obtain rfl : i = ps.length := by omega
      have hm : (⟨pt, pi, pr⟩ : P3) ∉ ps := fun h => by
        obtain ⟨j, hj, e⟩ := List.getElem_of_mem h
        exact HALL.out j hj hj e
      have HR := Lib.hid (show putP ps ⟨pt, pi, pr⟩ = ps ++ [⟨pt, pi, pr⟩] from by rw [HPP.out, if_neg hm])
      have HNN := Lib.hid (HNW.out hm)
      have HLL := Lib.hid hl
      clear hm hl hlt
      go_wp2_with fail
      obtain ⟨wg, hwg⟩ : ∃ wg, wg = wr.drew := ⟨_, rfl⟩
      have HXg := Lib.hid (show Ext w wg from by rw [hwg]; exact HX1.out.trans (HXR.out.trans (Ext.drew _)))
      have HGg := Lib.hid (show GkAt wg gp B ps (.slice po ps.length pc) fv from by rw [hwg]; exact (HW1.out.ext HXR.out).ext (Ext.drew _))
      have HPg := Lib.hid (show Blk wg w.heap.size _ _ from by rw [hwg]; exact (HP1.out.below HXR.out).drew)
      refine region_walkL 10 (Kept (fun x => x < wg.heap.size ∧ Value.ownBlock (.slice po ps.length pc) ≠ some x) wg) (by rw [← hwg]; exact Kept.refl _ _) (by kernel_rfl) (by kernel_rfl) (fun _ _ d _ _ h => by cases d <;> exact h) ?_
      rw [← hwg]
      clear hwg
      have h1 := fun W (h : Kept (fun x => x < wg.heap.size ∧ Value.ownBlock (.slice po ps.length pc) ≠ some x) wg W) => (h.blk HGg.out.box ⟨HGg.out.box.lt, fun e => HPT.out _ e rfl⟩).cells
      have h2 := fun W (h : Kept (fun x => x < wg.heap.size ∧ Value.ownBlock (.slice po ps.length pc) ≠ some x) wg W) => (h.blk HPg.out ⟨HPg.out.lt, fun e => by have := (HPL.out _ e).2; omega⟩).cells
      (refine WalkL.tk [0, 1, 2, 3, 4, 5] ?_; (iterate 6 ((refine TkL.c _ ?_ (by simp only [gtA, gtS, gtZ]; rfl) (by kernel_rfl) (by kernel_rfl) (by kernel_rfl) (by rfl) (fun W hW => ?_) ?_; rotate_left; · (go_simp; try with_reducible rfl)); simp only [Act.put, puA, puZ, puS])); refine TkL.n ?_)
      clear h1 h2
      have hE1 : Ext wg (wg.alloc (.cells #[.string pt, .string pi, .string pr] 30)) := Ext.alloc _ _
      refine WalkL.one 6 (by kernel_rfl) ?_
      refine ⟨_, (by simp only [gtA, gtS, gtZ]; rfl), by rfl, fun K hK => ?_⟩
      go_simp
      refine hK.out _ _ ((Kept.refl _ _).alloc (fun x hx => hx.1) _) ?_
      clear hK
      refine WalkL.one 7 (by kernel_rfl) ?_
      refine ⟨_, (by simp only [gtA, gtS, gtZ]; rfl), by rfl, fun K hK => ?_⟩
      refine wp_ownw pointsT (.tmp 26) (.tmp 28) rfl rfl (HGg.out.pts.below hE1) (m := 1) (news := pC ⟨pt, pi, pr⟩) rfl rfl (fun j u hu => ?_) (pC_one _) (by rw [pcs_length, pC_length]; have := HLL.out; omega) (by rw [pcs_length, pC_length]; have := HLL.out; omega) (by have := HXg.out.size; have := HB0.out; simp; omega) (fun v2 w2 hown2 hw2 hg2 => ?_)
      · rw [Addr.add_lit, cell_of_row _ wg.heap.size (0 + j) #[.string pt, .string pi, .string pr] 30 (0, 0) (heap_alloc_new wg _), Nat.zero_add]
        simpa [pC] using hu
      have hkg : Kept (fun x => x < wg.heap.size ∧ Value.ownBlock (.slice po ps.length pc) ≠ some x) wg w2 := ⟨hg2.os.trans rfl, hg2.tape.trans rfl, hg2.output.trans rfl, Nat.le_trans (by simp) hg2.size, fun x hx => (hg2.block x (by have := hx.1; simp; omega) (fun e => hx.2 e.symm)).trans (Below.heap_alloc wg _ x hx.1)⟩
      have HQ2 := Lib.hid (show Kept (KX gp gp w (.slice po ps.length pc)) w w2 from (show Kept (KX gp gp w (.slice po ps.length pc)) w wg from Below.kept HXg.out fun x hx => hx.1).trans (hkg.mono fun x hx => ⟨Nat.lt_of_lt_of_le hx.1 HXg.out.size, hx.2.2.2⟩))
      have HWH := Lib.hid (show ∀ g, v2.ownBlock = some g → (Value.slice po ps.length pc).ownBlock = some g ∨ w.heap.size ≤ g from fun g hg => (hw2 g hg).imp id fun e => by have := HXg.out.size; simp at e; omega)
      have HB2 := Lib.hid (hkg.blk HGg.out.box ⟨HGg.out.box.lt, fun e => HPT.out _ e rfl⟩)
      refine hK.out _ _ hkg ?_
      clear hK
      simp only [Act.put, puA, puZ, puS]
      have HO2 := Lib.hid (show Own w2 B 30 3 v2 (pcs (ps ++ [⟨pt, pi, pr⟩])) from by rw [pcs_append, pcs_single]; exact hown2)
      have HW2 := Lib.hid (show ∀ g, v2.ownBlock = some g → g ≠ gp from fun g hg => (hw2 g hg).elim (fun e => HPT.out g e) (fun e => by have h2 := HGg.out.box.lt; simp at e; omega))
      obtain ⟨o2, c2, hv2, -, -, -⟩ := Sl.rows pC_length (by decide) (show Sl _ w2 3 v2 (List.flatMap pC (ps ++ [⟨pt, pi, pr⟩])) from HO2.out.sl)
      rw [List.length_append, List.length_singleton] at hv2
      subst hv2
      clear hkg hown2 hw2 hg2 hE1 HGg HPg
      (refine WalkL.tk [8, 9] ?_; (iterate 2 ((refine TkL.c _ ?_ (by simp only [gtA, gtS, gtZ]; rfl) (by kernel_rfl) (by kernel_rfl) (by kernel_rfl) (by rfl) (fun W hW => ?_) ?_; rotate_left; · (go_simp; try with_reducible rfl)); simp only [Act.put, puA, puZ, puS])); refine TkL.n ?_)
      have hbf := HB2.out.cells
      have hbz := HB2.out.free
      refine WalkL.last (by kernel_rfl) (by kernel_rfl) ?_
      refine ⟨_, (by simp only [gtA, gtS, gtZ]; rfl), by rfl, fun K hK => ?_⟩
      go_simp
      refine hK.out _ _ ?_
      clear hK hbf hbz
      have HB3 := Lib.hid (HB2.out.set_to 0 (.slice o2 (ps.length + 1) c2) rfl)
      have hb3 := HB3.out.cells
      have HWI := Lib.hid (show wrap64 ((ps.length + 1 : Nat) - 1 : Int) = (ps.length : Int) from by have := HLL.out; unfold wrap64; omega)
      clear hi
      go_wp2_with fail
      go_ret
      refine ⟨.slice o2 (ps.length + 1) c2, ?_, ?_, ?_⟩
      · rw [HNN.out]
        refine congrArg Ending.returned ?_
        rfl
      · rw [HR.out]
        exact ⟨HB3.out, HO2.out.keepOwn fun g hg => Below.heap_setCell _ _ _ _ (HW2.out g hg)⟩
      · exact ⟨HQ2.out.set (fun h => h.2.1 rfl) _, HWH.out⟩
set_option maxRecDepth 100000 in
set_option maxHeartbeats 1600000 in
theorem put26_any {B : Nat} (v : Value) (l : List Int) (n : Int) (w : World) (h : Own w B 3 1 v (ic l)) (hl : l.length ≤ 1099511627776) (hB : B ≤ w.heap.size) :
    Calls Tryz.prog 122 #[v, .int .i64 n] w fun e w' => ∃ v', e = .returned v' ∧ Own w' B 3 1 v' (ic (if n ∈ l then l else l ++ [n])) ∧ Kept (fun b => b < w.heap.size ∧ v.ownBlock ≠ some b) w w' ∧ (∀ g, v'.ownBlock = some g → v.ownBlock = some g ∨ w.heap.size ≤ g) := by
  obtain ⟨ao, m, c, rfl, hm, -, -⟩ := h.sl.len
  rw [ic_length] at hm
  obtain rfl : m = l.length := by omega
  obtain ⟨r, hr⟩ : ∃ r, r = if n ∈ l then l else l ++ [n] := ⟨_, rfl⟩
  rw [← hr]
  have HRR := Lib.hid hr
  have HO := Lib.hid h
  have HL := Lib.hid hl
  have HB := Lib.hid hB
  clear h hm hl hB hr
  go_enter Tryz.func122, Tryz.ntmps122
  go_wp2_with fail
  go_loopw [9] (fun ii wr => ∃ i : Nat, i ≤ l.length ∧ ii = .int .i64 i ∧ (∀ j (hj : j < l.length), j < i → l[j] ≠ n) ∧ wr = w) (fun ii _ => l.length - (intOf ii).toNat)
  case atStart => exact ⟨0, Nat.zero_le _, rfl, fun _ _ h => absurd h (Nat.not_lt_zero _), rfl⟩
  case round =>
    obtain ⟨i, hi, rfl, hall, rfl⟩ := hrel
    have HALL := Lib.hid hall
    clear hall
    by_cases hlt : i < l.length
    · obtain ⟨a1, n1, c1, hv, -, -, -, -, hcell⟩ := HO.out.sl
      cases hv
      obtain ⟨b, off, rfl, -, hcell⟩ := hcell (by intro h; have := congrArg List.length h; rw [ic_length] at this; rw [List.length_nil] at this; omega)
      have c0 := hcell i (.int .i64 l[i]) (by simp [ic, List.getElem?_eq_getElem hlt])
      clear hcell
      have HMEM := Lib.hid (fun (h : l[i] = n) => show r = l from by rw [HRR.out, if_pos (h ▸ List.getElem_mem hlt)])
      have HNX := Lib.hid (fun (h : l[i] ≠ n) => upto_succ (p := fun j hj => l[j] ≠ n) HALL.out hlt h)
      have HLT := Lib.hid hlt
      have hli : (i : Int) < (l.length : Int) := by omega
      have HII := Lib.hid HL.out
      generalize l[i] = x at *
      clear hlt
      by_cases he : x = n
      · have HR := Lib.hid (HMEM.out he)
        have hb : (x == n) = true := by simpa using he
        clear HMEM HNX he
        go_wp2_with fail
        go_ret
        exact ⟨_, rfl, by rw [HR.out]; exact HO.out, Kept.refl _ _, fun g hg => .inl hg⟩
      · have HN := Lib.hid (HNX.out he)
        have hb : (x == n) = false := by simpa using he
        have HWI := Lib.hid (show wrap64 ((i : Int) + 1) = ((i + 1 : Nat) : Int) from by have := HL.out; have := HLT.out; unfold wrap64; omega)
        clear HMEM HNX he
        go_wp2_with fail
        go_roundw
        case rel => exact ⟨i + 1, HLT.out, by rw [HWI.out], HN.out, trivial⟩
        case measure => have := HLT.out; rw [HWI.out]; simp [intOf]; omega
    · obtain rfl : i = l.length := by omega
      have hm : n ∉ l := fun h => by
        obtain ⟨j, hj, e⟩ := List.getElem_of_mem h
        exact HALL.out j hj hj e
      have HR := Lib.hid (show r = l ++ [n] from by rw [HRR.out, if_neg hm])
      clear hm hlt hi
      have HX := Lib.hid (Ext.alloc wr (.cells #[.int .i64 n] 3))
      go_wp2_with (at_builtin; go_must (refine wpList_ownw intsT rfl (.tmp 18) (.tmp 20) rfl rfl (HO.out.below HX.out) rfl (m := 1) (news := [.int .i64 n]) rfl (by intro j u hu; rw [Addr.add_lit, cell_of_row _ wr.heap.size (0 + j) #[.int .i64 n] 3 (0, 0) (heap_alloc_new wr _)]; simpa using hu) (by simp [Value.oneCell']) (by have := HL.out; rw [ic_length]; simp; omega) (by have := HL.out; rw [ic_length]; simp; omega) (by have := HB.out; simp; omega) ?_; intro v6 w6 hown6 hb6 hg6; have HO6 := Lib.hid (show Own w6 B 3 1 v6 (ic (l ++ [n])) from by rw [ic_append]; exact hown6); have HB6 := Lib.hid (show ∀ g, v6.ownBlock = some g → (Value.slice ao l.length c).ownBlock = some g ∨ (wr.alloc (.cells #[.int .i64 n] 3)).heap.size ≤ g from hb6); have HG6 := Lib.hid (show (wr.alloc (.cells #[.int .i64 n] 3)).grownBy w6 (Value.slice ao l.length c).ownBlock from hg6); clear hown6 hb6 hg6))
      go_ret
      exact ⟨_, rfl, by rw [HR.out]; exact HO6.out, ⟨HG6.out.os.trans rfl, HG6.out.tape.trans rfl, HG6.out.output.trans rfl, Nat.le_trans HX.out.size HG6.out.size, fun b hb => (HG6.out.block b (Nat.lt_of_lt_of_le hb.1 HX.out.size) fun e => hb.2 e.symm).trans (HX.out.block b hb.1)⟩, fun g hg => (HB6.out g hg).imp id fun h => Nat.le_trans HX.out.size h⟩
theorem obj_eqlG (a1 a2 b1 b2 : ByteArray) (W : World) : (binOp BinOp.eql 28 (.agg #[.string a1, .string a2]) (.agg #[.string b1, .string b2])).run Tryz.prog W = .ok (.bool (decide (a1 = b1 ∧ a2 = b2))) W := by
  go_simp
  simp only [ba_toList]
  by_cases h1 : a1 = b1 <;> by_cases h2 : a2 = b2 <;> simp [h1, h2]
theorem str_beq (a b : ByteArray) : (a.toList == b.toList) = decide (a = b) := by
  by_cases h : a = b
  · subst h; simp
  · rw [decide_eq_false h, ByteArray.toList_eq, ByteArray.toList_eq, ba_beq' h]
theorem subsOf_take {T : List Tup} {p : P3} {i : Nat} (h : i < T.length) : subsOf (T.take (i + 1)) p = if T[i].o = p then subsOf (T.take i) p ++ [T[i].s] else subsOf (T.take i) p := by
  rw [List.take_succ_eq_append_getElem h, subsOf_snoc]
set_option maxRecDepth 100000 in
set_option maxHeartbeats 1600000 in
theorem subs25_any {S : Nat → Prop} (v : Value) (T : List Tup) (p : P3) (w : World) (hS : ∀ x, S x → x < w.heap.size) (h : Sl S w 6 v (tuCs T)) (hl : T.length ≤ 1000000000) :
    Calls Tryz.prog 121 #[v, pV p] w fun e w' => ∃ v', e = .returned v' ∧ Own w' w.heap.size 63 3 v' (pcs (subsOf T p)) ∧ Ext w w' := by
  obtain ⟨ao, c, rfl, hlc, hcm, hrow⟩ := tups_rows h
  have HR := Lib.hid hrow
  have HL := Lib.hid hl
  have HSS := Lib.hid hS
  obtain ⟨pt, pi, pr⟩ := p
  have hx1 := Ext.alloc w (.cells #[.string pt, .string pi, .string pr] 30)
  have HP1 := Lib.hid (Blk.made w #[.string pt, .string pi, .string pr] 30)
  have HX1 := Lib.hid hx1
  clear hrow hl h hx1 hS
  unfold pV
  dsimp only
  go_enter Tryz.func121, Tryz.ntmps121
  go_wp2_with fail
  obtain ⟨w1, hw1⟩ : ∃ x, x = w.alloc (.cells #[.string pt, .string pi, .string pr] 30) := ⟨_, rfl⟩
  rw [← hw1] at HP1 HX1 ⊢
  clear hw1
  go_loopw [5, 10] (fun ov ii wr => ∃ i : Nat, i ≤ T.length ∧ ii = .int .i64 i ∧ Own wr w.heap.size 63 3 ov (pcs (subsOf (T.take i) ⟨pt, pi, pr⟩)) ∧ Blk wr w.heap.size #[.string pt, .string pi, .string pr] 30 ∧ Below w.heap.size w wr) (fun _ ii _ => T.length - (intOf ii).toNat)
  case atStart => exact ⟨0, Nat.zero_le _, rfl, Own.nil _ _ _ _, HP1.out, HX1.out⟩
  case round =>
    obtain ⟨i, hi, rfl, hown, hb1, hbw⟩ := hrel
    have HOWN := Lib.hid hown
    have HB1 := Lib.hid hb1
    have HBW := Lib.hid hbw
    clear hown hb1 hbw
    by_cases hlt : i < T.length
    · obtain ⟨b, off, rfl, hSb, c0, c1, c2, c3, c4, c5⟩ := HR.out i hlt
      have hlw := HSS.out b hSb
      have d0 := (HBW.out.cell (p := ⟨b, off + i * 6, none⟩) hlw).trans c0
      have d1 := (HBW.out.cell (p := ⟨b, off + i * 6 + 1, none⟩) hlw).trans c1
      have d2 := (HBW.out.cell (p := ⟨b, off + i * 6 + 2, none⟩) hlw).trans c2
      have d3 := (HBW.out.cell (p := ⟨b, off + i * 6 + 3, none⟩) hlw).trans c3
      have d4 := (HBW.out.cell (p := ⟨b, off + i * 6 + 4, none⟩) hlw).trans c4
      have d5 := (HBW.out.cell (p := ⟨b, off + i * 6 + 5, none⟩) hlw).trans c5
      have HTK := Lib.hid (subsOf_take (p := ⟨pt, pi, pr⟩) hlt)
      have HSL := Lib.hid (show (subsOf (T.take i) ⟨pt, pi, pr⟩).length ≤ 1000000000 from by
        unfold subsOf
        rw [List.length_map]
        refine Nat.le_trans (List.length_filter_le _ _) ?_
        rw [List.length_take]
        have := HL.out
        omega)
      have HLT := Lib.hid hlt
      have HWI := Lib.hid (show wrap64 ((i : Int) + 1) = ((i + 1 : Nat) : Int) from by have := HL.out; unfold wrap64; omega)
      have hli : (i : Int) < (T.length : Int) := by omega
      clear c0 c1 c2 c3 c4 c5 hlw hSb
      generalize T[i] = x at *
      clear hlt
      generalize subsOf (T.take i) ⟨pt, pi, pr⟩ = sl at *
      generalize hs2 : subsOf (T.take (i + 1)) ⟨pt, pi, pr⟩ = sl2 at *
      have HS2 := Lib.hid hs2
      clear hs2
      obtain ⟨⟨ot, oi, or_⟩, ⟨st, si, sr⟩⟩ := x
      dsimp only at d0 d1 d2 d3 d4 d5 HTK
      have HX2 := Lib.hid (Ext.alloc wr (.cells #[.string ot, .string oi, .string or_, .string st, .string si, .string sr] 104))
      have hxc := (Blk.made wr #[.string ot, .string oi, .string or_, .string st, .string si, .string sr] 104).cells
      have hpc := (HB1.out.below HX2.out).cells
      have hob := fun W => obj_eqlG ot oi pt pi W
      have hrb := str_beq or_ pr
      by_cases h1 : ot = pt ∧ oi = pi
      · rw [decide_eq_true h1] at hob
        by_cases h2 : or_ = pr
        · have HY := Lib.hid (show sl2 = sl ++ [⟨st, si, sr⟩] from by rw [HTK.out, if_pos (by rw [h1.1, h1.2, h2])])
          rw [decide_eq_true h2] at hrb
          clear h1 h2
          have HX3 := Lib.hid (Ext.alloc (wr.alloc (.cells #[.string ot, .string oi, .string or_, .string st, .string si, .string sr] 104)) (.cells #[.string st, .string si, .string sr] 63))
          have HLB := Lib.hid (Blk.made' (w := wr.alloc (.cells #[.string ot, .string oi, .string or_, .string st, .string si, .string sr] 104)) (B := wr.heap.size + 1) (by simp) #[.string st, .string si, .string sr] 63)
          go_wp2_with (at_builtin; go_must (refine wpList_ownw subsT rfl (.tmp 26) (.tmp 29) rfl rfl ((HOWN.out.below HX2.out).below HX3.out) rfl (m := 1) (news := pC ⟨st, si, sr⟩) rfl (by intro j u hu; rw [Addr.add_lit, Nat.zero_add]; exact (HLB.out.cells j).trans (by simpa [pC] using hu)) (pC_one _) (by have := HSL.out; rw [pcs_length, pC_length]; omega) (by have := HSL.out; rw [pcs_length, pC_length]; omega) (by have := HBW.out.size; have := HX2.out.size; have := HX3.out.size; omega) ?_; intro v6 w6 hown6 hb6 hg6; have HO6 := Lib.hid (show Own w6 w.heap.size 63 3 v6 (pcs (sl ++ [⟨st, si, sr⟩])) from by rw [pcs_append, pcs_single]; exact hown6); have HP6 := Lib.hid (grown_blk ((HOWN.out.below HX2.out).below HX3.out) hg6 ((HB1.out.below HX2.out).below HX3.out) (by decide)); have HW6 := Lib.hid (grown_below (HBW.out.trans ((HX2.out.trans HX3.out).mono HBW.out.size)) ((HOWN.out.below HX2.out).below HX3.out) hg6 (by have := HBW.out.size; have := HX2.out.size; have := HX3.out.size; omega)); clear hown6 hb6 hg6))
          go_roundw
          case rel => exact ⟨i + 1, HLT.out, by first | rw [HWI.out] | go_num, by rw [HS2.out, HY.out]; exact HO6.out, HP6.out, HW6.out⟩
          case measure => have := HLT.out; (try rw [HWI.out]); simp [intOf]; omega
        · have HY := Lib.hid (show sl2 = sl from by rw [HTK.out, if_neg (by simp [h2])])
          rw [decide_eq_false h2] at hrb
          clear h1 h2
          go_wp2_with fail
          go_roundw
          case rel => exact ⟨i + 1, HLT.out, by first | rw [HWI.out] | go_num, by rw [HS2.out, HY.out]; exact HOWN.out.below HX2.out, HB1.out.below HX2.out, HBW.out.trans (HX2.out.mono HBW.out.size)⟩
          case measure => have := HLT.out; (try rw [HWI.out]); simp [intOf]; omega
      · have HY := Lib.hid (show sl2 = sl from by rw [HTK.out, if_neg (fun e => h1 ⟨by injection e, by injection e⟩)])
        rw [decide_eq_false h1] at hob
        clear h1 hrb
        go_wp2_with fail
        go_roundw
        case rel => exact ⟨i + 1, HLT.out, by first | rw [HWI.out] | go_num, by rw [HS2.out, HY.out]; exact HOWN.out.below HX2.out, HB1.out.below HX2.out, HBW.out.trans (HX2.out.mono HBW.out.size)⟩
        case measure => have := HLT.out; (try rw [HWI.out]); simp [intOf]; omega
    · obtain rfl : i = T.length := by omega
      rw [List.take_length] at HOWN
      go_wp2_with fail
      go_ret
      exact ⟨_, rfl, HOWN.out, HBW.out⟩
end Go.Proofs.YtjdigpfipmckhaaGreat
