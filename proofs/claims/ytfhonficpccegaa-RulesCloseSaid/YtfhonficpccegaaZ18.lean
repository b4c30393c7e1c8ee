/- What holds of any type. The order of references; the walk of rules.order. The contracts of Go's library at this translation, each laid by one application (written by the kit's lay-plain). No condition of their own: lemmas. References in order; slices.SortFunc at references. Ranges over a map held as pairs, inside a fence. What holds of any type. maps.Keys of a set of references. No condition: lemmas. -/
import Derived.Shelf.SlSortCmp.WholeK
import Derived.Shelf.SlSortCmp.NoneTotal
import Derived.Ground.SlsfProg
import Derived.Test.YtfhonficpccegaaProg
import Derived.Sort.MapsRangeIn
import Derived.RangeFuncGives
import Derived.RangeFuncNested
import Derived.WalkKit
import Derived.TacticsInMore
import Derived.RegionIn
import Derived.LoopNIn
import Derived.LoopIn
import Derived.Sort.KeysCollected
import Derived.Test.YtfhonficpccegaaZ17
import Derived.Test.YtfhonficpccegaaZ5
import Derived.Test.YtfhonficpccegaaZ1
import Derived.Test.YtfhonficpccegaaZ3
namespace Go.Proofs.Ytfhonficpccegaa
open Go Go.RowKit

theorem ltS_asym {a b : ByteArray} (h : ltS a b = true) : ltS b a = false := by
  cases k : ltS b a with
  | false => rfl
  | true => have := ltS_trans h k; rw [ltS_irr] at this; cases this
theorem ltS_ne {a b : ByteArray} (h : ltS a b = true) : a ≠ b := by
  rintro rfl
  rw [ltS_irr] at h
  cases h

end Go.Proofs.Ytfhonficpccegaa
namespace Go.Proofs.Ytfhonficpccegaa
open Go Go.RowKit

theorem r2C_one (p : R2) : ∀ u ∈ r2C p, u.oneCell' = true := by
  intro u hu
  simp only [r2C, List.mem_cons, List.not_mem_nil, or_false] at hu
  rcases hu with rfl | rfl <;> rfl
/-- The order of references: type, relation. -/
def ordR (a b : R2) : Int := orL [cmpS a.t b.t, cmpS a.r b.r]

set_option maxRecDepth 100000 in
set_option maxHeartbeats 1600000 in
theorem orderR_any (a b : R2) (w : World) : Calls Try.prog 73 #[r2V a, r2V b] w (fun e w' => e = .returned (.int .i64 (ordR a b)) ∧ Gr w w') := by
  obtain ⟨at_, ar⟩ := a
  obtain ⟨bt, br⟩ := b
  unfold r2V
  dsimp only
  have hA := (Blk.made w #[.string at_, .string ar] 43).alloc (.cells #[.string bt, .string br] 43)
  have hB := Blk.made' (w := w.alloc (.cells #[.string at_, .string ar] 43)) (B := w.heap.size + 1) (by simp) #[.string bt, .string br] 43
  have hb0 : Gr w ((w.alloc (.cells #[.string at_, .string ar] 43)).alloc (.cells #[.string bt, .string br] 43)) := ((Gr.refl _).alloc _).alloc _
  go_enter Try.func73, Try.ntmps73
  go_wp2_with fail
  obtain ⟨wd, hwd⟩ : ∃ wd, wd = ((w.alloc (.cells #[.string at_, .string ar] 43)).alloc (.cells #[.string bt, .string br] 43)).drew := ⟨_, rfl⟩
  have hAd := hA.drew
  have hBd := hB.drew
  have hbd := hb0.drew
  rw [← hwd] at hAd hBd hbd
  refine region_walkN (Ext wd) (by rw [← hwd]; exact Ext.refl _) (by kernel_rfl) (by kernel_rfl) (fun _ _ d _ _ h => by cases d <;> exact h) ?_
  rw [← hwd]
  clear hwd hA hB hb0
  have h1 : ∀ W, Ext wd W → ∀ i, W.cell? ⟨w.heap.size, i, none⟩ = (#[.string at_, .string ar] : Array Value)[i]? := fun W h => (hAd.below h).cells
  have h2 : ∀ W, Ext wd W → ∀ i, W.cell? ⟨w.heap.size + 1, i, none⟩ = (#[.string bt, .string br] : Array Value)[i]? := fun W h => (hBd.below h).cells
  ((refine WalkN.take 0 _ ?_ (by simp only [List.getElem?_toArray, List.getElem?_cons_zero]; rfl) (by kernel_rfl) (by kernel_rfl) (by rfl) (fun W hW => ?_) ?_; rotate_left; · (go_simp; try with_reducible rfl)); simp only [Act.put, List.setIfInBounds_toArray, List.set_cons_zero, List.set_cons_succ]); ((refine WalkN.take 1 _ ?_ (by simp only [List.getElem?_toArray, List.getElem?_cons_succ, List.getElem?_cons_zero]; rfl) (by kernel_rfl) (by kernel_rfl) (by rfl) (fun W hW => ?_) ?_; rotate_left; · (go_simp; try with_reducible rfl)); simp only [Act.put, List.setIfInBounds_toArray, List.set_cons_zero, List.set_cons_succ]); ((refine WalkN.take 2 _ ?_ (by simp only [List.getElem?_toArray, List.getElem?_cons_succ, List.getElem?_cons_zero]; rfl) (by kernel_rfl) (by kernel_rfl) (by rfl) (fun W hW => ?_) ?_; rotate_left; · (go_simp; try with_reducible rfl)); simp only [Act.put, List.setIfInBounds_toArray, List.set_cons_zero, List.set_cons_succ]); ((refine WalkN.take 3 _ ?_ (by simp only [List.getElem?_toArray, List.getElem?_cons_succ, List.getElem?_cons_zero]; rfl) (by kernel_rfl) (by kernel_rfl) (by rfl) (fun W hW => ?_) ?_; rotate_left; · (go_simp; try with_reducible rfl)); simp only [Act.put, List.setIfInBounds_toArray, List.set_cons_zero, List.set_cons_succ]); ((refine WalkN.take 5 _ ?_ (by simp only [List.getElem?_toArray, List.getElem?_cons_succ, List.getElem?_cons_zero]; rfl) (by kernel_rfl) (by kernel_rfl) (by rfl) (fun W hW => ?_) ?_; rotate_left; · (go_simp; try with_reducible rfl)); simp only [Act.put, List.setIfInBounds_toArray, List.set_cons_zero, List.set_cons_succ]); ((refine WalkN.take 6 _ ?_ (by simp only [List.getElem?_toArray, List.getElem?_cons_succ, List.getElem?_cons_zero]; rfl) (by kernel_rfl) (by kernel_rfl) (by rfl) (fun W hW => ?_) ?_; rotate_left; · (go_simp; try with_reducible rfl)); simp only [Act.put, List.setIfInBounds_toArray, List.set_cons_zero, List.set_cons_succ]); ((refine WalkN.take 7 _ ?_ (by simp only [List.getElem?_toArray, List.getElem?_cons_succ, List.getElem?_cons_zero]; rfl) (by kernel_rfl) (by kernel_rfl) (by rfl) (fun W hW => ?_) ?_; rotate_left; · (go_simp; try with_reducible rfl)); simp only [Act.put, List.setIfInBounds_toArray, List.set_cons_zero, List.set_cons_succ]); ((refine WalkN.take 8 _ ?_ (by simp only [List.getElem?_toArray, List.getElem?_cons_succ, List.getElem?_cons_zero]; rfl) (by kernel_rfl) (by kernel_rfl) (by rfl) (fun W hW => ?_) ?_; rotate_left; · (go_simp; try with_reducible rfl)); simp only [Act.put, List.setIfInBounds_toArray, List.set_cons_zero, List.set_cons_succ])
  clear h1 h2
  have HP1 := Lib.hid (cmpS_any at_ bt wd)
  refine WalkN.one 4 (by kernel_rfl) ?_
  refine ⟨_, (by simp only [List.getElem?_toArray, List.getElem?_cons_succ, List.getElem?_cons_zero]; rfl), by rfl, fun K hK => ?_⟩
  go_simp
  refine HP1.out.mono ?_
  rintro e w1 ⟨rfl, rfl⟩
  refine hK.out _ _ (Ext.refl _) ?_
  clear hK HP1
  have HP2 := Lib.hid (cmpS_any ar br wd)
  refine WalkN.one 9 (by kernel_rfl) ?_
  refine ⟨_, (by simp only [List.getElem?_toArray, List.getElem?_cons_succ, List.getElem?_cons_zero]; rfl), by rfl, fun K hK => ?_⟩
  go_simp
  refine HP2.out.mono ?_
  rintro e w1 ⟨rfl, rfl⟩
  refine hK.out _ _ (Ext.refl _) ?_
  clear hK HP2
  refine WalkN.one 10 (by kernel_rfl) ?_
  refine ⟨_, (by simp only [List.getElem?_toArray, List.getElem?_cons_succ, List.getElem?_cons_zero]; rfl), by rfl, fun K hK => ?_⟩
  go_simp
  have hE : Ext wd (wd.alloc (.cells #[.int .i64 (cmpS at_ bt), .int .i64 (cmpS ar br)] 3)) := Ext.alloc _ _
  have hl : Sl (fun b => b = wd.heap.size) (wd.alloc (.cells #[.int .i64 (cmpS at_ bt), .int .i64 (cmpS ar br)] 3)) 1 (.slice (some ⟨wd.heap.size, 0, none⟩) 2 2) (icL [cmpS at_ bt, cmpS ar br]) := Sl.made wd _ 1 2 _ _ rfl (by decide) rfl
  refine hK.out _ _ hE ?_
  clear hK
  have HP4 := Lib.hid (orL_any _ _ _ _ hl)
  have hbe := hbd.alloc (.cells #[.int .i64 (cmpS at_ bt), .int .i64 (cmpS ar br)] 3)
  refine WalkN.one 11 (by kernel_rfl) ?_
  refine ⟨_, (by simp only [List.getElem?_toArray, List.getElem?_cons_succ, List.getElem?_cons_zero]; rfl), by rfl, fun K hK => ?_⟩
  go_simp
  refine HP4.out.mono ?_
  rintro e w1 ⟨rfl, rfl⟩
  refine hK.out _ _ hE ?_
  clear hK HP4
  ((refine WalkN.take 12 _ ?_ (by simp only [List.getElem?_toArray, List.getElem?_cons_succ, List.getElem?_cons_zero]; rfl) (by kernel_rfl) (by kernel_rfl) (by rfl) (fun W hW => ?_) ?_; rotate_left; · (go_simp; try with_reducible rfl)); simp only [Act.put, List.setIfInBounds_toArray, List.set_cons_zero, List.set_cons_succ])
  refine WalkN.done (by kernel_rfl) ?_
  go_wp2
  go_ret
  exact ⟨rfl, hbe⟩

/-- Is a reference less? -/
def ltR (a b : R2) : Bool := if a.t = b.t then ltS a.r b.r else ltS a.t b.t
theorem lt_ordR (a b : R2) : Go.Proofs.ltOf ordR a b = ltR a b := by
  unfold Go.Proofs.ltOf ordR ltR
  rw [Bool.eq_iff_iff, decide_eq_true_eq]
  simp only [orL, cmpS_zero]
  by_cases h1 : a.t = b.t
  · simp only [h1, if_true]
    by_cases h3 : a.r = b.r
    · simp [h3, ltS_irr]
    · simp only [h3, if_false]; exact cmpS_neg _ _
  · simp only [h1, if_false]; exact cmpS_neg _ _
theorem ltR_irr (a : R2) : ltR a a = false := by simp [ltR, ltS_irr]
theorem ltR_total {a b : R2} (h : ltR a b = false) (hne : a ≠ b) : ltR b a = true := by
  unfold ltR at *
  by_cases h1 : a.t = b.t
  · rw [if_pos h1] at h
    rw [if_pos h1.symm]
    refine ltS_total h fun h3 => hne ?_
    cases a; cases b; simp_all
  · rw [if_neg h1] at h
    rw [if_neg (Ne.symm h1)]
    exact ltS_total h h1
theorem ltR_trans {a b c : R2} (h : ltR a b = true) (k : ltR b c = true) : ltR a c = true := by
  unfold ltR at *
  by_cases h1 : a.t = b.t <;> by_cases k1 : b.t = c.t
  · rw [if_pos h1] at h
    rw [if_pos k1] at k
    rw [if_pos (h1.trans k1)]
    exact ltS_trans h k
  · rw [if_neg k1] at k
    rw [if_neg (h1 ▸ k1), h1]
    exact k
  · rw [if_neg h1] at h
    rw [if_neg (k1 ▸ h1), ← k1]
    exact h
  · rw [if_neg h1] at h
    rw [if_neg k1] at k
    have := ltS_trans h k
    rw [if_neg (ltS_ne this)]
    exact this

end Go.Proofs.Ytfhonficpccegaa
namespace Go.Proofs
open Go.Shelf
def Try.sortR_ren : Go.Shelf.Ren := ⟨fun | 6 => 86 | 15 => 92 | 14 => 91 | 28 => 102 | 29 => 103 | 20 => 94 | 21 => 95 | 22 => 96 | 23 => 97 | 24 => 98 | 25 => 99 | 26 => 100 | 27 => 101 | 46 => 104 | 47 => 105 | 48 => 106 | 49 => 107 | 50 => 108 | 57 => 109 | n => n, fun | 22 => 30 | 24 => 43 | 25 => 122 | 3 => 3 | 39 => 144 | 0 => 0 | 53 => 154 | 55 => 156 | 4 => 4 | 46 => 147 | 45 => 146 | 50 => 151 | 5 => 5 | 9 => 9 | 66 => 157 | 70 => 161 | 76 => 163 | 77 => 164 | n => n, fun | n => n⟩
theorem Try.sortR : Go.Proofs.SlLaysF0.n6 Try.prog Try.sortR_ren := {
  mixed := by kernel_rfl
  f6 := ⟨Try.f86.name, by decide, Try.func86.trans (congrArg some (by kernel_rfl))⟩
  f14 := ⟨Try.f91.name, by decide, Try.func91.trans (congrArg some (by kernel_rfl))⟩
  f15 := Try.func92.trans (congrArg some (by kernel_rfl))
  f20 := ⟨Try.f94.name, by decide, Try.func94.trans (congrArg some (by kernel_rfl))⟩
  f21 := ⟨Try.f95.name, by decide, Try.func95.trans (congrArg some (by kernel_rfl))⟩
  f22 := ⟨Try.f96.name, by decide, Try.func96.trans (congrArg some (by kernel_rfl))⟩
  f23 := ⟨Try.f97.name, by decide, Try.func97.trans (congrArg some (by kernel_rfl))⟩
  f24 := ⟨Try.f98.name, by decide, Try.func98.trans (congrArg some (by kernel_rfl))⟩
  f25 := ⟨Try.f99.name, by decide, Try.func99.trans (congrArg some (by kernel_rfl))⟩
  f26 := ⟨Try.f100.name, by decide, Try.func100.trans (congrArg some (by kernel_rfl))⟩
  f27 := ⟨Try.f101.name, by decide, Try.func101.trans (congrArg some (by kernel_rfl))⟩
  f28 := Try.func102.trans (congrArg some (by kernel_rfl))
  f29 := Try.func103.trans (congrArg some (by kernel_rfl))
  f46 := ⟨Try.f104.name, by decide, Try.func104.trans (congrArg some (by kernel_rfl))⟩
  f47 := Try.func105.trans (congrArg some (by kernel_rfl))
  f48 := Try.func106.trans (congrArg some (by kernel_rfl))
  f49 := ⟨Try.f107.name, by decide, Try.func107.trans (congrArg some (by kernel_rfl))⟩
  f50 := ⟨Try.f108.name, by decide, Try.func108.trans (congrArg some (by kernel_rfl))⟩
  f57 := ⟨Try.f109.name, by decide, Try.func109.trans (congrArg some (by kernel_rfl))⟩
  t0 := Try.underlying0
  a0 := Try.isAgg0
  z0 := Try.sizeOf0
  v0 := Try.zeroValue0
  t3 := Try.underlying3
  a3 := Try.isAgg3
  z3 := Try.sizeOf3
  v3 := Try.zeroValue3
  t4 := Try.underlying4
  a4 := Try.isAgg4
  z4 := Try.sizeOf4
  v4 := Try.zeroValue4
  t5 := Try.underlying5
  a5 := Try.isAgg5
  z5 := Try.sizeOf5
  v5 := Try.zeroValue5
  t9 := Try.underlying9
  a9 := Try.isAgg9
  z9 := Try.sizeOf9
  v9 := Try.zeroValue9
  t22 := Try.underlying30
  a22 := Try.isAgg30
  z22 := Try.sizeOf30
  v22 := Try.zeroValue30
  t25 := Try.underlying122
  a25 := Try.isAgg122
  z25 := Try.sizeOf122
  v25 := Try.zeroValue122
  t39 := Try.underlying144
  a39 := Try.isAgg144
  z39 := Try.sizeOf144
  v39 := Try.zeroValue144
  t45 := Try.underlying146
  a45 := Try.isAgg146
  z45 := Try.sizeOf146
  v45 := Try.zeroValue146
  t46 := Try.underlying147
  a46 := Try.isAgg147
  z46 := Try.sizeOf147
  v46 := Try.zeroValue147
  t50 := Try.underlying151
  a50 := Try.isAgg151
  z50 := Try.sizeOf151
  v50 := Try.zeroValue151
  t53 := Try.underlying154
  a53 := Try.isAgg154
  z53 := Try.sizeOf154
  v53 := Try.zeroValue154
  t55 := Try.underlying156
  a55 := Try.isAgg156
  z55 := Try.sizeOf156
  v55 := Try.zeroValue156
  t66 := Try.underlying157
  a66 := Try.isAgg157
  z66 := Try.sizeOf157
  v66 := Try.zeroValue157
  t70 := Try.underlying161
  a70 := Try.isAgg161
  z70 := Try.sizeOf161
  v70 := Try.zeroValue161
  t76 := Try.underlying163
  a76 := Try.isAgg163
  z76 := Try.sizeOf163
  v76 := Try.zeroValue163
  t77 := Try.underlying164
  a77 := Try.isAgg164
  z77 := Try.sizeOf164
  v77 := Try.zeroValue164 }
end Go.Proofs
namespace Go.Proofs.Ytfhonficpccegaa
open Go Go.RowKit

theorem swoR : Go.Sort.SWO (Go.Proofs.ltOf ordR) where
  irrefl x := by rw [lt_ordR]; exact ltR_irr x
  trans x y z h k := by rw [lt_ordR] at *; exact ltR_trans h k
  ntrans x y z h k := by
    rw [lt_ordR] at *
    cases hxz : ltR x z with
    | false => rfl
    | true =>
      by_cases e1 : x = y
      · subst e1; rw [hxz] at k; cases k
      · have h1 := ltR_total h e1
        have h2 := ltR_trans h1 hxz
        rw [h2] at k
        cases k
/-- Points in order, each once. -/
def UpR (l : List R2) : Prop := l.Pairwise fun a b => ltR a b = true
theorem upR_sorted {l : List R2} (hs : l.Pairwise fun a b => Go.Proofs.ltOf ordR b a = false) (hn : l.Nodup) : UpR l := by
  refine List.pairwise_iff_getElem.2 fun i j hi hj hij => ?_
  have h1 := List.pairwise_iff_getElem.1 hs i j hi hj hij
  have h2 := List.pairwise_iff_getElem.1 hn i j hi hj hij
  rw [lt_ordR] at h1
  exact ltR_total h1 (Ne.symm h2)
theorem sortR_any {w : World} {B : Nat} {v : Value} {l : List R2} (h : Own w B 43 2 v (r2cs l)) (hl : l.length < 4611686018427387904) (hn : l.Nodup) :
    Calls Try.prog 86 #[v, .func (.func 73) #[] #[]] w fun e w' => e = .returned (.tuple #[]) ∧ ∃ l' : List R2, l'.Perm l ∧ UpR l' ∧ Own w' B 43 2 v (r2cs l') ∧ Kept (fun b => b < w.heap.size ∧ v.ownBlock ≠ some b) w w' := by
  refine Calls.mono (sort_own Try.sortR r2C 2 r2C_length (by decide) r2C_one Try.isAgg43 Try.sizeOf43 ordR swoR 73 #[] (enters_of Try.func73 (by kernel_rfl) rfl) (fun W x y => orderR_any x y W) h hl) ?_
  rintro e w' ⟨rfl, l', hp, hs, ho, hk⟩
  exact ⟨rfl, l', hp, upR_sorted hs (hp.nodup_iff.2 hn), ho, hk⟩

end Go.Proofs.Ytfhonficpccegaa
namespace Go.Proofs.Ytfhonficpccegaa
open Go Go.RowKit Go.Maps

section
variable {F : Fence} {n : Nat} {P : Program} (w : World) {ops : Array Oper} {rest : List Oper} {o : Oper} {a : Act} {Q : Exit → Act → World → Prop} {κ α : Type} {kv : κ → Value} {ev : α → Value} {b : Nat} {l : List (κ × α)}

/-- 'range m'. -/
theorem wpListIn_mp_range (hg : o.guard = none) (m : Operand) (t : TypeId) (hop : o.op = Op.range t m) {k e : TypeId} (ht : P.underlying t = some (.map k e)) (hm : a.eval m = .map (some b)) (h : Mp P k kv ev w b l)
    (hK : ∀ w', Rng P k kv ev w' b w.heap.size l l → Below w.heap.size w w' → w'.heap.size = w.heap.size + 1 → wpListIn F n P ops Q rest (a.put o.dst (.pointer (some ⟨w.heap.size, 0, none⟩))) w') : wpListIn F n P ops Q (o :: rest) a w := by
  refine wpListIn_plain hg fun K' hK' => ?_
  obtain ⟨w', hrun, h1, h2, h3⟩ := h.range ht
  unfold Oper.wpIn
  refine ⟨by simp [Oper.about, hop], ?_⟩
  rw [Oper.semAt_plain F _ _ (by rw [hop]; intro c hc'; cases hc')]
  simp [execOp, hop, hm, hrun, Result.andThen]
  exact hK' _ _ (hK w' h1 h2 h3)

/-- The range's step. -/
theorem wpListIn_mp_next (hg : o.guard = none) (it : Operand) (hop : o.op = Op.next it false) {k : TypeId} {r : Nat} {rem : List (κ × α)} (hit : a.eval it = .pointer (some ⟨r, 0, none⟩)) (h : Rng P k kv ev w b r l rem)
    (hDone : rem = [] → wpListIn F n P ops Q rest (a.put o.dst (.tuple #[.bool false])) w)
    (hMore : ∀ pre p post w', rem = pre ++ p :: post → Rng P k kv ev w' b r l (pre ++ post) → Kept (· ≠ r) w w' → w'.heap.size = w.heap.size → (Instr.entry (.pointer (some ⟨r, 0, none⟩))).run P w' = .ok (.tuple #[kv p.1, ev p.2]) w' →
      wpListIn F n P ops Q rest (a.put o.dst (.tuple #[.bool true, kv p.1, ev p.2])) w') : wpListIn F n P ops Q (o :: rest) a w := by
  refine wpListIn_plain hg fun K' hK' => ?_
  unfold Oper.wpIn
  refine ⟨by simp [Oper.about, hop], ?_⟩
  rw [Oper.semAt_plain F _ _ (by rw [hop]; intro c hc'; cases hc')]
  rcases h.next o.type with ⟨h0, hrun⟩ | ⟨pre, p, post, w', h0, hrun, h1, h2, h3, h4⟩
  · simp [execOp, hop, hit, hrun, Result.andThen]
    exact hK' _ _ (hDone h0)
  · simp [execOp, hop, hit, hrun, Result.andThen]
    exact hK' _ _ (hMore pre p post w' h0 h1 h2 h3 h4)
end

end Go.Proofs.Ytfhonficpccegaa
namespace Go.Proofs.Ytfhonficpccegaa
open Go Go.RowKit Go.Maps

theorem Kept.grown {w w' : World} {r : Nat} (h : Kept (· ≠ r) w w') : w.grownBy w' (some r) := ⟨h.os, h.tape, h.output, h.size, fun k _ hk => h.block k fun e => hk (by rw [e])⟩
theorem grown0_of {w w' : World} (h : Below w.heap.size w w') : w.grownBy w' none := ⟨h.os, h.tape, h.output, h.size, fun k hk _ => h.block k hk⟩
theorem Rng.walk {P : Program} {k : TypeId} {κ α : Type} {kv : κ → Value} {ev : α → Value} {w : World} {b r : Nat} {l rem : List (κ × α)} (h : Rng P k kv ev w b r l rem) : ∃ o : Obj, w.heap[r]? = some o ∧ o.isWalk = true := by
  obtain ⟨es, clock, since, seen, c0, _, _, _, _, hr, _⟩ := h
  exact ⟨_, hr, rfl⟩
theorem Rng.walks {P : Program} {k : TypeId} {κ α : Type} {kv : κ → Value} {ev : α → Value} {w w' : World} {b r : Nat} {l rem : List (κ × α)} (h : Rng P k kv ev w b r l rem) (hk : KeepsWalks w w') : Rng P k kv ev w' b r l rem := by
  obtain ⟨es, clock, since, seen, c0, hb, hs, hm, hok, hr, rest⟩ := h
  exact ⟨es, clock, since, seen, c0, hk.same b _ hb rfl, hs, hm, hok, hk.same r _ hr rfl, rest⟩

end Go.Proofs.Ytfhonficpccegaa
namespace Go.Proofs.Ytfhonficpccegaa
open Go Go.RowKit Go.Maps

set_option maxRecDepth 100000 in
set_option maxHeartbeats 1000000 in
theorem keysR_stops (F : Fence) (n : Nat) (h60 : F.fn 78) (hro : F.round = none) (hn : 1 ≤ n) (Bm b : Nat) (m : List (R2 × Bool)) (w : World) (hBm : Bm < w.heap.size)
    (hm : w.cell? ⟨Bm, 0, none⟩ = some (.map (some b))) (hM : Mp Try.prog 43 r2V (fun x => .bool x) w b m) :
    SeqStopsK F n Try.prog 78 #[.pointer (some ⟨Bm, 0, none⟩)] (fun x => #[r2V x]) KeepsWalks (fun ss => ss.Perm (m.map (·.1))) (fun _ => True) m.length w := fun l J Jx W hW hJ hJx hY h0 => by
  have hMW := hM.below hW
  have hmW := (hW.cell (p := ⟨Bm, 0, none⟩) hBm).trans hm
  clear hM hm hW
  refine callsIn_of_wp Try.func78 rfl h60 ?_ hro
  simp only [Try.ntmps78, List.size_toArray, List.length_cons, List.length_nil, Nat.reduceAdd, Nat.reduceSub, Array.replicate_succ, Array.replicate_zero, List.push_toArray, List.append_toArray, List.nil_append, List.cons_append]
  gi_wp2_with (first
    | (gi_at_range; refine wpListIn_mp_range _ rfl _ 68 rfl Try.underlying68 rfl hMW ?_; intro w0 hrg0 hb0 hs0)
    | gi_in)
  try go_frame
  gi_loopw [3] (fun _ wr => ∃ (rem : List (R2 × Bool)) (ss : List R2), Rng Try.prog 43 r2V (fun x => .bool x) wr b W.heap.size m rem ∧ (ss ++ rem.map (·.1)).Perm (m.map (·.1)) ∧ J ss wr)
    (fun _ wr => wr.rangeLeft b W.heap.size)
  case atStart => exact ⟨m, [], hrg0, List.Perm.refl _, hJ [] W w0 none h0 (grown0_of hb0) (fun r e => by cases e)⟩
  case round =>
    obtain ⟨rem, ss, hrg, hp, hJs⟩ := hrel
    have hlen : ss.length + rem.length = m.length := by have := hp.length_eq; simpa using this
    have hrl : ∀ pre (p : R2 × Bool) post, rem = pre ++ p :: post → ss.length < m.length := fun pre p post e => by
      have := congrArg List.length e
      simp at this
      omega
    gi_wp2_with (first
      | (gi_at_next; refine wpListIn_mp_next _ rfl _ rfl rfl hrg ?_ ?_; rotate_left; (rintro pre ⟨⟨xt, xr⟩, c⟩ post w2 hrem hrg2 hk2 hs2 hen; have HREM := Lib.hid hrem; have hJ2 : J ss w2 := hJ ss wr w2 (some W.heap.size) hJs hk2.grown (fun r e => by cases e; exact ⟨Nat.le_refl _, hrg.walk⟩); have hJ3 : J ss (w2.alloc (.cells #[.string xt, .string xr] 43)) := hJ ss w2 _ none hJ2 (grown0_of ((Below.refl _ _).alloc (Nat.le_refl _) _)) (fun r e => by cases e); obtain ⟨fn, tmps, assign, body, hy, hR⟩ := hY ss ⟨xt, xr⟩ _ hJ3 (hrl _ _ _ hrem); have HR := Lib.hid hR; have HRG := Lib.hid hrg2; have HJ3 := Lib.hid hJ3; clear hR hrg2 hJ3 hJ2 hrem hs2 hrl hk2; dsimp only [r2V] at hy hen); rotate_left; (intro hrem; have HREM0 := Lib.hid hrem; clear hrem hrl))
      | gi_in)
    · go_end0
      refine ⟨⟨_, rfl⟩, .inl ⟨ss, ?_, hJs⟩⟩
      have h1 := hp
      rw [HREM0.out] at h1
      simpa using h1
    · refine HR.out.mono ?_
      rintro e W3 (⟨rfl, hJ4, hk3⟩ | ⟨rfl, hJ4⟩)
      rotate_left
      · gi_wp2
        exact bodyPost_ret (results_none rfl _ _ _) rfl ⟨⟨_, rfl⟩, .inr ⟨_, trivial, hJ4⟩⟩
      have hrg3 := (HRG.out.below ((Below.refl _ _).alloc (Nat.le_refl _) (.cells #[.string xt, .string xr] 43))).walks hk3
      gi_wp2
      go_roundw
      case rel =>
        refine ⟨pre ++ post, ss ++ [⟨xt, xr⟩], hrg3, ?_, hJ4⟩
        have h1 := hp
        rw [HREM.out] at h1
        refine List.Perm.trans ?_ h1
        simp only [List.map_append, List.map_cons, List.append_assoc, List.singleton_append]
        exact List.Perm.append_left ss List.perm_middle.symm
      case measure => rw [hrg3.left_eq, hrg.left_eq, HREM.out]; simp
set_option maxRecDepth 100000 in
theorem keysR_in (F : Fence) (n : Nat) (h46 : F.fn 48) (hro : F.round = none) (mb : Option Nat) (w : World) :
    CallsIn F n Try.prog 48 #[.map mb] w fun e w' => e = .returned (.func (.func 78) #[] #[.pointer (some ⟨w.heap.size, 0, none⟩)]) ∧ w' = w.alloc (.cells #[.map mb] 68) := by
  have hmf : ∀ (fn : Fn) (first cap : Array Value) (w : World), (Instr.makeFunc fn first cap).run Try.prog w = .ok (.func fn first cap) w := fun _ _ _ _ => rfl
  refine callsIn_of_wp Try.func48 rfl h46 ?_ hro
  simp only [Try.ntmps48, List.size_toArray, List.length_cons, List.length_nil, Nat.reduceAdd, Nat.reduceSub, Array.replicate_succ, Array.replicate_zero, List.push_toArray, List.append_toArray, List.nil_append, List.cons_append]
  gi_wp2
  go_ret
  exact ⟨rfl, rfl⟩
set_option maxRecDepth 100000 in
set_option maxHeartbeats 1000000 in
theorem keysR_nil (F : Fence) (n : Nat) (hf : F.fn 78) (hro : F.round = none) (Bm : Nat) (w : World) (hBm : Bm < w.heap.size) (hm : w.cell? ⟨Bm, 0, none⟩ = some (.map none)) :
    SeqStopsK F n Try.prog 78 #[.pointer (some ⟨Bm, 0, none⟩)] (fun x : R2 => #[r2V x]) KeepsWalks (fun ss : List R2 => ss = []) (fun _ => True) 0 w := fun l J Jx W hW hJ _ _ h0 => by
  have hmW := (hW.cell (p := ⟨Bm, 0, none⟩) hBm).trans hm
  clear hm hW
  refine callsIn_of_wp Try.func78 rfl hf ?_ hro
  simp only [Try.ntmps78, List.size_toArray, List.length_cons, List.length_nil, Nat.reduceAdd, Nat.reduceSub, Array.replicate_succ, Array.replicate_zero, List.push_toArray, List.append_toArray, List.nil_append, List.cons_append]
  have hrg := run_range_nilMap (P := Try.prog) W 68 43 4 Try.underlying68
  have hnx : ∀ ty, (Instr.next (.pointer (some ⟨W.heap.size, 0, none⟩)) false ty).run Try.prog (W.alloc (.mapIter none 0 #[] 0)) = _ := fun ty => run_next_nilMap _ ty 0 0 #[]
  gi_wp2
  refine wpIn_loop_rounds 1 ?_
  rw [roundsIn_succ]
  gi_wp2
  go_end0
  exact ⟨⟨_, rfl⟩, .inl ⟨[], rfl, hJ [] W _ none h0 (World.grownBy_alloc W _ none) (fun r e => by cases e)⟩⟩

end Go.Proofs.Ytfhonficpccegaa
