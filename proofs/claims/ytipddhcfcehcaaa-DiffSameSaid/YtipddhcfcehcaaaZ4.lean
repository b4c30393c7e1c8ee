/- What holds of any type. The order of references; the walk of rules.order. The contracts of Go's library at this translation, each laid by one application (written by the kit's lay-plain). No condition of their own: lemmas. The writer of a schema's text: its block, WriteString, String. The walks of size, this, Small. The walks of this, Small. No condition: lemmas. -/
import Derived.Shelf.SlSortCmp.WholeK
import Derived.Shelf.SlSortCmp.NoneTotal
import Derived.Ground.SlsfProg
import Derived.Test.YtipddhcfcehcaaaProg
import Derived.Lib.Builder
import Derived.Lib.UnsafeStr
import Derived.Lib.Hide
import Derived.Test.YtipddhcfcehcaaaZ1
import Derived.Test.YtipddhcfcehcaaaZ3
import Derived.Test.YtipddhcfcehcaaaZ0
namespace Go.Proofs.Ytipddhcfcehcaaa
open Go Go.RowKit

theorem ltS_asym {a b : ByteArray} (h : ltS a b = true) : ltS b a = false := by
  cases k : ltS b a with
  | false => rfl
  | true => have := ltS_trans h k; rw [ltS_irr] at this; cases this
theorem ltS_ne {a b : ByteArray} (h : ltS a b = true) : a ≠ b := by
  rintro rfl
  rw [ltS_irr] at h
  cases h

end Go.Proofs.Ytipddhcfcehcaaa
namespace Go.Proofs.Ytipddhcfcehcaaa
open Go Go.RowKit

theorem r2C_one (p : R2) : ∀ u ∈ r2C p, u.oneCell' = true := by
  intro u hu
  simp only [r2C, List.mem_cons, List.not_mem_nil, or_false] at hu
  rcases hu with rfl | rfl <;> rfl
/-- The order of references: type, relation. -/
def ordR (a b : R2) : Int := orL [cmpS a.t b.t, cmpS a.r b.r]

/-- Is a reference less? -/
def ltR (a b : R2) : Bool := if a.t = b.t then ltS a.r b.r else ltS a.t b.t
theorem lt_ordR (a b : R2) : Go.Proofs.ltOf ordR a b = ltR a b := by
  unfold Go.Proofs.ltOf ordR ltR
  rw [Bool.eq_iff_iff, decide_eq_true_eq]
  simp only [orL, cmpS_zero]
  by_cases h1 : a.t = b.t
  · simp only [h1, if_true]
    by_cases h3 : a.r = b.r
    · simp [h3, ltS_irr]
    · simp only [h3, if_false]; exact cmpS_neg _ _
  · simp only [h1, if_false]; exact cmpS_neg _ _
theorem ltR_irr (a : R2) : ltR a a = false := by simp [ltR, ltS_irr]
theorem ltR_total {a b : R2} (h : ltR a b = false) (hne : a ≠ b) : ltR b a = true := by
  unfold ltR at *
  by_cases h1 : a.t = b.t
  · rw [if_pos h1] at h
    rw [if_pos h1.symm]
    refine ltS_total h fun h3 => hne ?_
    cases a; cases b; simp_all
  · rw [if_neg h1] at h
    rw [if_neg (Ne.symm h1)]
    exact ltS_total h h1
theorem ltR_trans {a b c : R2} (h : ltR a b = true) (k : ltR b c = true) : ltR a c = true := by
  unfold ltR at *
  by_cases h1 : a.t = b.t <;> by_cases k1 : b.t = c.t
  · rw [if_pos h1] at h
    rw [if_pos k1] at k
    rw [if_pos (h1.trans k1)]
    exact ltS_trans h k
  · rw [if_neg k1] at k
    rw [if_neg (h1 ▸ k1), h1]
    exact k
  · rw [if_neg h1] at h
    rw [if_neg (k1 ▸ h1), ← k1]
    exact h
  · rw [if_neg h1] at h
    rw [if_neg k1] at k
    have := ltS_trans h k
    rw [if_neg (ltS_ne this)]
    exact this

end Go.Proofs.Ytipddhcfcehcaaa
namespace Go.Proofs
open Go.Shelf
def Try.sortC_ren : Go.Shelf.Ren := ⟨fun | 6 => 38 | 15 => 65 | 14 => 64 | 28 => 93 | 29 => 94 | 20 => 85 | 21 => 86 | 22 => 87 | 23 => 88 | 24 => 89 | 25 => 90 | 26 => 91 | 27 => 92 | 46 => 103 | 47 => 104 | 48 => 105 | 49 => 106 | 50 => 107 | 57 => 110 | n => n, fun | 22 => 50 | 24 => 63 | 25 => 92 | 3 => 3 | 39 => 124 | 0 => 0 | 53 => 152 | 55 => 154 | 4 => 4 | 46 => 145 | 45 => 144 | 50 => 149 | 5 => 5 | 9 => 9 | 66 => 169 | 70 => 173 | 76 => 177 | 77 => 178 | n => n, fun | n => n⟩
theorem Try.sortC : Go.Proofs.SlLaysF0.n6 Try.prog Try.sortC_ren := {
  mixed := by kernel_rfl
  f6 := ⟨Try.f38.name, by decide, Try.func38.trans (congrArg some (by kernel_rfl))⟩
  f14 := ⟨Try.f64.name, by decide, Try.func64.trans (congrArg some (by kernel_rfl))⟩
  f15 := Try.func65.trans (congrArg some (by kernel_rfl))
  f20 := ⟨Try.f85.name, by decide, Try.func85.trans (congrArg some (by kernel_rfl))⟩
  f21 := ⟨Try.f86.name, by decide, Try.func86.trans (congrArg some (by kernel_rfl))⟩
  f22 := ⟨Try.f87.name, by decide, Try.func87.trans (congrArg some (by kernel_rfl))⟩
  f23 := ⟨Try.f88.name, by decide, Try.func88.trans (congrArg some (by kernel_rfl))⟩
  f24 := ⟨Try.f89.name, by decide, Try.func89.trans (congrArg some (by kernel_rfl))⟩
  f25 := ⟨Try.f90.name, by decide, Try.func90.trans (congrArg some (by kernel_rfl))⟩
  f26 := ⟨Try.f91.name, by decide, Try.func91.trans (congrArg some (by kernel_rfl))⟩
  f27 := ⟨Try.f92.name, by decide, Try.func92.trans (congrArg some (by kernel_rfl))⟩
  f28 := Try.func93.trans (congrArg some (by kernel_rfl))
  f29 := Try.func94.trans (congrArg some (by kernel_rfl))
  f46 := ⟨Try.f103.name, by decide, Try.func103.trans (congrArg some (by kernel_rfl))⟩
  f47 := Try.func104.trans (congrArg some (by kernel_rfl))
  f48 := Try.func105.trans (congrArg some (by kernel_rfl))
  f49 := ⟨Try.f106.name, by decide, Try.func106.trans (congrArg some (by kernel_rfl))⟩
  f50 := ⟨Try.f107.name, by decide, Try.func107.trans (congrArg some (by kernel_rfl))⟩
  f57 := ⟨Try.f110.name, by decide, Try.func110.trans (congrArg some (by kernel_rfl))⟩
  t0 := Try.underlying0
  a0 := Try.isAgg0
  z0 := Try.sizeOf0
  v0 := Try.zeroValue0
  t3 := Try.underlying3
  a3 := Try.isAgg3
  z3 := Try.sizeOf3
  v3 := Try.zeroValue3
  t4 := Try.underlying4
  a4 := Try.isAgg4
  z4 := Try.sizeOf4
  v4 := Try.zeroValue4
  t5 := Try.underlying5
  a5 := Try.isAgg5
  z5 := Try.sizeOf5
  v5 := Try.zeroValue5
  t9 := Try.underlying9
  a9 := Try.isAgg9
  z9 := Try.sizeOf9
  v9 := Try.zeroValue9
  t22 := Try.underlying50
  a22 := Try.isAgg50
  z22 := Try.sizeOf50
  v22 := Try.zeroValue50
  t25 := Try.underlying92
  a25 := Try.isAgg92
  z25 := Try.sizeOf92
  v25 := Try.zeroValue92
  t39 := Try.underlying124
  a39 := Try.isAgg124
  z39 := Try.sizeOf124
  v39 := Try.zeroValue124
  t45 := Try.underlying144
  a45 := Try.isAgg144
  z45 := Try.sizeOf144
  v45 := Try.zeroValue144
  t46 := Try.underlying145
  a46 := Try.isAgg145
  z46 := Try.sizeOf145
  v46 := Try.zeroValue145
  t50 := Try.underlying149
  a50 := Try.isAgg149
  z50 := Try.sizeOf149
  v50 := Try.zeroValue149
  t53 := Try.underlying152
  a53 := Try.isAgg152
  z53 := Try.sizeOf152
  v53 := Try.zeroValue152
  t55 := Try.underlying154
  a55 := Try.isAgg154
  z55 := Try.sizeOf154
  v55 := Try.zeroValue154
  t66 := Try.underlying169
  a66 := Try.isAgg169
  z66 := Try.sizeOf169
  v66 := Try.zeroValue169
  t70 := Try.underlying173
  a70 := Try.isAgg173
  z70 := Try.sizeOf173
  v70 := Try.zeroValue173
  t76 := Try.underlying177
  a76 := Try.isAgg177
  z76 := Try.sizeOf177
  v76 := Try.zeroValue177
  t77 := Try.underlying178
  a77 := Try.isAgg178
  z77 := Try.sizeOf178
  v77 := Try.zeroValue178 }
end Go.Proofs
namespace Go.Proofs.Ytipddhcfcehcaaa
open Go Go.RowKit

theorem Own.keepB {w w' : World} {B : Nat} {e : TypeId} {sz : Nat} {v : Value} {xs : List Value} (h : Own w B e sz v xs) (hs : ∀ g, v.ownBlock = some g → w'.heap[g]? = w.heap[g]?) : Own w' B e sz v xs := by
  obtain ⟨n, h⟩ := h
  refine ⟨n, h.1, ?_⟩
  rcases h.2 with hn | ⟨g, cap, cur, rfl, hbg, hg, r⟩
  · exact .inl hn
  · exact .inr ⟨g, cap, cur, rfl, hbg, (hs g rfl).trans hg, r⟩
theorem Own.notBlk {w : World} {B : Nat} {e t : TypeId} {sz : Nat} {v : Value} {xs : List Value} {b : Nat} {cs : Array Value} (h : Own w B e sz v xs) (hb : Blk w b cs t) (hne : t ≠ e) : ∀ g, v.ownBlock = some g → g ≠ b := by
  intro g hg he
  obtain ⟨n, h⟩ := h
  rcases h.2 with ⟨rfl, _⟩ | ⟨g', cap, cur, rfl, hbg, hg', r⟩
  · cases hg
  · injection hg with hg
    subst hg he
    rw [show w.heap[g']? = _ from hb] at hg'
    injection hg' with hg'
    injection hg' with _ h2 _
    exact hne h2
/-- The writer's block: what is written, and whether it is odd. -/
def WrB (w : World) (B b : Nat) (text : ByteArray) (odd : Bool) : Prop := B ≤ b ∧ ∃ p v, (p = .pointer none ∨ p = .pointer (some ⟨b, 0, none⟩)) ∧ Blk w b #[p, v, .bool odd] 161 ∧ Own w B 5 1 v (Lib.strCells text) ∧ (text.size = 0 → v = .slice none 0 0)
/-- What the writer leaves alone. -/
def WK (B b : Nat) (w : World) (x : Nat) : Prop := x < B ∨ (x ≠ b ∧ x < w.heap.size ∧ ∀ cs, w.heap[x]? ≠ some (.cells cs 5 (0, 0)))
abbrev WKept (B b : Nat) (w w' : World) : Prop := Kept (WK B b w) w w'
section
variable {w w' w'' : World} {B b : Nat}
theorem WKept.below (h : WKept B b w w') : Below B w w' := Kept.below h fun _ hx => .inl hx
theorem WKept.next (h : WKept B b w w') (k : WKept B b w' w'') : WKept B b w w'' := Kept.trans h (Kept.mono k fun x hx => by
  rcases hx with hx | ⟨h1, h2, h3⟩
  · exact .inl hx
  · refine .inr ⟨h1, Nat.lt_of_lt_of_le h2 h.size, fun cs => ?_⟩
    rw [h.block x (.inr ⟨h1, h2, h3⟩)]
    exact h3 cs)
theorem WKept.of (h : Below w.heap.size w w') (hB : B ≤ w.heap.size) : WKept B b w w' := Below.kept h fun x hx => by
  rcases hx with hx | ⟨_, h2, _⟩
  · omega
  · exact h2
theorem WKept.box (h : WKept B b w w') {x : Nat} {cs : Array Value} {e : TypeId} (hx : Blk w x cs e) (he : e ≠ 5) (hb : x ≠ b) : Blk w' x cs e := Kept.blk h hx (.inr ⟨hb, hx.lt, fun cs' h' => by
  rw [show w.heap[x]? = _ from hx] at h'
  injection h' with h'
  injection h' with _ h2 _
  exact he h2⟩)
theorem WrB.lt {text : ByteArray} {odd : Bool} (h : WrB w B b text odd) : b < w.heap.size := by
  obtain ⟨_, p, v, _, hb, _⟩ := h
  exact hb.lt
theorem WrB.up {text : ByteArray} {odd : Bool} (h : WrB w B b text odd) (hk : Below w.heap.size w w') : WrB w' B b text odd := by
  obtain ⟨hB, p, v, hp, hb, ho, hn⟩ := h
  exact ⟨hB, p, v, hp, hb.below hk, ho.below hk, hn⟩
/-- The flag is turned. -/
theorem WrB.flag {text : ByteArray} {odd : Bool} (h : WrB w B b text odd) (o : Bool) : WrB (w.setCell ⟨b, 2, none⟩ (.bool o)) B b text o := by
  obtain ⟨hB, p, v, hp, hb, ho, hn⟩ := h
  exact ⟨hB, p, v, hp, hb.set 2 _, ho.keepB fun g hg => Below.heap_setCell _ _ _ g (ho.notBlk hb (by decide) g hg), hn⟩
theorem WKept.flag (hB : B ≤ b) (v : Value) : WKept B b w (w.setCell ⟨b, 2, none⟩ v) := (Kept.refl _ _).set (a := ⟨b, 2, none⟩) (fun h => by
  rcases h with h | ⟨h, _⟩
  · exact absurd h (by show ¬ b < B; omega)
  · exact h rfl) _
theorem WrB.odd2 {text : ByteArray} {odd : Bool} (h : WrB w B b text odd) : w.cell? ⟨b, 2, none⟩ = some (.bool odd) ∧ w.frozen? ⟨b, 2, none⟩ = false := by
  obtain ⟨hB, p, v, hp, hb, ho, hn⟩ := h
  exact ⟨hb.cells 2, hb.free 2⟩
end

theorem bytesInfoW : (Try.prog.info? 5).map (fun i => (i.zero, i.size, i.bytes)) = some (some (.int .u8 0), 1, 1) := by kernel_rfl
theorem writerSize : (Try.prog.info? 159).map (·.size) = some 2 := by kernel_rfl
theorem writerInfo : ∃ j, Try.prog.info? 159 = some j ∧ j.size ≠ 0 := by
  obtain ⟨j, hj, hs⟩ := Option.map_eq_some_iff.1 writerSize
  exact ⟨j, hj, by omega⟩
theorem liesW : liesAt Try.prog Try.prog.depth 161 (3 / Try.prog.cellsOf 161) 0 159 1 = true := by kernel_rfl
theorem WrB.shape {w : World} {b : Nat} {cs : Array Value} (h : Blk w b cs 161) (hs : cs.size = 3) : w.shape? b = some (161, 3) := by
  simp [World.shape?, show w.heap[b]? = _ from h, hs]

set_option maxRecDepth 100000 in
set_option maxHeartbeats 2000000 in
theorem copyCheck_used (b : Nat) (w : World) (h0 : w.cell? ⟨b, 0, none⟩ = some (.pointer (some ⟨b, 0, none⟩))) :
    Calls Try.prog 108 #[.pointer (some ⟨b, 0, none⟩)] w fun e w' => e = .returned (.tuple #[]) ∧ w' = w := by
  obtain ⟨j, hj, _⟩ := writerInfo
  go_enter Try.func108, Try.ntmps108
  go_wp2
  rw [Lib.run_neq_ptr_same w _ Try.underlying157 hj]
  go_wp2
  go_end0
  exact ⟨rfl, rfl⟩

set_option maxRecDepth 100000 in
set_option maxHeartbeats 2000000 in
theorem copyCheck_fresh (b : Nat) (w : World) (h0 : w.cell? ⟨b, 0, none⟩ = some (.pointer none)) (hsh : w.shape? b = some (161, 3)) (hfz : w.frozen? ⟨b, 0, none⟩ = false) :
    Calls Try.prog 108 #[.pointer (some ⟨b, 0, none⟩)] w fun e w' => e = .returned (.tuple #[]) ∧ w' = w.setCell ⟨b, 0, none⟩ (.pointer (some ⟨b, 0, none⟩)) := by
  obtain ⟨j, hj, hjs⟩ := writerInfo
  go_enter Try.func108, Try.ntmps108
  go_wp2
  rw [Lib.run_to_unsafe w ⟨b, 0, none⟩ Try.underlying157 Try.underlying180 hj hjs hsh (Nat.zero_lt_succ 2)]
  simp only [Result.andThen]
  rw [Oper.upon_value]
  go_wp2
  rw [run_callFunc_extern Try.func111 (by kernel_rfl) (by kernel_rfl) (by kernel_rfl) (e := Extern.AbiNoEscape.same) (by kernel_rfl)]
  rw [Lib.run_noEscape]
  simp only [Result.andThen]
  rw [Oper.upon_value]
  go_wp2
  rw [Lib.run_from_unsafe w ⟨b, 0, none⟩ Try.underlying180 Try.underlying157 hj hsh liesW]
  simp only [Result.andThen]
  rw [Oper.upon_value]
  go_wp2
  go_end0
  exact ⟨rfl, rfl⟩

/-- copyCheck: the builder knows itself; nothing else has turned. -/
theorem copyCheck_any {B b : Nat} {text : ByteArray} {odd : Bool} {w : World} (h : WrB w B b text odd) :
    Calls Try.prog 108 #[.pointer (some ⟨b, 0, none⟩)] w fun e w' => e = .returned (.tuple #[]) ∧ (∃ v, Blk w' b #[.pointer (some ⟨b, 0, none⟩), v, .bool odd] 161 ∧ Own w' B 5 1 v (Lib.strCells text)) ∧ WKept B b w w' := by
  obtain ⟨hB, p, v, hp, hb, ho, hn⟩ := h
  rcases hp with rfl | rfl
  · refine (copyCheck_fresh b w (hb.cells 0) (WrB.shape hb rfl) (hb.free 0)).mono ?_
    rintro e w' ⟨rfl, rfl⟩
    refine ⟨rfl, ⟨v, hb.set 0 _, ho.keepB fun g hg => Below.heap_setCell _ _ _ g (ho.notBlk hb (by decide) g hg)⟩, (Kept.refl _ _).set (a := ⟨b, 0, none⟩) (fun h => ?_) _⟩
    rcases h with h | ⟨h, _⟩
    · exact absurd h (by show ¬ b < B; omega)
    · exact h rfl
  · refine (copyCheck_used b w (hb.cells 0)).mono ?_
    rintro e w' ⟨rfl, rfl⟩
    exact ⟨rfl, ⟨v, hb, ho⟩, Kept.refl _ _⟩

set_option maxRecDepth 100000 in
set_option maxHeartbeats 2000000 in
theorem writeString_any {B b : Nat} {text : ByteArray} {odd : Bool} {w : World} (s : ByteArray) (h : WrB w B b text odd) (hlen : text.size + s.size ≤ 140737488355328) (hpos : 0 < text.size + s.size) (hBw : B ≤ w.heap.size) :
    Calls Try.prog 98 #[.pointer (some ⟨b, 0, none⟩), .string s] w fun e w' => e = .returned (.tuple #[.int .i64 s.size, .nilIface]) ∧ WrB w' B b (text ++ s) odd ∧ WKept B b w w' := by
  have HCC := Lib.hid (copyCheck_any h)
  have hB := h.1
  obtain ⟨i0, hi, hz0, hz1, hz2⟩ := info_parts bytesInfoW
  clear h
  go_enter Try.func98, Try.ntmps98
  go_wp2_with fail
  refine HCC.out.mono ?_
  rintro e w1 ⟨rfl, ⟨v, hb1, ho1⟩, hk1⟩
  have hsz1 := hk1.size
  have c1 := hb1.cells
  have HNB := Lib.hid (ho1.notBlk hb1 (by decide))
  have HBL := Lib.hid hb1
  have HO := Lib.hid ho1
  have HK := Lib.hid hk1
  obtain ⟨n1, ho1'⟩ := ho1
  have hn1 : n1 = text.size := by have := ho1'.1; rw [Lib.strCells_length] at this; omega
  subst hn1
  have hb1' := hb1
  clear HCC hb1 hk1
  go_wp2_with (at_builtin; refine Lib.wpList_append_own_string _ rfl _ _ 42 9 rfl B 5 i0 Try.underlying42 Try.underlying9 hi hz0 hz1 hz2 _ _ _ rfl ho1' s rfl ?c3 ?c4 ?c5 ?_)
  case c3 => unfold maxLen; omega
  case c4 => omega
  case c5 => omega
  intro v' w2 hown' hgrow _
  have hb2 : Blk w2 b #[.pointer (some ⟨b, 0, none⟩), v, .bool odd] 161 := (hgrow.block b hb1'.lt (fun e => HNB.out b e.symm rfl)).trans hb1'
  have d0 := hb2.cells
  have f0 := hb2.free
  have HO2 : Own w2 B 5 1 v' (Lib.strCells text ++ Lib.strCells s) := ⟨_, hown'⟩
  have HN2 := HO2.notBlk hb2 (by decide)
  have HKG : WKept B b w1 w2 := ⟨hgrow.os, hgrow.tape, hgrow.output, hgrow.size, fun x hx => by
    have hO := HO.out
    rcases hx with hx | ⟨h1, h2, h3⟩
    · exact hgrow.block x (by omega) (fun e => by have := (hO.block x e.symm).1; omega)
    · refine hgrow.block x h2 (fun e => ?_)
      obtain ⟨n, ho⟩ := hO
      rcases ho.2 with ⟨rfl, _⟩ | ⟨g', cap, cur, rfl, hbg, hg', r⟩
      · cases e
      · injection e with e
        subst e
        exact h3 _ hg'⟩
  have HO3 := Lib.hid HO2
  have HKG2 := Lib.hid HKG
  have HB2 := Lib.hid hb2
  have HN3 := Lib.hid HN2
  obtain ⟨ao, n', cap, rfl⟩ : ∃ ao n' cap, v' = .slice ao n' cap := by
    rcases hown'.2 with ⟨hv, _⟩ | ⟨g, cap, cur, hv, _⟩
    · exact ⟨_, _, _, hv⟩
    · exact ⟨_, _, _, hv⟩
  clear c1 hb1' ho1' hgrow hown' hb2 HO2 HN2 HKG hi hz0 hz1 hz2
  go_wp2_with fail
  go_ret2
  refine ⟨rfl, ⟨hB, _, _, .inr rfl, HB2.out.set 1 _, ?_, fun h => ?_⟩, ?_⟩
  · have h1 : Lib.strCells (text ++ s) = Lib.strCells text ++ Lib.strCells s := by simp [Lib.strCells]
    rw [h1]
    exact HO3.out.keepB fun g hg => Below.heap_setCell _ _ _ g (HN3.out g hg)
  · rw [ByteArray.size_append] at h
    omega
  · refine WKept.next (WKept.next HK.out HKG2.out) ((Kept.refl _ _).set (a := ⟨b, 1, none⟩) (fun h => ?_) _)
    rcases h with h | ⟨h, _⟩
    · exact absurd h (by show ¬ b < B; omega)
    · exact h rfl

end Go.Proofs.Ytipddhcfcehcaaa
namespace Go.Proofs.Ytipddhcfcehcaaa
open Go Go.RowKit

theorem szL_le (l : List RT) (i : Nat) : szL (l.take i) ≤ szL l := by
  conv => rhs; rw [← List.take_append_drop i l]
  rw [szL_append]
  omega

set_option maxRecDepth 100000 in
set_option maxHeartbeats 2000000 in
theorem sizeR_any (r : RT) : ∀ (pv : Value) (w : World), RTAt (· < w.heap.size) w r pv → r.sz ≤ 1000000 → Calls Try.prog 83 #[rV r pv] w fun e w' => e = .returned (.int .i64 r.sz) ∧ Below w.heap.size w w' := by
  induction r using RT.ind with
  | h r ih =>
  intro pv w hat hs
  obtain ⟨ao, c, rfl, hlc, hcm, hcell⟩ := hat.rows
  rw [RT.sz_eq] at hs
  have HC := Lib.hid hcell
  have HI := Lib.hid ih
  have HSZ := Lib.hid r.sz_eq
  have hbk := (Blk.made w #[.int .i64 r.k, .string r.a, .string r.b, .slice ao r.ps.length c] 72).cells
  have hb0 : Below w.heap.size w (w.alloc (.cells #[.int .i64 r.k, .string r.a, .string r.b, .slice ao r.ps.length c] 72)) := (Below.refl _ _).alloc (Nat.le_refl _) _
  have HB0 := Lib.hid hb0
  have HS := Lib.hid hs
  clear hat hcell ih hb0 hs
  unfold rV
  rw [HSZ.out]
  clear HSZ
  generalize hps : r.ps = ps at *
  clear hps
  go_enter Try.func83, Try.ntmps83
  go_wp2_with fail
  clear hbk
  go_loopw [3, 9] (fun nn ii wr => ∃ i : Nat, i ≤ ps.length ∧ ii = .int .i64 i ∧ nn = .int .i64 ((1 + szL (ps.take i) : Nat) : Int) ∧ Below w.heap.size w wr) (fun _ ii _ => ps.length - (intOf ii).toNat)
  case atStart => exact ⟨0, by omega, rfl, by simp [szL], HB0.out⟩
  case round =>
    obtain ⟨i, hi, rfl, rfl, hbel⟩ := hrel
    clear HB0
    by_cases hlt : i < ps.length
    · obtain ⟨b, off, pv2, rfl, hb, c0, c1, c2, c3, hat2⟩ := HC.out i hlt
      have d0 := (hbel.cell (p := ⟨b, off + i * 4, none⟩) hb).trans c0
      have d1 := (hbel.cell (p := ⟨b, off + i * 4 + 1, none⟩) hb).trans c1
      have d2 := (hbel.cell (p := ⟨b, off + i * 4 + 2, none⟩) hb).trans c2
      have d3 := (hbel.cell (p := ⟨b, off + i * 4 + 3, none⟩) hb).trans c3
      obtain ⟨ao2, c2', rfl, -⟩ := hat2.rows
      have hst := szL_take hlt
      have hle := szL_le ps (i + 1)
      have hsl := HS.out
      have hb1 := hbel.alloc hbel.size (.cells #[.int .i64 ps[i].k, .string ps[i].a, .string ps[i].b, .slice ao2 ps[i].ps.length c2'] 72)
      have HR := Lib.hid (HI.out ps[i] (List.getElem_mem hlt) _ _ (hat2.up hb1) (by have := szL_mem (List.getElem_mem hlt); omega))
      unfold rV at HR
      have HB1 := Lib.hid hb1
      have hbx := (Blk.made wr #[.int .i64 ps[i].k, .string ps[i].a, .string ps[i].b, .slice ao2 ps[i].ps.length c2'] 72).cells
      have HST := Lib.hid hst
      rw [hst] at hle
      clear c0 c1 c2 c3 hat2 hb1 hbel hst
      generalize ps[i] = p at *
      generalize szL (ps.take i) = sa at *
      go_wp2_with fail
      refine HR.out.mono ?_
      rintro e w5 ⟨rfl, hb5⟩
      have HB5 := Lib.hid (HB1.out.trans (hb5.mono HB1.out.size))
      clear HR hb5 hbx d0 d1 d2 d3 HB1
      generalize p.sz = ms at *
      go_wp2_with fail
      go_roundw
      case rel => exact ⟨i + 1, by omega, by go_num, by rw [HST.out]; go_num, HB5.out⟩
      case measure => simp [intOf]; omega
    · obtain rfl : i = ps.length := by omega
      rw [List.take_length]
      have HBE := Lib.hid hbel
      clear hbel
      go_wp2_with fail
      go_ret
      exact ⟨rfl, HBE.out⟩

set_option maxRecDepth 100000 in
set_option maxHeartbeats 2000000 in
theorem size06_any (r : RT) : ∀ (pv : Value) (w : World), RTAt (· < w.heap.size) w r pv → r.sz ≤ 1000000 → Calls Try.prog 56 #[rV r pv] w fun e w' => e = .returned (.int .i64 r.sz) ∧ Below w.heap.size w w' := by
  induction r using RT.ind with
  | h r ih =>
  intro pv w hat hs
  obtain ⟨ao, c, rfl, hlc, hcm, hcell⟩ := hat.rows
  rw [RT.sz_eq] at hs
  have HC := Lib.hid hcell
  have HI := Lib.hid ih
  have HSZ := Lib.hid r.sz_eq
  have hbk := (Blk.made w #[.int .i64 r.k, .string r.a, .string r.b, .slice ao r.ps.length c] 72).cells
  have hb0 : Below w.heap.size w (w.alloc (.cells #[.int .i64 r.k, .string r.a, .string r.b, .slice ao r.ps.length c] 72)) := (Below.refl _ _).alloc (Nat.le_refl _) _
  have HB0 := Lib.hid hb0
  have HS := Lib.hid hs
  clear hat hcell ih hb0 hs
  unfold rV
  rw [HSZ.out]
  clear HSZ
  generalize hps : r.ps = ps at *
  clear hps
  go_enter Try.func56, Try.ntmps56
  go_wp2_with fail
  clear hbk
  go_loopw [3, 9] (fun nn ii wr => ∃ i : Nat, i ≤ ps.length ∧ ii = .int .i64 i ∧ nn = .int .i64 ((1 + szL (ps.take i) : Nat) : Int) ∧ Below w.heap.size w wr) (fun _ ii _ => ps.length - (intOf ii).toNat)
  case atStart => exact ⟨0, by omega, rfl, by simp [szL], HB0.out⟩
  case round =>
    obtain ⟨i, hi, rfl, rfl, hbel⟩ := hrel
    clear HB0
    by_cases hlt : i < ps.length
    · obtain ⟨b, off, pv2, rfl, hb, c0, c1, c2, c3, hat2⟩ := HC.out i hlt
      have d0 := (hbel.cell (p := ⟨b, off + i * 4, none⟩) hb).trans c0
      have d1 := (hbel.cell (p := ⟨b, off + i * 4 + 1, none⟩) hb).trans c1
      have d2 := (hbel.cell (p := ⟨b, off + i * 4 + 2, none⟩) hb).trans c2
      have d3 := (hbel.cell (p := ⟨b, off + i * 4 + 3, none⟩) hb).trans c3
      obtain ⟨ao2, c2', rfl, -⟩ := hat2.rows
      have hst := szL_take hlt
      have hle := szL_le ps (i + 1)
      have hsl := HS.out
      have hb1 := hbel.alloc hbel.size (.cells #[.int .i64 ps[i].k, .string ps[i].a, .string ps[i].b, .slice ao2 ps[i].ps.length c2'] 72)
      have HR := Lib.hid (HI.out ps[i] (List.getElem_mem hlt) _ _ (hat2.up hb1) (by have := szL_mem (List.getElem_mem hlt); omega))
      unfold rV at HR
      have HB1 := Lib.hid hb1
      have hbx := (Blk.made wr #[.int .i64 ps[i].k, .string ps[i].a, .string ps[i].b, .slice ao2 ps[i].ps.length c2'] 72).cells
      have HST := Lib.hid hst
      rw [hst] at hle
      clear c0 c1 c2 c3 hat2 hb1 hbel hst
      generalize ps[i] = p at *
      generalize szL (ps.take i) = sa at *
      go_wp2_with fail
      refine HR.out.mono ?_
      rintro e w5 ⟨rfl, hb5⟩
      have HB5 := Lib.hid (HB1.out.trans (hb5.mono HB1.out.size))
      clear HR hb5 hbx d0 d1 d2 d3 HB1
      generalize p.sz = ms at *
      go_wp2_with fail
      go_roundw
      case rel => exact ⟨i + 1, by omega, by go_num, by rw [HST.out]; go_num, HB5.out⟩
      case measure => simp [intOf]; omega
    · obtain rfl : i = ps.length := by omega
      rw [List.take_length]
      have HBE := Lib.hid hbel
      clear hbel
      go_wp2_with fail
      go_ret
      exact ⟨rfl, HBE.out⟩
end Go.Proofs.Ytipddhcfcehcaaa
namespace Go.Proofs.Ytipddhcfcehcaaa
open Go Go.RowKit

mutual
/-- Do tuples say something of it? -/
def RT.this : RT → Bool | .mk k _ _ ps => k == 1 || thisL ps
def thisL : List RT → Bool | [] => false | r :: rs => r.this || thisL rs
end
theorem thisL_eq : ∀ l : List RT, thisL l = l.any RT.this
  | [] => rfl
  | r :: rs => by rw [thisL, List.any_cons, thisL_eq rs]
theorem RT.this_eq (r : RT) : r.this = (r.k == 1 || r.ps.any RT.this) := by
  obtain ⟨k, a, b, ps⟩ := r
  rw [RT.this, thisL_eq]
  rfl
theorem wrap_in (x : Int) (h1 : -9223372036854775808 ≤ x) (h2 : x ≤ 9223372036854775807) : wrap64 x = x := by unfold wrap64; omega
mutual
/-- What Small leaves. -/
def RT.small : RT → Int → Int | .mk _ a b ps, left => smallL ps (left - 1 - ((a.size / 100 : Nat) : Int) - ((b.size / 100 : Nat) : Int))
def smallL : List RT → Int → Int | [], left => left | r :: rs, left => if left < 0 then left else smallL rs (r.small left)
end
theorem RT.small_eq (r : RT) (left : Int) : r.small left = smallL r.ps (left - 1 - ((r.a.size / 100 : Nat) : Int) - ((r.b.size / 100 : Nat) : Int)) := by
  obtain ⟨k, a, b, ps⟩ := r
  rw [RT.small]
  rfl
mutual
theorem RT.small_le : ∀ (r : RT) (left : Int), r.small left ≤ left - 1
  | .mk _ a b ps, left => by
    rw [RT.small]
    have := smallL_le ps (left - 1 - ((a.size / 100 : Nat) : Int) - ((b.size / 100 : Nat) : Int))
    omega
theorem smallL_le : ∀ (l : List RT) (left : Int), smallL l left ≤ left
  | [], left => by rw [smallL]; omega
  | r :: rs, left => by
    rw [smallL]
    split
    · omega
    · have h1 := smallL_le rs (r.small left)
      have h2 := RT.small_le r left
      omega
end

set_option maxRecDepth 100000 in
set_option maxHeartbeats 2000000 in
theorem this06_any (r : RT) : ∀ (pv : Value) (w : World), RTAt (· < w.heap.size) w r pv → Calls Try.prog 29 #[rV r pv] w fun e w' => e = .returned (.bool r.this) ∧ Below w.heap.size w w' := by
  induction r using RT.ind with
  | h r ih =>
  intro pv w hat
  obtain ⟨ao, c, rfl, hlc, hcm, hcell⟩ := hat.rows
  have HC := Lib.hid hcell
  have HI := Lib.hid ih
  have hbk := (Blk.made w #[.int .i64 r.k, .string r.a, .string r.b, .slice ao r.ps.length c] 72).cells
  have hb0 : Below w.heap.size w (w.alloc (.cells #[.int .i64 r.k, .string r.a, .string r.b, .slice ao r.ps.length c] 72)) := (Below.refl _ _).alloc (Nat.le_refl _) _
  have HB0 := Lib.hid hb0
  clear hat hcell ih hb0
  have HE := Lib.hid r.this_eq
  unfold rV
  rw [HE.out]
  clear HE
  generalize r.ps = ps at *
  generalize r.k = k at *
  by_cases hk : k = 1
  · subst hk
    go_enter Try.func29, Try.ntmps29
    go_wp2_with fail
    go_ret
    exact ⟨rfl, HB0.out⟩
  have hkf : (k == 1) = false := by rw [beq_eq_false_iff_ne]; exact hk
  rw [hkf, Bool.false_or]
  clear hk
  go_enter Try.func29, Try.ntmps29
  go_wp2_with fail
  clear hbk
  go_loopw [11] (fun ii wr => ∃ i : Nat, i ≤ ps.length ∧ ii = .int .i64 i ∧ (∀ j (hj : j < ps.length), j < i → ps[j].this = false) ∧ Below w.heap.size w wr) (fun ii _ => ps.length - (intOf ii).toNat)
  case atStart => exact ⟨0, by omega, rfl, fun _ _ h => absurd h (by omega), HB0.out⟩
  case round =>
    obtain ⟨i, hi, rfl, hall, hbel⟩ := hrel
    have HALL := Lib.hid hall
    clear HB0 hall
    by_cases hlt : i < ps.length
    · have HUP := fun h => Lib.hid (upto_succ (p := fun j hj => ps[j].this = false) HALL.out hlt h)
      have HAN := fun (h : ps[i].this = true) => Lib.hid (show ps.any RT.this = true from List.any_eq_true.2 ⟨ps[i], List.getElem_mem hlt, h⟩)
      obtain ⟨b, off, pv2, hbo, hb, c0, c1, c2, c3, hat2⟩ := HC.out i hlt
      cases hbo
      have d0 := (hbel.cell (p := ⟨b, off + i * 4, none⟩) hb).trans c0
      have d1 := (hbel.cell (p := ⟨b, off + i * 4 + 1, none⟩) hb).trans c1
      have d2 := (hbel.cell (p := ⟨b, off + i * 4 + 2, none⟩) hb).trans c2
      have d3 := (hbel.cell (p := ⟨b, off + i * 4 + 3, none⟩) hb).trans c3
      obtain ⟨ao2, c2', rfl, -⟩ := hat2.rows
      have hb1 := hbel.alloc hbel.size (.cells #[.int .i64 ps[i].k, .string ps[i].a, .string ps[i].b, .slice ao2 ps[i].ps.length c2'] 72)
      have hat3 := hat2.up hb1
      have hbx := (Blk.made wr #[.int .i64 ps[i].k, .string ps[i].a, .string ps[i].b, .slice ao2 ps[i].ps.length c2'] 72).cells
      have HB1 := Lib.hid hb1
      clear c0 c1 c2 c3 hat2 hb1 hbel
      have HR := Lib.hid (HI.out ps[i] (List.getElem_mem hlt) _ _ hat3)
      unfold rV at HR
      clear hat3
      generalize ps[i] = p at *
      cases hpt : p.this with
      | true =>
        rw [hpt] at HR
        have HT := HAN hpt
        clear HUP HAN hpt
        go_wp2_with fail
        refine HR.out.mono ?_
        rintro e w5 ⟨rfl, hb5⟩
        have HB5 := Lib.hid (HB1.out.trans (hb5.mono HB1.out.size))
        clear HR hb5 hbx d0 d1 d2 d3 HB1
        go_wp2_with fail
        go_ret
        exact ⟨by rw [HT.out]; rfl, HB5.out⟩
      | false =>
        rw [hpt] at HR
        have HN := HUP hpt
        clear HUP HAN hpt
        go_wp2_with fail
        refine HR.out.mono ?_
        rintro e w5 ⟨rfl, hb5⟩
        have HB5 := Lib.hid (HB1.out.trans (hb5.mono HB1.out.size))
        clear HR hb5 hbx d0 d1 d2 d3 HB1
        go_wp2_with fail
        go_roundw
        case rel => exact ⟨i + 1, by omega, by go_num, HN.out, HB5.out⟩
        case measure => simp [intOf]; omega
    · obtain rfl : i = ps.length := by omega
      have HF := Lib.hid (show ps.any RT.this = false from by
        rw [List.any_eq_false]
        intro x hx
        obtain ⟨j, hj, rfl⟩ := List.getElem_of_mem hx
        rw [HALL.out j hj hj]
        exact Bool.false_ne_true)
      have HBE := Lib.hid hbel
      clear hbel
      go_wp2_with fail
      go_ret
      exact ⟨by rw [HF.out]; rfl, HBE.out⟩

set_option maxRecDepth 100000 in
set_option maxHeartbeats 2000000 in
theorem small_any (r : RT) : ∀ (pv : Value) (left : Int) (w : World), RTAt (· < w.heap.size) w r pv → r.Ok → -2305843009213693952 ≤ left → left ≤ 9223372036854775807 → Calls Try.prog 54 #[rV r pv, .int .i64 left] w fun e w' => e = .returned (.int .i64 (r.small left)) ∧ Below w.heap.size w w' := by
  induction r using RT.ind with
  | h r ih =>
  intro pv left w hat hok hlo hhi
  obtain ⟨-, hoa, hob, hop⟩ := r.ok_iff.1 hok
  obtain ⟨ao, c, rfl, hlc, hcm, hcell⟩ := hat.rows
  have HC := Lib.hid hcell
  have HI := Lib.hid ih
  have hbk := (Blk.made w #[.int .i64 r.k, .string r.a, .string r.b, .slice ao r.ps.length c] 72).cells
  have hb0 : Below w.heap.size w (w.alloc (.cells #[.int .i64 r.k, .string r.a, .string r.b, .slice ao r.ps.length c] 72)) := (Below.refl _ _).alloc (Nat.le_refl _) _
  have HB0 := Lib.hid hb0
  clear hat hcell ih hb0
  have HOP := Lib.hid hop
  have HE := Lib.hid (r.small_eq left)
  unfold rV
  rw [HE.out]
  clear HE hop hok
  generalize r.ps = ps at *
  generalize r.k = k at *
  generalize r.a = a at *
  generalize r.b = b at *
  have hqa : ((a.size : Int)).tdiv 100 = ((a.size / 100 : Nat) : Int) := by rw [Int.tdiv_eq_ediv_of_nonneg (by omega)]; omega
  have hqb : ((b.size : Int)).tdiv 100 = ((b.size / 100 : Nat) : Int) := by rw [Int.tdiv_eq_ediv_of_nonneg (by omega)]; omega
  have hla : a.size / 100 ≤ 92233720368547758 := by omega
  have hlb : b.size / 100 ≤ 92233720368547758 := by omega
  generalize a.size / 100 = qa at *
  generalize b.size / 100 = qb at *
  have HQA := Lib.hid hqa
  have HQB := Lib.hid hqb
  clear hqa hqb
  obtain ⟨L0, hL0⟩ : ∃ L0, L0 = left - 1 - (qa : Int) - (qb : Int) := ⟨_, rfl⟩
  have hL : L0 ≤ 9223372036854775807 := by omega
  have hw1 : wrap64 (left - 1) = left - 1 := wrap_in _ (by omega) (by omega)
  have hw2 : wrap64 (left - 1 - (qa : Int)) = left - 1 - (qa : Int) := wrap_in _ (by omega) (by omega)
  have hw3 : wrap64 (left - 1 - (qa : Int) - (qb : Int)) = L0 := by rw [hL0]; exact wrap_in _ (by omega) (by omega)
  have hw4 : wrap64 (qa : Int) = (qa : Int) := wrap_in _ (by omega) (by omega)
  have hw5 : wrap64 (qb : Int) = (qb : Int) := wrap_in _ (by omega) (by omega)
  rw [← hL0]
  have HW3 := Lib.hid hw3
  have HLL := Lib.hid hL
  clear hL0
  have hqa := HQA.out
  have hqb := HQB.out
  clear hL hlo hhi hla hlb hoa hob
  go_enter Try.func54, Try.ntmps54
  go_wp2_with fail
  clear hbk hw1 hw2 hw3 hw4 hw5 hqa hqb HQA HQB
  go_loopw [1, 22] (fun lv ii wr => ∃ (i : Nat) (L : Int), i ≤ ps.length ∧ ii = .int .i64 i ∧ lv = .int .i64 L ∧ L ≤ 9223372036854775807 ∧ smallL ps L0 = smallL (ps.drop i) L ∧ Below w.heap.size w wr) (fun _ ii _ => ps.length - (intOf ii).toNat)
  case atStart => exact ⟨0, L0, by omega, rfl, by rw [HW3.out], HLL.out, rfl, HB0.out⟩
  case round =>
    obtain ⟨i, L, hi, rfl, rfl, hLh, hsm, hbel⟩ := hrel
    clear HB0 HLL
    by_cases hlt : i < ps.length
    · rw [List.drop_eq_getElem_cons hlt, smallL] at hsm
      obtain ⟨b, off, pv2, hbo, hb, c0, c1, c2, c3, hat2⟩ := HC.out i hlt
      cases hbo
      have d0 := (hbel.cell (p := ⟨b, off + i * 4, none⟩) hb).trans c0
      have d1 := (hbel.cell (p := ⟨b, off + i * 4 + 1, none⟩) hb).trans c1
      have d2 := (hbel.cell (p := ⟨b, off + i * 4 + 2, none⟩) hb).trans c2
      have d3 := (hbel.cell (p := ⟨b, off + i * 4 + 3, none⟩) hb).trans c3
      obtain ⟨ao2, c2', rfl, -⟩ := hat2.rows
      have hb1 := hbel.alloc hbel.size (.cells #[.int .i64 ps[i].k, .string ps[i].a, .string ps[i].b, .slice ao2 ps[i].ps.length c2'] 72)
      have hat3 := hat2.up hb1
      have hbx := (Blk.made wr #[.int .i64 ps[i].k, .string ps[i].a, .string ps[i].b, .slice ao2 ps[i].ps.length c2'] 72).cells
      have HB1 := Lib.hid hb1
      clear c0 c1 c2 c3 hat2 hb1 hbel
      have hokp := HOP.out ps[i] (List.getElem_mem hlt)
      have hmem := List.getElem_mem hlt
      by_cases hneg : L < 0
      · rw [if_pos hneg] at hsm
        have HSM := Lib.hid hsm
        clear hsm hat3 hokp hmem
        generalize ps[i] = p at *
        go_wp2_with fail
        go_ret
        exact ⟨by rw [HSM.out]; rfl, HB1.out⟩
      · rw [if_neg hneg] at hsm
        have HR := Lib.hid (HI.out ps[i] hmem _ L _ hat3 hokp (by omega) hLh)
        unfold rV at HR
        have HSM := Lib.hid hsm
        have HLE := Lib.hid (show ps[i].small L ≤ 9223372036854775807 from by have := ps[i].small_le L; omega)
        clear hsm hat3 hokp hmem
        generalize ps[i] = p at *
        go_wp2_with fail
        refine HR.out.mono ?_
        rintro e w5 ⟨rfl, hb5⟩
        have HB5 := Lib.hid (HB1.out.trans (hb5.mono HB1.out.size))
        clear HR hb5 hbx d0 d1 d2 d3 HB1
        go_wp2_with fail
        go_roundw
        case rel => exact ⟨i + 1, p.small L, by omega, by go_num, rfl, HLE.out, HSM.out, HB5.out⟩
        case measure => simp [intOf]; omega
    · obtain rfl : i = ps.length := by omega
      rw [List.drop_length, smallL] at hsm
      have HSM := Lib.hid hsm
      have HBE := Lib.hid hbel
      clear hbel hsm
      go_wp2_with fail
      go_ret
      exact ⟨by rw [HSM.out]; rfl, HBE.out⟩

end Go.Proofs.Ytipddhcfcehcaaa
