/- Lemmas for the claim, no condition. -/
import Derived.Lib.Builder
import Derived.Lib.UnsafeStr
import Derived.Lib.Hide
import Derived.Test.YtipddhcfcehcaaaYT2
import Derived.Test.YtipddhcfcehcaaaYT0
import Derived.Test.YtipddhcfcehcaaaYT1
namespace Go.Proofs.Ytipddhcfcehcaaa
open Go Go.RowKit

theorem Own.keepB {w w' : World} {B : Nat} {e : TypeId} {sz : Nat} {v : Value} {xs : List Value} (h : Own w B e sz v xs) (hs : ∀ g, v.ownBlock = some g → w'.heap[g]? = w.heap[g]?) : Own w' B e sz v xs := by
  obtain ⟨n, h⟩ := h
  refine ⟨n, h.1, ?_⟩
  rcases h.2 with hn | ⟨g, cap, cur, rfl, hbg, hg, r⟩
  · exact .inl hn
  · exact .inr ⟨g, cap, cur, rfl, hbg, (hs g rfl).trans hg, r⟩
theorem Own.notBlk {w : World} {B : Nat} {e t : TypeId} {sz : Nat} {v : Value} {xs : List Value} {b : Nat} {cs : Array Value} (h : Own w B e sz v xs) (hb : Blk w b cs t) (hne : t ≠ e) : ∀ g, v.ownBlock = some g → g ≠ b := by
  intro g hg he
  obtain ⟨n, h⟩ := h
  rcases h.2 with ⟨rfl, _⟩ | ⟨g', cap, cur, rfl, hbg, hg', r⟩
  · cases hg
  · injection hg with hg
    subst hg he
    rw [show w.heap[g']? = _ from hb] at hg'
    injection hg' with hg'
    injection hg' with _ h2 _
    exact hne h2
/-- The writer's block: what is written, and whether it is odd. -/
def WrB (w : World) (B b : Nat) (text : ByteArray) (odd : Bool) : Prop := B ≤ b ∧ ∃ p v, (p = .pointer none ∨ p = .pointer (some ⟨b, 0, none⟩)) ∧ Blk w b #[p, v, .bool odd] 161 ∧ Own w B 5 1 v (Lib.strCells text) ∧ (text.size = 0 → v = .slice none 0 0)
/-- What the writer leaves alone. -/
def WK (B b : Nat) (w : World) (x : Nat) : Prop := x < B ∨ (x ≠ b ∧ x < w.heap.size ∧ ∀ cs, w.heap[x]? ≠ some (.cells cs 5 (0, 0)))
abbrev WKept (B b : Nat) (w w' : World) : Prop := Kept (WK B b w) w w'
section
variable {w w' w'' : World} {B b : Nat}
theorem WKept.below (h : WKept B b w w') : Below B w w' := Kept.below h fun _ hx => .inl hx
theorem WKept.next (h : WKept B b w w') (k : WKept B b w' w'') : WKept B b w w'' := Kept.trans h (Kept.mono k fun x hx => by
  rcases hx with hx | ⟨h1, h2, h3⟩
  · exact .inl hx
  · refine .inr ⟨h1, Nat.lt_of_lt_of_le h2 h.size, fun cs => ?_⟩
    rw [h.block x (.inr ⟨h1, h2, h3⟩)]
    exact h3 cs)
theorem WKept.of (h : Below w.heap.size w w') (hB : B ≤ w.heap.size) : WKept B b w w' := Below.kept h fun x hx => by
  rcases hx with hx | ⟨_, h2, _⟩
  · omega
  · exact h2
theorem WKept.box (h : WKept B b w w') {x : Nat} {cs : Array Value} {e : TypeId} (hx : Blk w x cs e) (he : e ≠ 5) (hb : x ≠ b) : Blk w' x cs e := Kept.blk h hx (.inr ⟨hb, hx.lt, fun cs' h' => by
  rw [show w.heap[x]? = _ from hx] at h'
  injection h' with h'
  injection h' with _ h2 _
  exact he h2⟩)
theorem WrB.lt {text : ByteArray} {odd : Bool} (h : WrB w B b text odd) : b < w.heap.size := by
  obtain ⟨_, p, v, _, hb, _⟩ := h
  exact hb.lt
theorem WrB.up {text : ByteArray} {odd : Bool} (h : WrB w B b text odd) (hk : Below w.heap.size w w') : WrB w' B b text odd := by
  obtain ⟨hB, p, v, hp, hb, ho, hn⟩ := h
  exact ⟨hB, p, v, hp, hb.below hk, ho.below hk, hn⟩
/-- The flag is turned. -/
theorem WrB.flag {text : ByteArray} {odd : Bool} (h : WrB w B b text odd) (o : Bool) : WrB (w.setCell ⟨b, 2, none⟩ (.bool o)) B b text o := by
  obtain ⟨hB, p, v, hp, hb, ho, hn⟩ := h
  exact ⟨hB, p, v, hp, hb.set 2 _, ho.keepB fun g hg => Below.heap_setCell _ _ _ g (ho.notBlk hb (by decide) g hg), hn⟩
theorem WKept.flag (hB : B ≤ b) (v : Value) : WKept B b w (w.setCell ⟨b, 2, none⟩ v) := (Kept.refl _ _).set (a := ⟨b, 2, none⟩) (fun h => by
  rcases h with h | ⟨h, _⟩
  · exact absurd h (by show ¬ b < B; omega)
  · exact h rfl) _
theorem WrB.odd2 {text : ByteArray} {odd : Bool} (h : WrB w B b text odd) : w.cell? ⟨b, 2, none⟩ = some (.bool odd) ∧ w.frozen? ⟨b, 2, none⟩ = false := by
  obtain ⟨hB, p, v, hp, hb, ho, hn⟩ := h
  exact ⟨hb.cells 2, hb.free 2⟩
end

theorem bytesInfoW : (Try.prog.info? 5).map (fun i => (i.zero, i.size, i.bytes)) = some (some (.int .u8 0), 1, 1) := by kernel_rfl
theorem writerSize : (Try.prog.info? 159).map (·.size) = some 2 := by kernel_rfl
theorem writerInfo : ∃ j, Try.prog.info? 159 = some j ∧ j.size ≠ 0 := by
  obtain ⟨j, hj, hs⟩ := Option.map_eq_some_iff.1 writerSize
  exact ⟨j, hj, by omega⟩
theorem liesW : liesAt Try.prog Try.prog.depth 161 (3 / Try.prog.cellsOf 161) 0 159 1 = true := by kernel_rfl
theorem WrB.shape {w : World} {b : Nat} {cs : Array Value} (h : Blk w b cs 161) (hs : cs.size = 3) : w.shape? b = some (161, 3) := by
  simp [World.shape?, show w.heap[b]? = _ from h, hs]

set_option maxRecDepth 100000 in
set_option maxHeartbeats 2000000 in
theorem copyCheck_used (b : Nat) (w : World) (h0 : w.cell? ⟨b, 0, none⟩ = some (.pointer (some ⟨b, 0, none⟩))) :
    Calls Try.prog 108 #[.pointer (some ⟨b, 0, none⟩)] w fun e w' => e = .returned (.tuple #[]) ∧ w' = w := by
  obtain ⟨j, hj, _⟩ := writerInfo
  go_enter Try.func108, Try.ntmps108
  go_wp2
  rw [Lib.run_neq_ptr_same w _ Try.underlying157 hj]
  go_wp2
  go_end0
  exact ⟨rfl, rfl⟩

set_option maxRecDepth 100000 in
set_option maxHeartbeats 2000000 in
theorem copyCheck_fresh (b : Nat) (w : World) (h0 : w.cell? ⟨b, 0, none⟩ = some (.pointer none)) (hsh : w.shape? b = some (161, 3)) (hfz : w.frozen? ⟨b, 0, none⟩ = false) :
    Calls Try.prog 108 #[.pointer (some ⟨b, 0, none⟩)] w fun e w' => e = .returned (.tuple #[]) ∧ w' = w.setCell ⟨b, 0, none⟩ (.pointer (some ⟨b, 0, none⟩)) := by
  obtain ⟨j, hj, hjs⟩ := writerInfo
  go_enter Try.func108, Try.ntmps108
  go_wp2
  rw [Lib.run_to_unsafe w ⟨b, 0, none⟩ Try.underlying157 Try.underlying180 hj hjs hsh (Nat.zero_lt_succ 2)]
  simp only [Result.andThen]
  rw [Oper.upon_value]
  go_wp2
  rw [run_callFunc_extern Try.func111 (by kernel_rfl) (by kernel_rfl) (by kernel_rfl) (e := Extern.AbiNoEscape.same) (by kernel_rfl)]
  rw [Lib.run_noEscape]
  simp only [Result.andThen]
  rw [Oper.upon_value]
  go_wp2
  rw [Lib.run_from_unsafe w ⟨b, 0, none⟩ Try.underlying180 Try.underlying157 hj hsh liesW]
  simp only [Result.andThen]
  rw [Oper.upon_value]
  go_wp2
  go_end0
  exact ⟨rfl, rfl⟩

/-- copyCheck: the builder knows itself; nothing else has turned. -/
theorem copyCheck_any {B b : Nat} {text : ByteArray} {odd : Bool} {w : World} (h : WrB w B b text odd) :
    Calls Try.prog 108 #[.pointer (some ⟨b, 0, none⟩)] w fun e w' => e = .returned (.tuple #[]) ∧ (∃ v, Blk w' b #[.pointer (some ⟨b, 0, none⟩), v, .bool odd] 161 ∧ Own w' B 5 1 v (Lib.strCells text)) ∧ WKept B b w w' := by
  obtain ⟨hB, p, v, hp, hb, ho, hn⟩ := h
  rcases hp with rfl | rfl
  · refine (copyCheck_fresh b w (hb.cells 0) (WrB.shape hb rfl) (hb.free 0)).mono ?_
    rintro e w' ⟨rfl, rfl⟩
    refine ⟨rfl, ⟨v, hb.set 0 _, ho.keepB fun g hg => Below.heap_setCell _ _ _ g (ho.notBlk hb (by decide) g hg)⟩, (Kept.refl _ _).set (a := ⟨b, 0, none⟩) (fun h => ?_) _⟩
    rcases h with h | ⟨h, _⟩
    · exact absurd h (by show ¬ b < B; omega)
    · exact h rfl
  · refine (copyCheck_used b w (hb.cells 0)).mono ?_
    rintro e w' ⟨rfl, rfl⟩
    exact ⟨rfl, ⟨v, hb, ho⟩, Kept.refl _ _⟩

set_option maxRecDepth 100000 in
set_option maxHeartbeats 2000000 in
theorem writeString_any {B b : Nat} {text : ByteArray} {odd : Bool} {w : World} (s : ByteArray) (h : WrB w B b text odd) (hlen : text.size + s.size ≤ 140737488355328) (hpos : 0 < text.size + s.size) (hBw : B ≤ w.heap.size) :
    Calls Try.prog 98 #[.pointer (some ⟨b, 0, none⟩), .string s] w fun e w' => e = .returned (.tuple #[.int .i64 s.size, .nilIface]) ∧ WrB w' B b (text ++ s) odd ∧ WKept B b w w' := by
  have HCC := Lib.hid (copyCheck_any h)
  have hB := h.1
  obtain ⟨i0, hi, hz0, hz1, hz2⟩ := info_parts bytesInfoW
  clear h
  go_enter Try.func98, Try.ntmps98
  go_wp2_with fail
  refine HCC.out.mono ?_
  rintro e w1 ⟨rfl, ⟨v, hb1, ho1⟩, hk1⟩
  have hsz1 := hk1.size
  have c1 := hb1.cells
  have HNB := Lib.hid (ho1.notBlk hb1 (by decide))
  have HBL := Lib.hid hb1
  have HO := Lib.hid ho1
  have HK := Lib.hid hk1
  obtain ⟨n1, ho1'⟩ := ho1
  have hn1 : n1 = text.size := by have := ho1'.1; rw [Lib.strCells_length] at this; omega
  subst hn1
  have hb1' := hb1
  clear HCC hb1 hk1
  go_wp2_with (at_builtin; refine Lib.wpList_append_own_string _ rfl _ _ 42 9 rfl B 5 i0 Try.underlying42 Try.underlying9 hi hz0 hz1 hz2 _ _ _ rfl ho1' s rfl ?c3 ?c4 ?c5 ?_)
  case c3 => unfold maxLen; omega
  case c4 => omega
  case c5 => omega
  intro v' w2 hown' hgrow _
  have hb2 : Blk w2 b #[.pointer (some ⟨b, 0, none⟩), v, .bool odd] 161 := (hgrow.block b hb1'.lt (fun e => HNB.out b e.symm rfl)).trans hb1'
  have d0 := hb2.cells
  have f0 := hb2.free
  have HO2 : Own w2 B 5 1 v' (Lib.strCells text ++ Lib.strCells s) := ⟨_, hown'⟩
  have HN2 := HO2.notBlk hb2 (by decide)
  have HKG : WKept B b w1 w2 := ⟨hgrow.os, hgrow.tape, hgrow.output, hgrow.size, fun x hx => by
    have hO := HO.out
    rcases hx with hx | ⟨h1, h2, h3⟩
    · exact hgrow.block x (by omega) (fun e => by have := (hO.block x e.symm).1; omega)
    · refine hgrow.block x h2 (fun e => ?_)
      obtain ⟨n, ho⟩ := hO
      rcases ho.2 with ⟨rfl, _⟩ | ⟨g', cap, cur, rfl, hbg, hg', r⟩
      · cases e
      · injection e with e
        subst e
        exact h3 _ hg'⟩
  have HO3 := Lib.hid HO2
  have HKG2 := Lib.hid HKG
  have HB2 := Lib.hid hb2
  have HN3 := Lib.hid HN2
  obtain ⟨ao, n', cap, rfl⟩ : ∃ ao n' cap, v' = .slice ao n' cap := by
    rcases hown'.2 with ⟨hv, _⟩ | ⟨g, cap, cur, hv, _⟩
    · exact ⟨_, _, _, hv⟩
    · exact ⟨_, _, _, hv⟩
  clear c1 hb1' ho1' hgrow hown' hb2 HO2 HN2 HKG hi hz0 hz1 hz2
  go_wp2_with fail
  go_ret2
  refine ⟨rfl, ⟨hB, _, _, .inr rfl, HB2.out.set 1 _, ?_, fun h => ?_⟩, ?_⟩
  · have h1 : Lib.strCells (text ++ s) = Lib.strCells text ++ Lib.strCells s := by simp [Lib.strCells]
    rw [h1]
    exact HO3.out.keepB fun g hg => Below.heap_setCell _ _ _ g (HN3.out g hg)
  · rw [ByteArray.size_append] at h
    omega
  · refine WKept.next (WKept.next HK.out HKG2.out) ((Kept.refl _ _).set (a := ⟨b, 1, none⟩) (fun h => ?_) _)
    rcases h with h | ⟨h, _⟩
    · exact absurd h (by show ¬ b < B; omega)
    · exact h rfl

end Go.Proofs.Ytipddhcfcehcaaa
namespace Go.Proofs.Ytipddhcfcehcaaa
open Go Go.RowKit

theorem szL_le (l : List RT) (i : Nat) : szL (l.take i) ≤ szL l := by
  conv => rhs; rw [← List.take_append_drop i l]
  rw [szL_append]
  omega

set_option maxRecDepth 100000 in
set_option maxHeartbeats 2000000 in
theorem sizeR_any (r : RT) : ∀ (pv : Value) (w : World), RTAt (· < w.heap.size) w r pv → r.sz ≤ 1000000 → Calls Try.prog 83 #[rV r pv] w fun e w' => e = .returned (.int .i64 r.sz) ∧ Below w.heap.size w w' := by
  induction r using RT.ind with
  | h r ih =>
  intro pv w hat hs
  obtain ⟨ao, c, rfl, hlc, hcm, hcell⟩ := hat.rows
  rw [RT.sz_eq] at hs
  have HC := Lib.hid hcell
  have HI := Lib.hid ih
  have HSZ := Lib.hid r.sz_eq
  have hbk := (Blk.made w #[.int .i64 r.k, .string r.a, .string r.b, .slice ao r.ps.length c] 72).cells
  have hb0 : Below w.heap.size w (w.alloc (.cells #[.int .i64 r.k, .string r.a, .string r.b, .slice ao r.ps.length c] 72)) := (Below.refl _ _).alloc (Nat.le_refl _) _
  have HB0 := Lib.hid hb0
  have HS := Lib.hid hs
  clear hat hcell ih hb0 hs
  unfold rV
  rw [HSZ.out]
  clear HSZ
  generalize hps : r.ps = ps at *
  clear hps
  go_enter Try.func83, Try.ntmps83
  go_wp2_with fail
  clear hbk
  go_loopw [3, 9] (fun nn ii wr => ∃ i : Nat, i ≤ ps.length ∧ ii = .int .i64 i ∧ nn = .int .i64 ((1 + szL (ps.take i) : Nat) : Int) ∧ Below w.heap.size w wr) (fun _ ii _ => ps.length - (intOf ii).toNat)
  case atStart => exact ⟨0, by omega, rfl, by simp [szL], HB0.out⟩
  case round =>
    obtain ⟨i, hi, rfl, rfl, hbel⟩ := hrel
    clear HB0
    by_cases hlt : i < ps.length
    · obtain ⟨b, off, pv2, rfl, hb, c0, c1, c2, c3, hat2⟩ := HC.out i hlt
      have d0 := (hbel.cell (p := ⟨b, off + i * 4, none⟩) hb).trans c0
      have d1 := (hbel.cell (p := ⟨b, off + i * 4 + 1, none⟩) hb).trans c1
      have d2 := (hbel.cell (p := ⟨b, off + i * 4 + 2, none⟩) hb).trans c2
      have d3 := (hbel.cell (p := ⟨b, off + i * 4 + 3, none⟩) hb).trans c3
      obtain ⟨ao2, c2', rfl, -⟩ := hat2.rows
      have hst := szL_take hlt
      have hle := szL_le ps (i + 1)
      have hsl := HS.out
      have hb1 := hbel.alloc hbel.size (.cells #[.int .i64 ps[i].k, .string ps[i].a, .string ps[i].b, .slice ao2 ps[i].ps.length c2'] 72)
      have HR := Lib.hid (HI.out ps[i] (List.getElem_mem hlt) _ _ (hat2.up hb1) (by have := szL_mem (List.getElem_mem hlt); omega))
      unfold rV at HR
      have HB1 := Lib.hid hb1
      have hbx := (Blk.made wr #[.int .i64 ps[i].k, .string ps[i].a, .string ps[i].b, .slice ao2 ps[i].ps.length c2'] 72).cells
      have HST := Lib.hid hst
      rw [hst] at hle
      clear c0 c1 c2 c3 hat2 hb1 hbel hst
      generalize ps[i] = p at *
      generalize szL (ps.take i) = sa at *
      go_wp2_with fail
      refine HR.out.mono ?_
      rintro e w5 ⟨rfl, hb5⟩
      have HB5 := Lib.hid (HB1.out.trans (hb5.mono HB1.out.size))
      clear HR hb5 hbx d0 d1 d2 d3 HB1
      generalize p.sz = ms at *
      go_wp2_with fail
      go_roundw
      case rel => exact ⟨i + 1, by omega, by go_num, by rw [HST.out]; go_num, HB5.out⟩
      case measure => simp [intOf]; omega
    · obtain rfl : i = ps.length := by omega
      rw [List.take_length]
      have HBE := Lib.hid hbel
      clear hbel
      go_wp2_with fail
      go_ret
      exact ⟨rfl, HBE.out⟩

set_option maxRecDepth 100000 in
set_option maxHeartbeats 2000000 in
theorem size06_any (r : RT) : ∀ (pv : Value) (w : World), RTAt (· < w.heap.size) w r pv → r.sz ≤ 1000000 → Calls Try.prog 56 #[rV r pv] w fun e w' => e = .returned (.int .i64 r.sz) ∧ Below w.heap.size w w' := by
  induction r using RT.ind with
  | h r ih =>
  intro pv w hat hs
  obtain ⟨ao, c, rfl, hlc, hcm, hcell⟩ := hat.rows
  rw [RT.sz_eq] at hs
  have HC := Lib.hid hcell
  have HI := Lib.hid ih
  have HSZ := Lib.hid r.sz_eq
  have hbk := (Blk.made w #[.int .i64 r.k, .string r.a, .string r.b, .slice ao r.ps.length c] 72).cells
  have hb0 : Below w.heap.size w (w.alloc (.cells #[.int .i64 r.k, .string r.a, .string r.b, .slice ao r.ps.length c] 72)) := (Below.refl _ _).alloc (Nat.le_refl _) _
  have HB0 := Lib.hid hb0
  have HS := Lib.hid hs
  clear hat hcell ih hb0 hs
  unfold rV
  rw [HSZ.out]
  clear HSZ
  generalize hps : r.ps = ps at *
  clear hps
  go_enter Try.func56, Try.ntmps56
  go_wp2_with fail
  clear hbk
  go_loopw [3, 9] (fun nn ii wr => ∃ i : Nat, i ≤ ps.length ∧ ii = .int .i64 i ∧ nn = .int .i64 ((1 + szL (ps.take i) : Nat) : Int) ∧ Below w.heap.size w wr) (fun _ ii _ => ps.length - (intOf ii).toNat)
  case atStart => exact ⟨0, by omega, rfl, by simp [szL], HB0.out⟩
  case round =>
    obtain ⟨i, hi, rfl, rfl, hbel⟩ := hrel
    clear HB0
    by_cases hlt : i < ps.length
    · obtain ⟨b, off, pv2, rfl, hb, c0, c1, c2, c3, hat2⟩ := HC.out i hlt
      have d0 := (hbel.cell (p := ⟨b, off + i * 4, none⟩) hb).trans c0
      have d1 := (hbel.cell (p := ⟨b, off + i * 4 + 1, none⟩) hb).trans c1
      have d2 := (hbel.cell (p := ⟨b, off + i * 4 + 2, none⟩) hb).trans c2
      have d3 := (hbel.cell (p := ⟨b, off + i * 4 + 3, none⟩) hb).trans c3
      obtain ⟨ao2, c2', rfl, -⟩ := hat2.rows
      have hst := szL_take hlt
      have hle := szL_le ps (i + 1)
      have hsl := HS.out
      have hb1 := hbel.alloc hbel.size (.cells #[.int .i64 ps[i].k, .string ps[i].a, .string ps[i].b, .slice ao2 ps[i].ps.length c2'] 72)
      have HR := Lib.hid (HI.out ps[i] (List.getElem_mem hlt) _ _ (hat2.up hb1) (by have := szL_mem (List.getElem_mem hlt); omega))
      unfold rV at HR
      have HB1 := Lib.hid hb1
      have hbx := (Blk.made wr #[.int .i64 ps[i].k, .string ps[i].a, .string ps[i].b, .slice ao2 ps[i].ps.length c2'] 72).cells
      have HST := Lib.hid hst
      rw [hst] at hle
      clear c0 c1 c2 c3 hat2 hb1 hbel hst
      generalize ps[i] = p at *
      generalize szL (ps.take i) = sa at *
      go_wp2_with fail
      refine HR.out.mono ?_
      rintro e w5 ⟨rfl, hb5⟩
      have HB5 := Lib.hid (HB1.out.trans (hb5.mono HB1.out.size))
      clear HR hb5 hbx d0 d1 d2 d3 HB1
      generalize p.sz = ms at *
      go_wp2_with fail
      go_roundw
      case rel => exact ⟨i + 1, by omega, by go_num, by rw [HST.out]; go_num, HB5.out⟩
      case measure => simp [intOf]; omega
    · obtain rfl : i = ps.length := by omega
      rw [List.take_length]
      have HBE := Lib.hid hbel
      clear hbel
      go_wp2_with fail
      go_ret
      exact ⟨rfl, HBE.out⟩
end Go.Proofs.Ytipddhcfcehcaaa
namespace Go.Proofs.Ytipddhcfcehcaaa
open Go Go.RowKit

mutual
/-- Do tuples say something of it? -/
def RT.this : RT → Bool | .mk k _ _ ps => k == 1 || thisL ps
def thisL : List RT → Bool | [] => false | r :: rs => r.this || thisL rs
end
theorem wrap_in (x : Int) (h1 : -9223372036854775808 ≤ x) (h2 : x ≤ 9223372036854775807) : wrap64 x = x := by unfold wrap64; omega
mutual
/-- What Small leaves. -/
def RT.small : RT → Int → Int | .mk _ a b ps, left => smallL ps (left - 1 - ((a.size / 100 : Nat) : Int) - ((b.size / 100 : Nat) : Int))
def smallL : List RT → Int → Int | [], left => left | r :: rs, left => if left < 0 then left else smallL rs (r.small left)
end
theorem RT.small_eq (r : RT) (left : Int) : r.small left = smallL r.ps (left - 1 - ((r.a.size / 100 : Nat) : Int) - ((r.b.size / 100 : Nat) : Int)) := by
  obtain ⟨k, a, b, ps⟩ := r
  rw [RT.small]
  rfl
mutual
theorem RT.small_le : ∀ (r : RT) (left : Int), r.small left ≤ left - 1
  | .mk _ a b ps, left => by
    rw [RT.small]
    have := smallL_le ps (left - 1 - ((a.size / 100 : Nat) : Int) - ((b.size / 100 : Nat) : Int))
    omega
theorem smallL_le : ∀ (l : List RT) (left : Int), smallL l left ≤ left
  | [], left => by rw [smallL]; omega
  | r :: rs, left => by
    rw [smallL]
    split
    · omega
    · have h1 := smallL_le rs (r.small left)
      have h2 := RT.small_le r left
      omega
end

set_option maxRecDepth 100000 in
set_option maxHeartbeats 2000000 in
theorem small_any (r : RT) : ∀ (pv : Value) (left : Int) (w : World), RTAt (· < w.heap.size) w r pv → r.Ok → -2305843009213693952 ≤ left → left ≤ 9223372036854775807 → Calls Try.prog 54 #[rV r pv, .int .i64 left] w fun e w' => e = .returned (.int .i64 (r.small left)) ∧ Below w.heap.size w w' := by
  induction r using RT.ind with
  | h r ih =>
  intro pv left w hat hok hlo hhi
  obtain ⟨-, hoa, hob, hop⟩ := r.ok_iff.1 hok
  obtain ⟨ao, c, rfl, hlc, hcm, hcell⟩ := hat.rows
  have HC := Lib.hid hcell
  have HI := Lib.hid ih
  have hbk := (Blk.made w #[.int .i64 r.k, .string r.a, .string r.b, .slice ao r.ps.length c] 72).cells
  have hb0 : Below w.heap.size w (w.alloc (.cells #[.int .i64 r.k, .string r.a, .string r.b, .slice ao r.ps.length c] 72)) := (Below.refl _ _).alloc (Nat.le_refl _) _
  have HB0 := Lib.hid hb0
  clear hat hcell ih hb0
  have HOP := Lib.hid hop
  have HE := Lib.hid (r.small_eq left)
  unfold rV
  rw [HE.out]
  clear HE hop hok
  generalize r.ps = ps at *
  generalize r.k = k at *
  generalize r.a = a at *
  generalize r.b = b at *
  have hqa : ((a.size : Int)).tdiv 100 = ((a.size / 100 : Nat) : Int) := by rw [Int.tdiv_eq_ediv_of_nonneg (by omega)]; omega
  have hqb : ((b.size : Int)).tdiv 100 = ((b.size / 100 : Nat) : Int) := by rw [Int.tdiv_eq_ediv_of_nonneg (by omega)]; omega
  have hla : a.size / 100 ≤ 92233720368547758 := by omega
  have hlb : b.size / 100 ≤ 92233720368547758 := by omega
  generalize a.size / 100 = qa at *
  generalize b.size / 100 = qb at *
  have HQA := Lib.hid hqa
  have HQB := Lib.hid hqb
  clear hqa hqb
  obtain ⟨L0, hL0⟩ : ∃ L0, L0 = left - 1 - (qa : Int) - (qb : Int) := ⟨_, rfl⟩
  have hL : L0 ≤ 9223372036854775807 := by omega
  have hw1 : wrap64 (left - 1) = left - 1 := wrap_in _ (by omega) (by omega)
  have hw2 : wrap64 (left - 1 - (qa : Int)) = left - 1 - (qa : Int) := wrap_in _ (by omega) (by omega)
  have hw3 : wrap64 (left - 1 - (qa : Int) - (qb : Int)) = L0 := by rw [hL0]; exact wrap_in _ (by omega) (by omega)
  have hw4 : wrap64 (qa : Int) = (qa : Int) := wrap_in _ (by omega) (by omega)
  have hw5 : wrap64 (qb : Int) = (qb : Int) := wrap_in _ (by omega) (by omega)
  rw [← hL0]
  have HW3 := Lib.hid hw3
  have HLL := Lib.hid hL
  clear hL0
  have hqa := HQA.out
  have hqb := HQB.out
  clear hL hlo hhi hla hlb hoa hob
  go_enter Try.func54, Try.ntmps54
  go_wp2_with fail
  clear hbk hw1 hw2 hw3 hw4 hw5 hqa hqb HQA HQB
  go_loopw [1, 22] (fun lv ii wr => ∃ (i : Nat) (L : Int), i ≤ ps.length ∧ ii = .int .i64 i ∧ lv = .int .i64 L ∧ L ≤ 9223372036854775807 ∧ smallL ps L0 = smallL (ps.drop i) L ∧ Below w.heap.size w wr) (fun _ ii _ => ps.length - (intOf ii).toNat)
  case atStart => exact ⟨0, L0, by omega, rfl, by rw [HW3.out], HLL.out, rfl, HB0.out⟩
  case round =>
    obtain ⟨i, L, hi, rfl, rfl, hLh, hsm, hbel⟩ := hrel
    clear HB0 HLL
    by_cases hlt : i < ps.length
    · rw [List.drop_eq_getElem_cons hlt, smallL] at hsm
      obtain ⟨b, off, pv2, hbo, hb, c0, c1, c2, c3, hat2⟩ := HC.out i hlt
      cases hbo
      have d0 := (hbel.cell (p := ⟨b, off + i * 4, none⟩) hb).trans c0
      have d1 := (hbel.cell (p := ⟨b, off + i * 4 + 1, none⟩) hb).trans c1
      have d2 := (hbel.cell (p := ⟨b, off + i * 4 + 2, none⟩) hb).trans c2
      have d3 := (hbel.cell (p := ⟨b, off + i * 4 + 3, none⟩) hb).trans c3
      obtain ⟨ao2, c2', rfl, -⟩ := hat2.rows
      have hb1 := hbel.alloc hbel.size (.cells #[.int .i64 ps[i].k, .string ps[i].a, .string ps[i].b, .slice ao2 ps[i].ps.length c2'] 72)
      have hat3 := hat2.up hb1
      have hbx := (Blk.made wr #[.int .i64 ps[i].k, .string ps[i].a, .string ps[i].b, .slice ao2 ps[i].ps.length c2'] 72).cells
      have HB1 := Lib.hid hb1
      clear c0 c1 c2 c3 hat2 hb1 hbel
      have hokp := HOP.out ps[i] (List.getElem_mem hlt)
      have hmem := List.getElem_mem hlt
      by_cases hneg : L < 0
      · rw [if_pos hneg] at hsm
        have HSM := Lib.hid hsm
        clear hsm hat3 hokp hmem
        generalize ps[i] = p at *
        go_wp2_with fail
        go_ret
        exact ⟨by rw [HSM.out]; rfl, HB1.out⟩
      · rw [if_neg hneg] at hsm
        have HR := Lib.hid (HI.out ps[i] hmem _ L _ hat3 hokp (by omega) hLh)
        unfold rV at HR
        have HSM := Lib.hid hsm
        have HLE := Lib.hid (show ps[i].small L ≤ 9223372036854775807 from by have := ps[i].small_le L; omega)
        clear hsm hat3 hokp hmem
        generalize ps[i] = p at *
        go_wp2_with fail
        refine HR.out.mono ?_
        rintro e w5 ⟨rfl, hb5⟩
        have HB5 := Lib.hid (HB1.out.trans (hb5.mono HB1.out.size))
        clear HR hb5 hbx d0 d1 d2 d3 HB1
        go_wp2_with fail
        go_roundw
        case rel => exact ⟨i + 1, p.small L, by omega, by go_num, rfl, HLE.out, HSM.out, HB5.out⟩
        case measure => simp [intOf]; omega
    · obtain rfl : i = ps.length := by omega
      rw [List.drop_length, smallL] at hsm
      have HSM := Lib.hid hsm
      have HBE := Lib.hid hbel
      clear hbel hsm
      go_wp2_with fail
      go_ret
      exact ⟨by rw [HSM.out]; rfl, HBE.out⟩

end Go.Proofs.Ytipddhcfcehcaaa
namespace Go.Proofs.Ytipddhcfcehcaaa
open Go Go.RowKit

theorem ba_size_ne {a : ByteArray} (h : a.size ≠ 0) : a.toList.isEmpty = false := by
  rw [ByteArray.toList_eq]
  cases h' : a.data.toList with
  | nil => exact absurd (by have := congrArg List.length h'; simpa using this) h
  | cons => rfl
theorem ba_size_eq {a : ByteArray} (h : a.size = 0) : a = ⟨#[]⟩ := by
  refine ByteArray.ext (Array.eq_empty_of_size_eq_zero h)

def okc (c : UInt8) : Bool := decide ((97 ≤ (c.toNat : Int) ∧ (c.toNat : Int) ≤ 122) ∨ (48 ≤ (c.toNat : Int) ∧ (c.toNat : Int) ≤ 57) ∨ (c.toNat : Int) = 95 ∨ (c.toNat : Int) = 45)
def isNm (s : ByteArray) : Bool := s.data.toList.all okc && (decide (1 ≤ s.size) && decide (s.size ≤ 32))

theorem isNm_bad {s : ByteArray} {i : Nat} (hi : i < s.size) (h : okc s[i] = false) : isNm s = false := by
  unfold isNm
  rw [Bool.and_eq_false_iff]
  left
  rw [List.all_eq_false]
  exact ⟨s[i], by rw [show s[i] = s.data.toList[i]'(by simpa using hi) from rfl]; exact List.getElem_mem _, by simpa using h⟩
theorem isNm_end {s : ByteArray} (h : ∀ j (hj : j < s.size), j < s.size → okc s[j] = true) : isNm s = (decide (1 ≤ s.size) && decide (s.size ≤ 32)) := by
  unfold isNm
  rw [show s.data.toList.all okc = true from ?_, Bool.true_and]
  rw [List.all_eq_true]
  intro x hx
  obtain ⟨j, hj, rfl⟩ := List.getElem_of_mem hx
  have hj' : j < s.size := by simpa using hj
  exact h j hj' hj'

set_option maxRecDepth 100000 in
set_option maxHeartbeats 1600000 in
theorem isName_any (s : ByteArray) (hs : s.size ≤ maxLen) (w : World) : Calls Try.prog 80 #[.string s] w fun e w' => e = .returned (.bool (isNm s)) ∧ w' = w := by
  have hsz : s.size ≤ 9223372036854775807 := by unfold maxLen at hs; omega
  clear hs
  go_enter Try.func80, Try.ntmps80
  go_wp2_with fail
  go_loopw [7] (fun ii wr => ∃ i : Nat, i ≤ s.size ∧ ii = .int .i64 i ∧ (∀ j (hj : j < s.size), j < i → okc s[j] = true) ∧ wr = w) (fun ii _ => s.size - (intOf ii).toNat)
  case atStart => exact ⟨0, by omega, rfl, fun _ _ h => absurd h (by omega), rfl⟩
  case round =>
    obtain ⟨i, hi, rfl, hall, rfl⟩ := hrel
    have HALL := Lib.hid hall
    clear hall
    by_cases hlt : i < s.size
    · go_wp2_with fail
      all_goals first
        | (refine ⟨⟨i + 1, by omega, by go_num, upto_succ (p := fun j hj => okc s[j] = true) HALL.out hlt ?_, trivial⟩, by simp [intOf]; omega⟩
           unfold okc
           rw [decide_eq_true_iff]
           try simp only [beq_iff_eq, beq_eq_false_iff_ne, ne_eq] at *
           omega)
        | (go_ret
           refine ⟨?_, rfl⟩
           rw [isNm_bad hlt (by
             unfold okc
             rw [decide_eq_false_iff_not]
             try simp only [beq_eq_false_iff_ne, ne_eq] at *
             omega)]
           rfl)
    · obtain rfl : i = s.size := by omega
      have HE := Lib.hid (isNm_end HALL.out)
      by_cases h0 : s.size = 0
      · obtain rfl := ba_size_eq h0
        clear h0
        go_wp2_with fail
        go_ret
        exact ⟨by rw [HE.out]; rfl, rfl⟩
      · have hne := ba_size_ne h0
        have h1 : 1 ≤ s.size := by omega
        have HE2 := Lib.hid (show isNm s = decide ((s.size : Int) ≤ 32) from by
          rw [HE.out, decide_eq_true h1, Bool.true_and]
          by_cases h : s.size ≤ 32
          · rw [decide_eq_true h, decide_eq_true (by omega)]
          · rw [decide_eq_false h, decide_eq_false (by omega)])
        clear HE h0 h1
        go_wp2_with fail
        go_ret
        exact ⟨by rw [HE2.out]; rfl, rfl⟩

set_option maxRecDepth 100000 in
set_option maxHeartbeats 1600000 in
theorem refName_any (s : ByteArray) (hs : s.size ≤ maxLen) (w : World) : Calls Try.prog 52 #[.string s] w fun e w' => e = .returned (.bool (isNm s)) ∧ w' = w := by
  have hsz : s.size ≤ 9223372036854775807 := by unfold maxLen at hs; omega
  clear hs
  go_enter Try.func52, Try.ntmps52
  go_wp2_with fail
  go_loopw [3] (fun ii wr => ∃ i : Nat, i ≤ s.size ∧ ii = .int .i64 i ∧ (∀ j (hj : j < s.size), j < i → okc s[j] = true) ∧ wr = w) (fun ii _ => s.size - (intOf ii).toNat)
  case atStart => exact ⟨0, by omega, rfl, fun _ _ h => absurd h (by omega), rfl⟩
  case round =>
    obtain ⟨i, hi, rfl, hall, rfl⟩ := hrel
    have HALL := Lib.hid hall
    clear hall
    by_cases hlt : i < s.size
    · go_wp2_with fail
      all_goals first
        | (refine ⟨⟨i + 1, by omega, by go_num, upto_succ (p := fun j hj => okc s[j] = true) HALL.out hlt ?_, trivial⟩, by simp [intOf]; omega⟩
           unfold okc
           rw [decide_eq_true_iff]
           (try simp at *) <;> omega)
        | (go_ret
           refine ⟨?_, rfl⟩
           rw [isNm_bad hlt (by
             unfold okc
             rw [decide_eq_false_iff_not]
             (try simp at *) <;> omega)]
           rfl)
    · obtain rfl : i = s.size := by omega
      have HE := Lib.hid (isNm_end HALL.out)
      by_cases h0 : s.size = 0
      · obtain rfl := ba_size_eq h0
        clear h0
        go_wp2_with fail
        go_ret
        exact ⟨by rw [HE.out]; rfl, rfl⟩
      · have h1 : 1 ≤ s.size := by omega
        have h2 : (1 : Int) ≤ (s.size : Int) := by omega
        have HE2 := Lib.hid (show isNm s = decide ((s.size : Int) ≤ 32) from by
          rw [HE.out, decide_eq_true h1, Bool.true_and]
          by_cases h : s.size ≤ 32
          · rw [decide_eq_true h, decide_eq_true (by omega)]
          · rw [decide_eq_false h, decide_eq_false (by omega)])
        clear HE h0 h1
        go_wp2_with fail
        go_ret
        exact ⟨by rw [HE2.out]; rfl, rfl⟩

/-- May it be a relation's name, within a rule? -/
def ownB (s : ByteArray) : Bool := isNm s && decide (s ≠ ⟨#[116, 104, 105, 115]⟩)

end Go.Proofs.Ytipddhcfcehcaaa
