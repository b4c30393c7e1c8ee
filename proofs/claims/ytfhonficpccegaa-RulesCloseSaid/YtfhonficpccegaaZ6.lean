/- The writer of a schema's text: its block, WriteString, String. The walk of the document's named. No condition: lemmas. -/
import Derived.Lib.Builder
import Derived.Lib.UnsafeStr
import Derived.Lib.Hide
import Derived.Test.YtfhonficpccegaaZ3
import Derived.Test.YtfhonficpccegaaZ0
import Derived.Test.YtfhonficpccegaaZ1
import Derived.Test.YtfhonficpccegaaZ4
namespace Go.Proofs.Ytfhonficpccegaa
open Go Go.RowKit

theorem Own.keepB {w w' : World} {B : Nat} {e : TypeId} {sz : Nat} {v : Value} {xs : List Value} (h : Own w B e sz v xs) (hs : ∀ g, v.ownBlock = some g → w'.heap[g]? = w.heap[g]?) : Own w' B e sz v xs := by
  obtain ⟨n, h⟩ := h
  refine ⟨n, h.1, ?_⟩
  rcases h.2 with hn | ⟨g, cap, cur, rfl, hbg, hg, r⟩
  · exact .inl hn
  · exact .inr ⟨g, cap, cur, rfl, hbg, (hs g rfl).trans hg, r⟩
theorem Own.notBlk {w : World} {B : Nat} {e t : TypeId} {sz : Nat} {v : Value} {xs : List Value} {b : Nat} {cs : Array Value} (h : Own w B e sz v xs) (hb : Blk w b cs t) (hne : t ≠ e) : ∀ g, v.ownBlock = some g → g ≠ b := by
  intro g hg he
  obtain ⟨n, h⟩ := h
  rcases h.2 with ⟨rfl, _⟩ | ⟨g', cap, cur, rfl, hbg, hg', r⟩
  · cases hg
  · injection hg with hg
    subst hg he
    rw [show w.heap[g']? = _ from hb] at hg'
    injection hg' with hg'
    injection hg' with _ h2 _
    exact hne h2
/-- The writer's block: what is written, and whether it is odd. -/
def WrB (w : World) (B b : Nat) (text : ByteArray) (odd : Bool) : Prop := B ≤ b ∧ ∃ p v, (p = .pointer none ∨ p = .pointer (some ⟨b, 0, none⟩)) ∧ Blk w b #[p, v, .bool odd] 106 ∧ Own w B 5 1 v (Lib.strCells text) ∧ (text.size = 0 → v = .slice none 0 0)
/-- What the writer leaves alone. -/
def WK (B b : Nat) (w : World) (x : Nat) : Prop := x < B ∨ (x ≠ b ∧ x < w.heap.size ∧ ∀ cs, w.heap[x]? ≠ some (.cells cs 5 (0, 0)))
abbrev WKept (B b : Nat) (w w' : World) : Prop := Kept (WK B b w) w w'
section
variable {w w' w'' : World} {B b : Nat}
theorem WKept.below (h : WKept B b w w') : Below B w w' := Kept.below h fun _ hx => .inl hx
theorem WKept.next (h : WKept B b w w') (k : WKept B b w' w'') : WKept B b w w'' := Kept.trans h (Kept.mono k fun x hx => by
  rcases hx with hx | ⟨h1, h2, h3⟩
  · exact .inl hx
  · refine .inr ⟨h1, Nat.lt_of_lt_of_le h2 h.size, fun cs => ?_⟩
    rw [h.block x (.inr ⟨h1, h2, h3⟩)]
    exact h3 cs)
theorem WKept.of (h : Below w.heap.size w w') (hB : B ≤ w.heap.size) : WKept B b w w' := Below.kept h fun x hx => by
  rcases hx with hx | ⟨_, h2, _⟩
  · omega
  · exact h2
theorem WKept.box (h : WKept B b w w') {x : Nat} {cs : Array Value} {e : TypeId} (hx : Blk w x cs e) (he : e ≠ 5) (hb : x ≠ b) : Blk w' x cs e := Kept.blk h hx (.inr ⟨hb, hx.lt, fun cs' h' => by
  rw [show w.heap[x]? = _ from hx] at h'
  injection h' with h'
  injection h' with _ h2 _
  exact he h2⟩)
theorem WrB.lt {text : ByteArray} {odd : Bool} (h : WrB w B b text odd) : b < w.heap.size := by
  obtain ⟨_, p, v, _, hb, _⟩ := h
  exact hb.lt
theorem WrB.up {text : ByteArray} {odd : Bool} (h : WrB w B b text odd) (hk : Below w.heap.size w w') : WrB w' B b text odd := by
  obtain ⟨hB, p, v, hp, hb, ho, hn⟩ := h
  exact ⟨hB, p, v, hp, hb.below hk, ho.below hk, hn⟩
/-- The flag is turned. -/
theorem WrB.flag {text : ByteArray} {odd : Bool} (h : WrB w B b text odd) (o : Bool) : WrB (w.setCell ⟨b, 2, none⟩ (.bool o)) B b text o := by
  obtain ⟨hB, p, v, hp, hb, ho, hn⟩ := h
  exact ⟨hB, p, v, hp, hb.set 2 _, ho.keepB fun g hg => Below.heap_setCell _ _ _ g (ho.notBlk hb (by decide) g hg), hn⟩
theorem WKept.flag (hB : B ≤ b) (v : Value) : WKept B b w (w.setCell ⟨b, 2, none⟩ v) := (Kept.refl _ _).set (a := ⟨b, 2, none⟩) (fun h => by
  rcases h with h | ⟨h, _⟩
  · exact absurd h (by show ¬ b < B; omega)
  · exact h rfl) _
theorem WrB.odd2 {text : ByteArray} {odd : Bool} (h : WrB w B b text odd) : w.cell? ⟨b, 2, none⟩ = some (.bool odd) ∧ w.frozen? ⟨b, 2, none⟩ = false := by
  obtain ⟨hB, p, v, hp, hb, ho, hn⟩ := h
  exact ⟨hb.cells 2, hb.free 2⟩
end

theorem bytesInfoW : (Try.prog.info? 5).map (fun i => (i.zero, i.size, i.bytes)) = some (some (.int .u8 0), 1, 1) := by kernel_rfl
theorem writerSize : (Try.prog.info? 104).map (·.size) = some 2 := by kernel_rfl
theorem writerInfo : ∃ j, Try.prog.info? 104 = some j ∧ j.size ≠ 0 := by
  obtain ⟨j, hj, hs⟩ := Option.map_eq_some_iff.1 writerSize
  exact ⟨j, hj, by omega⟩
theorem liesW : liesAt Try.prog Try.prog.depth 106 (3 / Try.prog.cellsOf 106) 0 104 1 = true := by kernel_rfl
theorem WrB.shape {w : World} {b : Nat} {cs : Array Value} (h : Blk w b cs 106) (hs : cs.size = 3) : w.shape? b = some (106, 3) := by
  simp [World.shape?, show w.heap[b]? = _ from h, hs]

set_option maxRecDepth 100000 in
set_option maxHeartbeats 2000000 in
theorem copyCheck_used (b : Nat) (w : World) (h0 : w.cell? ⟨b, 0, none⟩ = some (.pointer (some ⟨b, 0, none⟩))) :
    Calls Try.prog 81 #[.pointer (some ⟨b, 0, none⟩)] w fun e w' => e = .returned (.tuple #[]) ∧ w' = w := by
  obtain ⟨j, hj, _⟩ := writerInfo
  go_enter Try.func81, Try.ntmps81
  go_wp2
  rw [Lib.run_neq_ptr_same w _ Try.underlying102 hj]
  go_wp2
  go_end0
  exact ⟨rfl, rfl⟩

set_option maxRecDepth 100000 in
set_option maxHeartbeats 2000000 in
theorem copyCheck_fresh (b : Nat) (w : World) (h0 : w.cell? ⟨b, 0, none⟩ = some (.pointer none)) (hsh : w.shape? b = some (106, 3)) (hfz : w.frozen? ⟨b, 0, none⟩ = false) :
    Calls Try.prog 81 #[.pointer (some ⟨b, 0, none⟩)] w fun e w' => e = .returned (.tuple #[]) ∧ w' = w.setCell ⟨b, 0, none⟩ (.pointer (some ⟨b, 0, none⟩)) := by
  obtain ⟨j, hj, hjs⟩ := writerInfo
  go_enter Try.func81, Try.ntmps81
  go_wp2
  rw [Lib.run_to_unsafe w ⟨b, 0, none⟩ Try.underlying102 Try.underlying140 hj hjs hsh (Nat.zero_lt_succ 2)]
  simp only [Result.andThen]
  rw [Oper.upon_value]
  go_wp2
  rw [run_callFunc_extern Try.func90 (by kernel_rfl) (by kernel_rfl) (by kernel_rfl) (e := Extern.AbiNoEscape.same) (by kernel_rfl)]
  rw [Lib.run_noEscape]
  simp only [Result.andThen]
  rw [Oper.upon_value]
  go_wp2
  rw [Lib.run_from_unsafe w ⟨b, 0, none⟩ Try.underlying140 Try.underlying102 hj hsh liesW]
  simp only [Result.andThen]
  rw [Oper.upon_value]
  go_wp2
  go_end0
  exact ⟨rfl, rfl⟩

/-- copyCheck: the builder knows itself; nothing else has turned. -/
theorem copyCheck_any {B b : Nat} {text : ByteArray} {odd : Bool} {w : World} (h : WrB w B b text odd) :
    Calls Try.prog 81 #[.pointer (some ⟨b, 0, none⟩)] w fun e w' => e = .returned (.tuple #[]) ∧ (∃ v, Blk w' b #[.pointer (some ⟨b, 0, none⟩), v, .bool odd] 106 ∧ Own w' B 5 1 v (Lib.strCells text)) ∧ WKept B b w w' := by
  obtain ⟨hB, p, v, hp, hb, ho, hn⟩ := h
  rcases hp with rfl | rfl
  · refine (copyCheck_fresh b w (hb.cells 0) (WrB.shape hb rfl) (hb.free 0)).mono ?_
    rintro e w' ⟨rfl, rfl⟩
    refine ⟨rfl, ⟨v, hb.set 0 _, ho.keepB fun g hg => Below.heap_setCell _ _ _ g (ho.notBlk hb (by decide) g hg)⟩, (Kept.refl _ _).set (a := ⟨b, 0, none⟩) (fun h => ?_) _⟩
    rcases h with h | ⟨h, _⟩
    · exact absurd h (by show ¬ b < B; omega)
    · exact h rfl
  · refine (copyCheck_used b w (hb.cells 0)).mono ?_
    rintro e w' ⟨rfl, rfl⟩
    exact ⟨rfl, ⟨v, hb, ho⟩, Kept.refl _ _⟩

set_option maxRecDepth 100000 in
set_option maxHeartbeats 2000000 in
theorem writeString_any {B b : Nat} {text : ByteArray} {odd : Bool} {w : World} (s : ByteArray) (h : WrB w B b text odd) (hlen : text.size + s.size ≤ 140737488355328) (hpos : 0 < text.size + s.size) (hBw : B ≤ w.heap.size) :
    Calls Try.prog 57 #[.pointer (some ⟨b, 0, none⟩), .string s] w fun e w' => e = .returned (.tuple #[.int .i64 s.size, .nilIface]) ∧ WrB w' B b (text ++ s) odd ∧ WKept B b w w' := by
  have HCC := Lib.hid (copyCheck_any h)
  have hB := h.1
  obtain ⟨i0, hi, hz0, hz1, hz2⟩ := info_parts bytesInfoW
  clear h
  go_enter Try.func57, Try.ntmps57
  go_wp2_with fail
  refine HCC.out.mono ?_
  rintro e w1 ⟨rfl, ⟨v, hb1, ho1⟩, hk1⟩
  have hsz1 := hk1.size
  have c1 := hb1.cells
  have HNB := Lib.hid (ho1.notBlk hb1 (by decide))
  have HBL := Lib.hid hb1
  have HO := Lib.hid ho1
  have HK := Lib.hid hk1
  obtain ⟨n1, ho1'⟩ := ho1
  have hn1 : n1 = text.size := by have := ho1'.1; rw [Lib.strCells_length] at this; omega
  subst hn1
  have hb1' := hb1
  clear HCC hb1 hk1
  go_wp2_with (at_builtin; refine Lib.wpList_append_own_string _ rfl _ _ 52 9 rfl B 5 i0 Try.underlying52 Try.underlying9 hi hz0 hz1 hz2 _ _ _ rfl ho1' s rfl ?c3 ?c4 ?c5 ?_)
  case c3 => unfold maxLen; omega
  case c4 => omega
  case c5 => omega
  intro v' w2 hown' hgrow _
  have hb2 : Blk w2 b #[.pointer (some ⟨b, 0, none⟩), v, .bool odd] 106 := (hgrow.block b hb1'.lt (fun e => HNB.out b e.symm rfl)).trans hb1'
  have d0 := hb2.cells
  have f0 := hb2.free
  have HO2 : Own w2 B 5 1 v' (Lib.strCells text ++ Lib.strCells s) := ⟨_, hown'⟩
  have HN2 := HO2.notBlk hb2 (by decide)
  have HKG : WKept B b w1 w2 := ⟨hgrow.os, hgrow.tape, hgrow.output, hgrow.size, fun x hx => by
    have hO := HO.out
    rcases hx with hx | ⟨h1, h2, h3⟩
    · exact hgrow.block x (by omega) (fun e => by have := (hO.block x e.symm).1; omega)
    · refine hgrow.block x h2 (fun e => ?_)
      obtain ⟨n, ho⟩ := hO
      rcases ho.2 with ⟨rfl, _⟩ | ⟨g', cap, cur, rfl, hbg, hg', r⟩
      · cases e
      · injection e with e
        subst e
        exact h3 _ hg'⟩
  have HO3 := Lib.hid HO2
  have HKG2 := Lib.hid HKG
  have HB2 := Lib.hid hb2
  have HN3 := Lib.hid HN2
  obtain ⟨ao, n', cap, rfl⟩ : ∃ ao n' cap, v' = .slice ao n' cap := by
    rcases hown'.2 with ⟨hv, _⟩ | ⟨g, cap, cur, hv, _⟩
    · exact ⟨_, _, _, hv⟩
    · exact ⟨_, _, _, hv⟩
  clear c1 hb1' ho1' hgrow hown' hb2 HO2 HN2 HKG hi hz0 hz1 hz2
  go_wp2_with fail
  go_ret2
  refine ⟨rfl, ⟨hB, _, _, .inr rfl, HB2.out.set 1 _, ?_, fun h => ?_⟩, ?_⟩
  · have h1 : Lib.strCells (text ++ s) = Lib.strCells text ++ Lib.strCells s := by simp [Lib.strCells]
    rw [h1]
    exact HO3.out.keepB fun g hg => Below.heap_setCell _ _ _ g (HN3.out g hg)
  · rw [ByteArray.size_append] at h
    omega
  · refine WKept.next (WKept.next HK.out HKG2.out) ((Kept.refl _ _).set (a := ⟨b, 1, none⟩) (fun h => ?_) _)
    rcases h with h | ⟨h, _⟩
    · exact absurd h (by show ¬ b < B; omega)
    · exact h rfl

end Go.Proofs.Ytfhonficpccegaa
namespace Go.Proofs.Ytfhonficpccegaa
open Go Go.RowKit

/-- Is what a rule's head names there? -/
def headOk (ts : List TyS) (t : TyS) (k : Int) (a b : ByteArray) : Bool := !((k == 2 && !hasT t a) || (k == 3 && (!hasT t a || !anyT ts b)))
mutual
/-- Is all that a rule names there? -/
def RT.named (ts : List TyS) (t : TyS) : RT → Bool | .mk k a b ps => headOk ts t k a b && namedL ts t ps
def namedL (ts : List TyS) (t : TyS) : List RT → Bool | [] => true | r :: rs => r.named ts t && namedL ts t rs
end
theorem namedL_eq (ts : List TyS) (t : TyS) : ∀ l : List RT, namedL ts t l = l.all fun r => r.named ts t
  | [] => rfl
  | r :: rs => by rw [namedL, List.all_cons, namedL_eq ts t rs]
theorem RT.named_eq (ts : List TyS) (t : TyS) (r : RT) : r.named ts t = (!((r.k == 2 && !hasT t r.a) || (r.k == 3 && (!hasT t r.a || !anyT ts r.b))) && r.ps.all fun r => r.named ts t) := by
  obtain ⟨k, a, b, ps⟩ := r
  rw [RT.named, namedL_eq]
  rfl

set_option maxRecDepth 100000 in
set_option maxHeartbeats 4000000 in
theorem named06_any (ts : List TyS) (t : TyS) (tv rv : Value) (r : RT) : ∀ (pv : Value) (w : World), TysAt (· < w.heap.size) w ts tv → RelsAt (· < w.heap.size) w t.rels rv → RTAt (· < w.heap.size) w r pv → Calls Try.prog 34 #[.agg #[tv], .agg #[.string t.name, rv], rV r pv] w fun e w' => e = .returned (.bool (r.named ts t)) ∧ Below w.heap.size w w' := by
  induction r using RT.ind with
  | h r ih =>
  intro pv w hts hrs hat
  obtain ⟨ao, c, rfl, hlc, hcm, hcell⟩ := hat.rows
  obtain ⟨to, tc, htv, -⟩ := hts.rows
  obtain ⟨ro, rc, hrv, -⟩ := hrs.rows
  have HC := Lib.hid hcell
  have HI := Lib.hid ih
  have HTS := Lib.hid hts
  have HRS := Lib.hid hrs
  have HE := Lib.hid (r.named_eq ts t)
  have HT := Lib.hid (fun (w' : World) (hb : Below w.heap.size w w') => has_any t rv r.a w' (hrs.up hb))
  have HA := Lib.hid (fun (w' : World) (hb : Below w.heap.size w w') => anywhere_any ts tv r.b w' (hts.up hb))
  clear hat hcell ih hts hrs
  generalize r.named ts t = g at *
  unfold rV
  generalize r.ps = ps at *
  generalize r.k = k at *
  generalize r.a = ra at *
  generalize r.b = rb at *
  generalize hasT t ra = ha at *
  generalize anyT ts rb = hb at *
  obtain ⟨w3, hw3⟩ : ∃ w3, w3 = ((w.alloc (.cells #[tv] 24)).alloc (.cells #[.string t.name, rv] 59)).alloc (.cells #[.int .i64 k, .string ra, .string rb, .slice ao ps.length c] 46) := ⟨_, rfl⟩
  have hS3 : Blk w3 w.heap.size #[tv] 24 := by rw [hw3]; exact ((Blk.made w #[tv] 24).alloc _).alloc _
  have hT3 : Blk w3 (w.heap.size + 1) #[.string t.name, rv] 59 := by rw [hw3]; exact (Blk.made' (w := w.alloc (.cells #[tv] 24)) (B := w.heap.size + 1) (by simp) #[.string t.name, rv] 59).alloc _
  have hR3 : Blk w3 (w.heap.size + 2) #[.int .i64 k, .string ra, .string rb, .slice ao ps.length c] 46 := by rw [hw3]; exact Blk.made' (w := (w.alloc (.cells #[tv] 24)).alloc (.cells #[.string t.name, rv] 59)) (B := w.heap.size + 2) (by simp) #[.int .i64 k, .string ra, .string rb, .slice ao ps.length c] 46
  have hb3 : Below w.heap.size w w3 := by rw [hw3]; exact (((Below.refl _ _).alloc (Nat.le_refl _) _).alloc (by simp) _).alloc (by simp; omega) _
  subst htv hrv
  have HS3 := Lib.hid hS3
  have HT3 := Lib.hid hT3
  have HR3 := Lib.hid hR3
  have HB3 := Lib.hid hb3
  have HW3 := Lib.hid hw3
  clear hS3 hT3 hR3 hb3 hw3
  have hch : (k = 2 ∧ ha = false) ∨ (k = 2 ∧ ha = true) ∨ (k = 3 ∧ ha = false) ∨ (k = 3 ∧ ha = true ∧ hb = false) ∨ (k = 3 ∧ ha = true ∧ hb = true) ∨ (k ≠ 2 ∧ k ≠ 3) := by
    cases ha <;> cases hb <;> simp <;> omega
  have HCE := Lib.hid (show ∀ W, Below w3.heap.size w3 W → (∀ i, W.cell? ⟨w.heap.size, i, none⟩ = (#[.slice to ts.length tc] : Array Value)[i]?) ∧ (∀ i, W.cell? ⟨w.heap.size + 1, i, none⟩ = (#[.string t.name, .slice ro t.rels.length rc] : Array Value)[i]?) ∧ (∀ i, W.cell? ⟨w.heap.size + 2, i, none⟩ = (#[.int .i64 k, .string ra, .string rb, .slice ao ps.length c] : Array Value)[i]?) from fun W hW => ⟨(HS3.out.below hW).cells, (HT3.out.below hW).cells, (HR3.out.below hW).cells⟩)
  obtain ⟨cS, cT, cR⟩ := HCE.out w3 (Below.refl _ _)
  rw [HW3.out] at cS cT cR
  go_enter Try.func34, Try.ntmps34
  rcases hch with ⟨rfl, rfl⟩ | ⟨rfl, rfl⟩ | ⟨rfl, rfl⟩ | ⟨rfl, rfl, rfl⟩ | ⟨rfl, rfl, rfl⟩ | ⟨h2, h3⟩
  · have HG := Lib.hid (show g = false from by rw [HE.out]; rfl)
    go_wp2_with fail
    rw [← HW3.out]
    clear cS cT cR
    refine (HT.out w3 HB3.out).mono ?_
    rintro e w4 ⟨rfl, hb4⟩
    obtain ⟨cS, cT, cR⟩ := HCE.out w4 hb4
    have HBE := Lib.hid (HB3.out.trans (hb4.mono HB3.out.size))
    clear hb4
    go_wp2_with fail
    go_ret
    exact ⟨by rw [HG.out]; rfl, HBE.out⟩
  · have HG := Lib.hid (show g = ps.all fun r => r.named ts t from by rw [HE.out]; simp)
    go_wp2_with fail
    rw [← HW3.out]
    clear cS cT cR
    refine (HT.out w3 HB3.out).mono ?_
    rintro e w4 ⟨rfl, hb4⟩
    obtain ⟨cS, cT, cR⟩ := HCE.out w4 hb4
    have HBL := Lib.hid hb4
    clear hb4
    go_wp2_with fail
    try rw [← HW3.out]
    clear cS cT cR
    go_loopw [41] (fun ii wr => ∃ i : Nat, i ≤ ps.length ∧ ii = .int .i64 i ∧ (∀ j (hj : j < ps.length), j < i → ps[j].named ts t = true) ∧ Below w3.heap.size w3 wr) (fun ii _ => ps.length - (intOf ii).toNat)
    case atStart => exact ⟨0, by omega, rfl, fun _ _ h => absurd h (by omega), HBL.out⟩
    case round =>
      obtain ⟨i, hi, rfl, hall, hb3r⟩ := hrel
      have HALL := Lib.hid hall
      have hbel : Below w.heap.size w wr := HB3.out.trans (hb3r.mono HB3.out.size)
      clear HBL hall
      by_cases hlt : i < ps.length
      · have HUP := fun h => Lib.hid (upto_succ (p := fun j hj => ps[j].named ts t = true) HALL.out hlt h)
        have HAN := fun (h : ps[i].named ts t = false) => Lib.hid (show g = false from by rw [HG.out]; exact List.all_eq_false.2 ⟨ps[i], List.getElem_mem hlt, by rw [h]; exact Bool.false_ne_true⟩)
        obtain ⟨b, off, pv2, hbo, hb, c0, c1, c2, c3, hat2⟩ := HC.out i hlt
        cases hbo
        have d0 := (hbel.cell (p := ⟨b, off + i * 4, none⟩) hb).trans c0
        have d1 := (hbel.cell (p := ⟨b, off + i * 4 + 1, none⟩) hb).trans c1
        have d2 := (hbel.cell (p := ⟨b, off + i * 4 + 2, none⟩) hb).trans c2
        have d3 := (hbel.cell (p := ⟨b, off + i * 4 + 3, none⟩) hb).trans c3
        obtain ⟨ao2, c2', rfl, -⟩ := hat2.rows
        have hb1 := hbel.alloc hbel.size (.cells #[.int .i64 ps[i].k, .string ps[i].a, .string ps[i].b, .slice ao2 ps[i].ps.length c2'] 46)
        have hat3 := hat2.up hb1
        have hbx := (Blk.made wr #[.int .i64 ps[i].k, .string ps[i].a, .string ps[i].b, .slice ao2 ps[i].ps.length c2'] 46).cells
        have HB1 := Lib.hid hb1
        clear c0 c1 c2 c3 hat2 hb1 hbel
        have HB3R := Lib.hid (hb3r.alloc hb3r.size (.cells #[.int .i64 ps[i].k, .string ps[i].a, .string ps[i].b, .slice ao2 ps[i].ps.length c2'] 46))
        obtain ⟨cS, cT, cR⟩ := HCE.out _ HB3R.out
        have HR := Lib.hid (HI.out ps[i] (List.getElem_mem hlt) _ _ (HTS.out.up HB1.out) (HRS.out.up HB1.out) hat3)
        unfold rV at HR
        clear hat3 hb3r
        generalize ps[i] = p at *
        cases hx : p.named ts t with
        | true =>
          rw [hx] at HR
          have HN := HUP hx
          clear HUP HAN hx
          go_wp2_with fail
          refine HR.out.mono ?_
          rintro e w6 ⟨rfl, hb6⟩
          have HB6 := Lib.hid (HB3R.out.trans (hb6.mono HB3R.out.size))
          clear HR hb6 hbx d0 d1 d2 d3 HB1 cS cT cR
          go_wp2_with fail
          go_roundw
          case rel => exact ⟨i + 1, by omega, by go_num, HN.out, HB6.out⟩
          case measure => simp [intOf]; omega
        | false =>
          rw [hx] at HR
          have HF := HAN hx
          clear HUP HAN hx
          go_wp2_with fail
          refine HR.out.mono ?_
          rintro e w6 ⟨rfl, hb6⟩
          have HB6 := Lib.hid (HB1.out.trans (hb6.mono HB1.out.size))
          clear HR hb6 hbx d0 d1 d2 d3 HB1 cS cT cR
          go_wp2_with fail
          go_ret
          exact ⟨by rw [HF.out]; rfl, HB6.out⟩
      · obtain rfl : i = ps.length := by omega
        have HF := Lib.hid (show g = true from by
          rw [HG.out, List.all_eq_true]
          intro x hx
          obtain ⟨j, hj, rfl⟩ := List.getElem_of_mem hx
          exact HALL.out j hj hj)
        have HBE := Lib.hid hbel
        clear hbel
        go_wp2_with fail
        go_ret
        exact ⟨by rw [HF.out]; rfl, HBE.out⟩
  · have HG := Lib.hid (show g = false from by rw [HE.out]; simp)
    go_wp2_with fail
    rw [← HW3.out]
    clear cS cT cR
    refine (HT.out w3 HB3.out).mono ?_
    rintro e w4 ⟨rfl, hb4⟩
    obtain ⟨cS, cT, cR⟩ := HCE.out w4 hb4
    have HBE := Lib.hid (HB3.out.trans (hb4.mono HB3.out.size))
    clear hb4
    go_wp2_with fail
    go_ret
    exact ⟨by rw [HG.out]; rfl, HBE.out⟩
  · have HG := Lib.hid (show g = false from by rw [HE.out]; simp)
    go_wp2_with fail
    rw [← HW3.out]
    clear cS cT cR
    refine (HT.out w3 HB3.out).mono ?_
    rintro e w4 ⟨rfl, hb4⟩
    obtain ⟨cS, cT, cR⟩ := HCE.out w4 hb4
    have HA4 := Lib.hid (HA.out w4 (HB3.out.trans (hb4.mono HB3.out.size)))
    go_wp2_with fail
    clear cS cT cR
    refine HA4.out.mono ?_
    rintro e w5 ⟨rfl, hb5⟩
    replace hb4 := hb4.trans (hb5.mono hb4.size)
    clear HA4 hb5
    obtain ⟨cS, cT, cR⟩ := HCE.out w5 hb4
    have HBE := Lib.hid (HB3.out.trans (hb4.mono HB3.out.size))
    clear hb4
    go_wp2_with fail
    go_ret
    exact ⟨by rw [HG.out]; rfl, HBE.out⟩
  · have HG := Lib.hid (show g = ps.all fun r => r.named ts t from by rw [HE.out]; simp)
    go_wp2_with fail
    rw [← HW3.out]
    clear cS cT cR
    refine (HT.out w3 HB3.out).mono ?_
    rintro e w4 ⟨rfl, hb4⟩
    obtain ⟨cS, cT, cR⟩ := HCE.out w4 hb4
    have HA4 := Lib.hid (HA.out w4 (HB3.out.trans (hb4.mono HB3.out.size)))
    go_wp2_with fail
    clear cS cT cR
    refine HA4.out.mono ?_
    rintro e w5 ⟨rfl, hb5⟩
    replace hb4 := hb4.trans (hb5.mono hb4.size)
    clear HA4 hb5
    obtain ⟨cS, cT, cR⟩ := HCE.out w5 hb4
    have HBL := Lib.hid hb4
    clear hb4
    go_wp2_with fail
    try rw [← HW3.out]
    clear cS cT cR
    go_loopw [41] (fun ii wr => ∃ i : Nat, i ≤ ps.length ∧ ii = .int .i64 i ∧ (∀ j (hj : j < ps.length), j < i → ps[j].named ts t = true) ∧ Below w3.heap.size w3 wr) (fun ii _ => ps.length - (intOf ii).toNat)
    case atStart => exact ⟨0, by omega, rfl, fun _ _ h => absurd h (by omega), HBL.out⟩
    case round =>
      obtain ⟨i, hi, rfl, hall, hb3r⟩ := hrel
      have HALL := Lib.hid hall
      have hbel : Below w.heap.size w wr := HB3.out.trans (hb3r.mono HB3.out.size)
      clear HBL hall
      by_cases hlt : i < ps.length
      · have HUP := fun h => Lib.hid (upto_succ (p := fun j hj => ps[j].named ts t = true) HALL.out hlt h)
        have HAN := fun (h : ps[i].named ts t = false) => Lib.hid (show g = false from by rw [HG.out]; exact List.all_eq_false.2 ⟨ps[i], List.getElem_mem hlt, by rw [h]; exact Bool.false_ne_true⟩)
        obtain ⟨b, off, pv2, hbo, hb, c0, c1, c2, c3, hat2⟩ := HC.out i hlt
        cases hbo
        have d0 := (hbel.cell (p := ⟨b, off + i * 4, none⟩) hb).trans c0
        have d1 := (hbel.cell (p := ⟨b, off + i * 4 + 1, none⟩) hb).trans c1
        have d2 := (hbel.cell (p := ⟨b, off + i * 4 + 2, none⟩) hb).trans c2
        have d3 := (hbel.cell (p := ⟨b, off + i * 4 + 3, none⟩) hb).trans c3
        obtain ⟨ao2, c2', rfl, -⟩ := hat2.rows
        have hb1 := hbel.alloc hbel.size (.cells #[.int .i64 ps[i].k, .string ps[i].a, .string ps[i].b, .slice ao2 ps[i].ps.length c2'] 46)
        have hat3 := hat2.up hb1
        have hbx := (Blk.made wr #[.int .i64 ps[i].k, .string ps[i].a, .string ps[i].b, .slice ao2 ps[i].ps.length c2'] 46).cells
        have HB1 := Lib.hid hb1
        clear c0 c1 c2 c3 hat2 hb1 hbel
        have HB3R := Lib.hid (hb3r.alloc hb3r.size (.cells #[.int .i64 ps[i].k, .string ps[i].a, .string ps[i].b, .slice ao2 ps[i].ps.length c2'] 46))
        obtain ⟨cS, cT, cR⟩ := HCE.out _ HB3R.out
        have HR := Lib.hid (HI.out ps[i] (List.getElem_mem hlt) _ _ (HTS.out.up HB1.out) (HRS.out.up HB1.out) hat3)
        unfold rV at HR
        clear hat3 hb3r
        generalize ps[i] = p at *
        cases hx : p.named ts t with
        | true =>
          rw [hx] at HR
          have HN := HUP hx
          clear HUP HAN hx
          go_wp2_with fail
          refine HR.out.mono ?_
          rintro e w6 ⟨rfl, hb6⟩
          have HB6 := Lib.hid (HB3R.out.trans (hb6.mono HB3R.out.size))
          clear HR hb6 hbx d0 d1 d2 d3 HB1 cS cT cR
          go_wp2_with fail
          go_roundw
          case rel => exact ⟨i + 1, by omega, by go_num, HN.out, HB6.out⟩
          case measure => simp [intOf]; omega
        | false =>
          rw [hx] at HR
          have HF := HAN hx
          clear HUP HAN hx
          go_wp2_with fail
          refine HR.out.mono ?_
          rintro e w6 ⟨rfl, hb6⟩
          have HB6 := Lib.hid (HB1.out.trans (hb6.mono HB1.out.size))
          clear HR hb6 hbx d0 d1 d2 d3 HB1 cS cT cR
          go_wp2_with fail
          go_ret
          exact ⟨by rw [HF.out]; rfl, HB6.out⟩
      · obtain rfl : i = ps.length := by omega
        have HF := Lib.hid (show g = true from by
          rw [HG.out, List.all_eq_true]
          intro x hx
          obtain ⟨j, hj, rfl⟩ := List.getElem_of_mem hx
          exact HALL.out j hj hj)
        have HBE := Lib.hid hbel
        clear hbel
        go_wp2_with fail
        go_ret
        exact ⟨by rw [HF.out]; rfl, HBE.out⟩
  · have hk2 : (k == 2) = false := by rw [beq_eq_false_iff_ne]; exact h2
    have hk3 : (k == 3) = false := by rw [beq_eq_false_iff_ne]; exact h3
    have HG := Lib.hid (show g = ps.all fun r => r.named ts t from by rw [HE.out, hk2, hk3]; simp)
    clear h2 h3
    have HBL := Lib.hid (Below.refl w3.heap.size w3)
    go_wp2_with fail
    try rw [← HW3.out]

    go_loopw [41] (fun ii wr => ∃ i : Nat, i ≤ ps.length ∧ ii = .int .i64 i ∧ (∀ j (hj : j < ps.length), j < i → ps[j].named ts t = true) ∧ Below w3.heap.size w3 wr) (fun ii _ => ps.length - (intOf ii).toNat)
    case atStart => exact ⟨0, by omega, rfl, fun _ _ h => absurd h (by omega), HBL.out⟩
    case round =>
      obtain ⟨i, hi, rfl, hall, hb3r⟩ := hrel
      have HALL := Lib.hid hall
      have hbel : Below w.heap.size w wr := HB3.out.trans (hb3r.mono HB3.out.size)
      clear HBL hall
      by_cases hlt : i < ps.length
      · have HUP := fun h => Lib.hid (upto_succ (p := fun j hj => ps[j].named ts t = true) HALL.out hlt h)
        have HAN := fun (h : ps[i].named ts t = false) => Lib.hid (show g = false from by rw [HG.out]; exact List.all_eq_false.2 ⟨ps[i], List.getElem_mem hlt, by rw [h]; exact Bool.false_ne_true⟩)
        obtain ⟨b, off, pv2, hbo, hb, c0, c1, c2, c3, hat2⟩ := HC.out i hlt
        cases hbo
        have d0 := (hbel.cell (p := ⟨b, off + i * 4, none⟩) hb).trans c0
        have d1 := (hbel.cell (p := ⟨b, off + i * 4 + 1, none⟩) hb).trans c1
        have d2 := (hbel.cell (p := ⟨b, off + i * 4 + 2, none⟩) hb).trans c2
        have d3 := (hbel.cell (p := ⟨b, off + i * 4 + 3, none⟩) hb).trans c3
        obtain ⟨ao2, c2', rfl, -⟩ := hat2.rows
        have hb1 := hbel.alloc hbel.size (.cells #[.int .i64 ps[i].k, .string ps[i].a, .string ps[i].b, .slice ao2 ps[i].ps.length c2'] 46)
        have hat3 := hat2.up hb1
        have hbx := (Blk.made wr #[.int .i64 ps[i].k, .string ps[i].a, .string ps[i].b, .slice ao2 ps[i].ps.length c2'] 46).cells
        have HB1 := Lib.hid hb1
        clear c0 c1 c2 c3 hat2 hb1 hbel
        have HB3R := Lib.hid (hb3r.alloc hb3r.size (.cells #[.int .i64 ps[i].k, .string ps[i].a, .string ps[i].b, .slice ao2 ps[i].ps.length c2'] 46))
        obtain ⟨cS, cT, cR⟩ := HCE.out _ HB3R.out
        have HR := Lib.hid (HI.out ps[i] (List.getElem_mem hlt) _ _ (HTS.out.up HB1.out) (HRS.out.up HB1.out) hat3)
        unfold rV at HR
        clear hat3 hb3r
        generalize ps[i] = p at *
        cases hx : p.named ts t with
        | true =>
          rw [hx] at HR
          have HN := HUP hx
          clear HUP HAN hx
          go_wp2_with fail
          refine HR.out.mono ?_
          rintro e w6 ⟨rfl, hb6⟩
          have HB6 := Lib.hid (HB3R.out.trans (hb6.mono HB3R.out.size))
          clear HR hb6 hbx d0 d1 d2 d3 HB1 cS cT cR
          go_wp2_with fail
          go_roundw
          case rel => exact ⟨i + 1, by omega, by go_num, HN.out, HB6.out⟩
          case measure => simp [intOf]; omega
        | false =>
          rw [hx] at HR
          have HF := HAN hx
          clear HUP HAN hx
          go_wp2_with fail
          refine HR.out.mono ?_
          rintro e w6 ⟨rfl, hb6⟩
          have HB6 := Lib.hid (HB1.out.trans (hb6.mono HB1.out.size))
          clear HR hb6 hbx d0 d1 d2 d3 HB1 cS cT cR
          go_wp2_with fail
          go_ret
          exact ⟨by rw [HF.out]; rfl, HB6.out⟩
      · obtain rfl : i = ps.length := by omega
        have HF := Lib.hid (show g = true from by
          rw [HG.out, List.all_eq_true]
          intro x hx
          obtain ⟨j, hj, rfl⟩ := List.getElem_of_mem hx
          exact HALL.out j hj hj)
        have HBE := Lib.hid hbel
        clear hbel
        go_wp2_with fail
        go_ret
        exact ⟨by rw [HF.out]; rfl, HBE.out⟩

end Go.Proofs.Ytfhonficpccegaa
