/- Lemmas for the claim, no condition. -/
import GoSem.PinnedTables
import Derived.Deep.DeepHandedRow
import Derived.Lib.SmallJoins
import Derived.RangeFuncGives
import Derived.RangeFuncNested
import Derived.RangeFuncLeaves
import Derived.WalkKit
import Derived.OwnWalkIn
import Derived.TacticsInMore
import Derived.RegionIn
import Derived.LoopNIn
import Derived.LoopIn
import Derived.Test.YtjdigpfipmckhaaGreatYReWalks15
import Derived.Test.YtjdigpfipmckhaaGreatYReWalks3
import Derived.Test.YtjdigpfipmckhaaGreatYReWalks2
import Derived.Test.YtjdigpfipmckhaaGreatYReWalks21
import Derived.Test.YtjdigpfipmckhaaGreatYReWalks11
import Derived.Test.YtjdigpfipmckhaaGreatYReWalks22
import Derived.Test.YtjdigpfipmckhaaGreatYReWalks23
import Derived.Test.YtjdigpfipmckhaaGreatYReWalks33
import Derived.Test.YtjdigpfipmckhaaGreatYReWalks9
import Derived.Test.YtjdigpfipmckhaaGreatYReWalks8
import Derived.Test.YtjdigpfipmckhaaGreatYReWalks24
namespace Go.Proofs.YtjdigpfipmckhaaGreat
open Go Go.RowKit Go.Maps
theorem chk_long {ts : List TyS} (h : chk06 ts = 0) : longOk ts = true := by
  unfold chk06 at h
  split at h
  · split at h
    · assumption
    · cases h
  · cases h
theorem long_small {ts : List TyS} (h : longOk ts = true) : ts.length ≤ 16 ∧ ∀ t ∈ ts, t.rels.length ≤ 16 ∧ ∀ r ∈ t.rels, r.2.sz ≤ 32 := by
  unfold longOk at h
  rw [Bool.and_eq_true, decide_eq_true_eq, List.all_eq_true] at h
  refine ⟨h.1, fun t ht => ?_⟩
  have h2 := h.2 t ht
  unfold tyLong at h2
  rw [Bool.and_eq_true, decide_eq_true_eq, List.all_eq_true] at h2
  exact ⟨h2.1, fun r hr => by simpa using h2.2 r hr⟩
theorem long_refs {ts : List TyS} (h : longOk ts = true) : (refsOf ts).length ≤ 256 := by
  obtain ⟨h1, h2⟩ := long_small h
  have := flat_le (fun t : TyS => relsOf t.name t.rels) 16 ts fun t ht => by unfold relsOf; rw [List.length_map]; exact (h2 t ht).1
  unfold refsOf
  omega
end Go.Proofs.YtjdigpfipmckhaaGreat
namespace Go.Proofs.YtjdigpfipmckhaaGreat
open Go Go.RowKit Go.ChangeShapes Go.WideShapes Go.ChangeAt
def bc (l : List UInt8) : List Value := l.map fun c => .int .u8 c.toNat
section
variable {H : Type} {enc : TypeId × Value → H} {W : World} {base : Nat} {v : Value} {d : DataW H} {ps : List MemPlace}
end
end Go.Proofs.YtjdigpfipmckhaaGreat
namespace Go.Proofs.YtjdigpfipmckhaaGreat
open Go Go.RowKit Go.Maps
def Tp (w : World) (tp : Nat) : Prop := ∃ (bv : Value) (l : List UInt8) (n : Nat), n ≤ l.length ∧ Sl (· < tp) w 1 bv (bc l) ∧ Blk w tp #[bv, .int .i64 n] 71
end Go.Proofs.YtjdigpfipmckhaaGreat
namespace Go.Proofs.YtjdigpfipmckhaaGreat
open Go Go.RowKit Go.Maps
theorem nms_len (r : RT) : r.nms.length ≤ 2 * r.sz := by
  induction r using RT.ind with
  | h r ih =>
    have : ∀ l : List RT, (∀ x ∈ l, x ∈ r.ps) → (nmsL l).length ≤ 2 * szL l := by
      intro l
      induction l with
      | nil => intro _; simp [nmsL]
      | cons x l ihl =>
        intro hx
        rw [nmsL, szL, List.length_append]
        have h1 := ih x (hx x (by simp))
        have h2 := ihl fun y hy => hx y (List.mem_cons_of_mem _ hy)
        omega
    have h := this r.ps fun _ h => h
    rw [RT.nms_eq, List.length_cons, List.length_cons]
    obtain ⟨k, a, b, ps⟩ := r
    rw [RT.sz]
    simp only [RT.ps] at h ⊢
    omega
theorem nms_ok (r : RT) (h : r.Ok) : ∀ n ∈ r.nms, n.size ≤ maxLen := by
  induction r using RT.ind with
  | h r ih =>
    obtain ⟨k, a, b, ps⟩ := r
    rw [RT.Ok] at h
    intro n hn
    rw [RT.nms_eq] at hn
    simp only [RT.a, RT.b, RT.ps, List.mem_cons] at hn
    rcases hn with rfl | rfl | hn
    · exact Nat.le_trans h.2.1 (by decide)
    · exact Nat.le_trans h.2.2.1 (by decide)
    · have hp := okL_mem.1 h.2.2.2
      have : ∀ l : List RT, (∀ x ∈ l, x ∈ ps) → ∀ n ∈ nmsL l, n.size ≤ maxLen := by
        intro l
        induction l with
        | nil => intro _ n hn; simp [nmsL] at hn
        | cons x l ihl =>
          intro hx n hn
          rw [nmsL, List.mem_append] at hn
          rcases hn with hn | hn
          · exact ih x (hx x (by simp)) (hp x (hx x (by simp))) n hn
          · exact ihl (fun y hy => hx y (List.mem_cons_of_mem _ hy)) n hn
      exact this ps (fun _ h => h) n hn
def allN (ts : List TyS) : List ByteArray := (refsOf ts).flatMap fun x => x.2.nms
theorem allN_mem (ts : List TyS) : NmU ts (allN ts) := fun x hx n hn => List.mem_flatMap.2 ⟨x, hx, hn⟩
theorem flatN_len {α β : Type} (f : α → List β) (m : Nat) : ∀ (l : List α), (∀ x ∈ l, (f x).length ≤ m) → (l.flatMap f).length ≤ l.length * m
  | [], _ => by simp
  | a :: l, h => by
    rw [List.flatMap_cons, List.length_append, List.length_cons, Nat.add_mul]
    have h1 := h a (by simp)
    have h2 := flatN_len f m l fun x hx => h x (List.mem_cons_of_mem _ hx)
    omega
theorem refs_sz {ts : List TyS} (h : longOk ts = true) : ∀ x ∈ refsOf ts, x.2.sz ≤ 32 := fun x hx => by
  obtain ⟨t, ht, r, hr, rfl⟩ := refs_mem.1 hx
  unfold longOk at h
  rw [Bool.and_eq_true, List.all_eq_true] at h
  have h2 := h.2 t ht
  unfold tyLong at h2
  rw [Bool.and_eq_true, List.all_eq_true] at h2
  simpa using h2.2 r hr
theorem refs_ok {ts : List TyS} (h : ∀ t ∈ ts, t.Ok) : ∀ x ∈ refsOf ts, x.2.Ok := fun x hx => by
  obtain ⟨t, ht, r, hr, rfl⟩ := refs_mem.1 hx
  exact ((h t ht).2 r hr).2
def objU (T : List Tup) (p : P3) : List (ByteArray × ByteArray) := (p.t, p.i) :: T.map fun t => (t.s.t, t.s.i)
def namU (N : List ByteArray) (T : List Tup) (p : P3) : List ByteArray := p.r :: (T.map fun t => t.s.r) ++ N
theorem okU (T : List Tup) (p : P3) (N : List ByteArray) : OkU T (objU T p) (namU N T p) where
  objs t ht := List.mem_cons_of_mem _ (List.mem_map.2 ⟨t, ht, rfl⟩)
  rels t ht := by unfold namU; rw [List.cons_append]; exact List.mem_cons_of_mem _ (List.mem_append_left _ (List.mem_map.2 ⟨t, ht, rfl⟩))
theorem inU_walk {ts : List TyS} (T : List Tup) (shut : List R2) (p : P3) {N : List ByteArray} (hN : NmU ts N) (n : Nat) : ∀ x ∈ (walkN ts T shut p n).1, InU (objU T p) (namU N T p) x :=
  walkN_in (okU T p N) (fun x hx m hm => by unfold namU; rw [List.cons_append]; exact List.mem_cons_of_mem _ (List.mem_append_right _ (hN x hx m hm))) shut ⟨by simp [objU], by simp [namU]⟩ n
theorem walk_few {ts : List TyS} (T : List Tup) (shut : List R2) (p : P3) {N : List ByteArray} (hN : NmU ts N) (n : Nat) : (walkN ts T shut p n).1.length ≤ (T.length + 1) * (T.length + N.length + 1) := by
  have h := inU_few (walkN_nodup ts T shut p n) (inU_walk T shut p hN n)
  simp only [objU, namU, List.length_cons, List.length_append, List.length_map] at h
  rwa [show T.length + 1 + N.length = T.length + N.length + 1 by omega] at h
theorem walkIn_chk {ts : List TyS} {T : List Tup} (shut : List R2) {p : P3} (hc : longOk ts = true) (hok : ∀ t ∈ ts, t.Ok) (hT : T.length ≤ 100) (hTo : ∀ t ∈ T, t.Ok) (hp : p.Ok) : WalkIn ts T shut p 2000000 where
  okp n x hx := by
    have h := inU_walk T shut p (allN_mem ts) n x hx
    have hN : ∀ m ∈ allN ts, m.size ≤ maxLen := fun m hm => by
      obtain ⟨y, hy, hm⟩ := List.mem_flatMap.1 hm
      exact nms_ok _ (refs_ok hok y hy) m hm
    obtain ⟨h1, h2⟩ := h
    have hO : x.t.size ≤ maxLen ∧ x.i.size ≤ maxLen := by
      rcases List.mem_cons.1 h1 with h1 | h1
      · have e1 := congrArg Prod.fst h1; have e2 := congrArg Prod.snd h1; dsimp only at e1 e2; rw [e1, e2]; exact ⟨hp.1, hp.2.1⟩
      · obtain ⟨t, ht, e⟩ := List.mem_map.1 h1
        have h3 := (hTo t ht).2
        have e1 := congrArg Prod.fst e; have e2 := congrArg Prod.snd e; dsimp only at e1 e2; rw [← e1, ← e2]
        exact ⟨h3.1, h3.2.1⟩
    refine ⟨hO.1, hO.2, ?_⟩
    unfold namU at h2
    rw [List.cons_append, List.mem_cons, List.mem_append] at h2
    rcases h2 with h2 | h2 | h2
    · rw [h2]; exact hp.2.2
    · obtain ⟨t, ht, e⟩ := List.mem_map.1 h2
      rw [← e]; exact (hTo t ht).2.2.2
    · exact hN _ h2
  few n := by
    have h := walk_few T shut p (allN_mem ts) n
    have h2 : (allN ts).length ≤ 256 * 64 := by
      have h3 := flatN_len (fun x : R2 × RT => x.2.nms) 64 (refsOf ts) fun x hx => by have := nms_len x.2; have := refs_sz hc x hx; omega
      have h4 := long_refs hc
      unfold allN
      exact Nat.le_trans h3 (Nat.mul_le_mul_right _ h4)
    have h5 : (T.length + 1) * (T.length + (allN ts).length + 1) ≤ 101 * (100 + 256 * 64 + 1) := Nat.mul_le_mul (by omega) (by omega)
    omega
  room x hx := by
    have h1 := refs_sz hc x hx
    have h2 : x.2.sz * (T.length + 1) ≤ 32 * 101 := Nat.mul_le_mul h1 (by omega)
    omega
  nmax := by omega
  rok := refs_ok hok
  tok t ht := (hTo t ht).2
  tlen := by omega
end Go.Proofs.YtjdigpfipmckhaaGreat
namespace Go.Proofs.YtjdigpfipmckhaaGreat
open Go Go.RowKit Go.Maps
theorem tups_rowsF {S : Nat → Prop} {w : World} {v : Value} {l : List Tup} (h : Sl S w 6 v (tuCs l)) :
    ∃ ao c, v = .slice ao l.length c ∧ l.length ≤ c ∧ c ≤ 9223372036854775807 ∧ ∀ i (hi : i < l.length), ∃ b off, ao = some ⟨b, off, none⟩ ∧ S b ∧
      w.cell? ⟨b, off + i * 6, none⟩ = some (.string l[i].o.t) ∧ w.cell? ⟨b, off + i * 6 + 1, none⟩ = some (.string l[i].o.i) ∧ w.cell? ⟨b, off + i * 6 + 2, none⟩ = some (.string l[i].o.r) ∧
      w.cell? ⟨b, off + i * 6 + 3, none⟩ = some (.string l[i].s.t) ∧ w.cell? ⟨b, off + i * 6 + 4, none⟩ = some (.string l[i].s.i) ∧ w.cell? ⟨b, off + i * 6 + 5, none⟩ = some (.string l[i].s.r) := by
  obtain ⟨ao, c, rfl, h1, h2, hc⟩ := Sl.rows tuC_length (by decide) (show Sl S w 6 v (l.flatMap tuC) from h)
  refine ⟨ao, c, rfl, h1, h2, fun i hi => ?_⟩
  obtain ⟨b, off, rfl, hb, hc⟩ := hc (by omega)
  exact ⟨b, off, rfl, hb, hc i hi 0 _ rfl, hc i hi 1 _ rfl, hc i hi 2 _ rfl, hc i hi 3 _ rfl, hc i hi 4 _ rfl, hc i hi 5 _ rfl⟩
def shortT (t : Tup) : Bool := decide (t.o.t.size ≤ 100) && decide (t.o.i.size ≤ 100) && decide (t.o.r.size ≤ 100) && decide (t.s.t.size ≤ 100) && decide (t.s.i.size ≤ 100) && decide (t.s.r.size ≤ 100)
def fewL (l : List Tup) : Bool := l.all (fun a => shortT a) && decide (l.length ≤ 40)
theorem fewL_bad {l : List Tup} {i : Nat} (hi : i < l.length) (h : shortT l[i] = false) : fewL l = false := by
  unfold fewL
  rw [Bool.and_eq_false_iff]
  left
  rw [List.all_eq_false]
  exact ⟨l[i], List.getElem_mem hi, by simp [h]⟩
theorem fewL_end {l : List Tup} (h : ∀ j (hj : j < l.length), j < l.length → shortT l[j] = true) : fewL l = decide ((l.length : Int) ≤ 40) := by
  unfold fewL
  rw [show l.all (fun a => shortT a) = true from ?_, Bool.true_and]
  · by_cases h : l.length ≤ 40
    · rw [decide_eq_true h, decide_eq_true (by omega)]
    · rw [decide_eq_false h, decide_eq_false (by omega)]
  · rw [List.all_eq_true]
    intro x hx
    obtain ⟨j, hj, rfl⟩ := List.getElem_of_mem hx
    exact h j hj hj
theorem fewL_len {l : List Tup} (h : fewL l = true) : l.length ≤ 40 := by
  unfold fewL at h
  simp only [Bool.and_eq_true, decide_eq_true_eq] at h
  exact h.2
set_option maxRecDepth 100000 in
set_option maxHeartbeats 4000000 in
theorem few26_any (v : Value) (l : List Tup) (w : World) (h : Sl (· < w.heap.size) w 6 v (tuCs l)) : Calls Tryz.prog 14 #[v] w fun e w' => e = .returned (.bool (fewL l)) ∧ Below w.heap.size w w' := by
  obtain ⟨ao, c, rfl, hlc, hcm, hcell⟩ := tups_rowsF h
  have HC := Lib.hid hcell
  clear hcell h
  go_enter Tryz.func14, Tryz.ntmps14
  go_wp2_with fail
  go_loopw [9] (fun ii wr => ∃ i : Nat, i ≤ l.length ∧ ii = .int .i64 i ∧ (∀ j (hj : j < l.length), j < i → shortT l[j] = true) ∧ Below w.heap.size w wr) (fun ii _ => l.length - (intOf ii).toNat)
  case atStart => exact ⟨0, by omega, rfl, fun _ _ h => absurd h (by omega), Below.refl _ _⟩
  case round =>
    obtain ⟨i, hi, rfl, hall, hbel⟩ := hrel
    have HALL := Lib.hid hall
    clear hall
    by_cases hlt : i < l.length
    · obtain ⟨b, off, rfl, hb, c1, c2, c3, c4, c5, c6⟩ := HC.out i hlt
      have d1 := (hbel.cell (p := ⟨b, off + i * 6, none⟩) hb).trans c1
      have d2 := (hbel.cell (p := ⟨b, off + i * 6 + 1, none⟩) hb).trans c2
      have d3 := (hbel.cell (p := ⟨b, off + i * 6 + 2, none⟩) hb).trans c3
      have d4 := (hbel.cell (p := ⟨b, off + i * 6 + 3, none⟩) hb).trans c4
      have d5 := (hbel.cell (p := ⟨b, off + i * 6 + 4, none⟩) hb).trans c5
      have d6 := (hbel.cell (p := ⟨b, off + i * 6 + 5, none⟩) hb).trans c6
      have HF := Lib.hid (fun h => fewL_bad hlt h)
      have HN := Lib.hid (fun h => upto_succ (p := fun j hj => shortT l[j] = true) HALL.out hlt h)
      clear c1 c2 c3 c4 c5 c6 hb
      generalize l[i] = a at *
      obtain ⟨⟨ot, oi, or_⟩, ⟨st, si, sr⟩⟩ := a
      dsimp only at *
      have hb1 := hbel.alloc hbel.size (.cells #[.string ot, .string oi, .string or_, .string st, .string si, .string sr] 104)
      have hbk := (Blk.made wr #[.string ot, .string oi, .string or_, .string st, .string si, .string sr] 104).cells
      have HP := Lib.hid (parts_any ⟨⟨ot, oi, or_⟩, ⟨st, si, sr⟩⟩ (wr.alloc (.cells #[.string ot, .string oi, .string or_, .string st, .string si, .string sr] 104)))
      unfold tV at HP
      dsimp only at HP
      have HB1 := Lib.hid hb1
      clear hb1
      go_wp2_with fail
      refine HP.out.mono ?_
      rintro e w2 ⟨rfl, hP2, hb2⟩
      have cP := hP2.cells
      simp only [World.size_alloc] at cP ⊢
      have HBB := Lib.hid (HB1.out.trans (hb2.mono HB1.out.size))
      clear HP hP2 hb2 HB1 hbk d1 d2 d3 d4 d5 d6
      go_wp2_with fail
      refine wp_loop_rounds 7 ?_
      rw [rounds_succ]
      by_cases hs0 : ot.size ≤ 100
      rotate_left
      · have hg : (100 : Int) < (ot.size : Int) := by omega
        have HS := Lib.hid hs0
        clear hs0
        go_wp2_with fail
        go_ret
        exact ⟨congrArg (fun b => Ending.returned (.bool b)) (HF.out (by simp [shortT, HS.out])).symm, HBB.out⟩
      have hg0 : (ot.size : Int) ≤ 100 := by omega
      have HS0 := Lib.hid hs0
      clear hs0
      go_wp2_with fail
      rw [rounds_succ]
      by_cases hs1 : oi.size ≤ 100
      rotate_left
      · have hg : (100 : Int) < (oi.size : Int) := by omega
        have HS := Lib.hid hs1
        clear hs1
        go_wp2_with fail
        go_ret
        exact ⟨congrArg (fun b => Ending.returned (.bool b)) (HF.out (by simp [shortT, HS.out])).symm, HBB.out⟩
      have hg1 : (oi.size : Int) ≤ 100 := by omega
      have HS1 := Lib.hid hs1
      clear hs1
      go_wp2_with fail
      rw [rounds_succ]
      by_cases hs2 : or_.size ≤ 100
      rotate_left
      · have hg : (100 : Int) < (or_.size : Int) := by omega
        have HS := Lib.hid hs2
        clear hs2
        go_wp2_with fail
        go_ret
        exact ⟨congrArg (fun b => Ending.returned (.bool b)) (HF.out (by simp [shortT, HS.out])).symm, HBB.out⟩
      have hg2 : (or_.size : Int) ≤ 100 := by omega
      have HS2 := Lib.hid hs2
      clear hs2
      go_wp2_with fail
      rw [rounds_succ]
      by_cases hs3 : st.size ≤ 100
      rotate_left
      · have hg : (100 : Int) < (st.size : Int) := by omega
        have HS := Lib.hid hs3
        clear hs3
        go_wp2_with fail
        go_ret
        exact ⟨congrArg (fun b => Ending.returned (.bool b)) (HF.out (by simp [shortT, HS.out])).symm, HBB.out⟩
      have hg3 : (st.size : Int) ≤ 100 := by omega
      have HS3 := Lib.hid hs3
      clear hs3
      go_wp2_with fail
      rw [rounds_succ]
      by_cases hs4 : si.size ≤ 100
      rotate_left
      · have hg : (100 : Int) < (si.size : Int) := by omega
        have HS := Lib.hid hs4
        clear hs4
        go_wp2_with fail
        go_ret
        exact ⟨congrArg (fun b => Ending.returned (.bool b)) (HF.out (by simp [shortT, HS.out])).symm, HBB.out⟩
      have hg4 : (si.size : Int) ≤ 100 := by omega
      have HS4 := Lib.hid hs4
      clear hs4
      go_wp2_with fail
      rw [rounds_succ]
      by_cases hs5 : sr.size ≤ 100
      rotate_left
      · have hg : (100 : Int) < (sr.size : Int) := by omega
        have HS := Lib.hid hs5
        clear hs5
        go_wp2_with fail
        go_ret
        exact ⟨congrArg (fun b => Ending.returned (.bool b)) (HF.out (by simp [shortT, HS.out])).symm, HBB.out⟩
      have hg5 : (sr.size : Int) ≤ 100 := by omega
      have HS5 := Lib.hid hs5
      clear hs5
      go_wp2_with fail
      rw [rounds_succ]
      have HH := Lib.hid (HN.out (by simp [shortT, HS0.out, HS1.out, HS2.out, HS3.out, HS4.out, HS5.out]))
      clear HN HF
      go_wp2_with fail
      go_roundw
      case rel => exact ⟨i + 1, by omega, by go_num, HH.out, HBB.out⟩
      case measure => simp [intOf]; omega
    · obtain rfl : i = l.length := by omega
      have HE := Lib.hid (fewL_end HALL.out)
      go_wp2_with fail
      go_ret
      exact ⟨congrArg (fun b => Ending.returned (.bool b)) HE.out.symm, hbel⟩
end Go.Proofs.YtjdigpfipmckhaaGreat
namespace Go.Proofs.YtjdigpfipmckhaaGreat
open Go Go.RowKit
attribute [local go_sem] Oper.semAt_some
theorem pn_len (l : List P3) : (pcs l).length = l.length * 3 := by rw [pcs_length]; omega
theorem pn_app (a : List P3) (b : List P3) : pcs (a ++ b) = pcs a ++ pcs b := pcs_append a b
theorem pn_sing (x : P3) : pcs [x] = pC x := pcs_single x
theorem cells_litV (w : World) (a b c : Value) (t : TypeId) : ∀ j u, [a, b, c][j]? = some u → (w.alloc (.cells #[a, b, c] t)).cell? ((⟨w.heap.size, 0, none⟩ : Addr).add j) = some u := fun j u hu => by
  rw [Addr.add_lit, cell_of_row _ w.heap.size (0 + j) #[a, b, c] t (0, 0) (heap_alloc_new w _), Nat.zero_add]
  simpa using hu
set_option maxRecDepth 100000 in
set_option maxHeartbeats 2000000 in
theorem appV_in (F : Fence) (n : Nat) (h45 : F.fn 161) (hro : F.round = none) (hn : 2 ≤ n) (g : Nat) (lb : Array Value) (hFg : F.fn g) (eg : ∀ args w, (callFunc g args).run Tryz.prog w = .ok (.enter g args) w)
    (S Sp : List P3 → Prop) (N : Nat) (w : World) (hN : N ≤ 137438953472) (hseq : SeqStopsK F (n - 1) Tryz.prog g lb (fun x => #[pV x]) (Below w.heap.size) S Sp N w) :
    CallsIn F n Tryz.prog 161 #[.slice none 0 0, .func (.func g) #[] lb] w fun e w' => ∃ (v' : Value) (ss : List P3), e = .returned v' ∧ S ss ∧ Own w' w.heap.size 30 3 v' (pcs ss) ∧ Ext w w' := by
  have h1 : 1 ≤ n := by omega
  refine callsIn_of_wp_marks Tryz.func161 rfl h45 ?_ hro
  simp only [Tryz.ntmps161, List.size_toArray, List.length_cons, List.length_nil, Nat.reduceAdd, Nat.reduceSub, Array.replicate_succ, Array.replicate_zero, List.push_toArray, List.append_toArray, List.nil_append, List.cons_append]
  gi_wp2
  have bS := Boxed.new w 34 (.slice none 0 0)
  have hw0 : Below w.heap.size w (w.alloc (.cells #[.slice none 0 0] 34)) := (Below.refl _ w).alloc (Nat.le_refl _) _
  have hsz : (w.alloc (.cells #[.slice none 0 0] 34)).heap.size = w.heap.size + 1 := by simp
  have hk0 : KeepsFrom 0 w (w.alloc (.cells #[.slice none 0 0] 34)) := (KeepsOthers.alloc _ _).from _
  obtain ⟨W0, hW0⟩ : ∃ W0, w.alloc (.cells #[.slice none 0 0] 34) = W0 := ⟨_, rfl⟩
  rw [hW0] at bS hw0 hsz hk0 ⊢
  clear hW0
  refine wpIn_rangeFunc_ownH hro h1 (gf := g) (lb := lb) rfl hFg eg hseq belowK_t (belowK_b (n₀ := w.heap.size) (by omega)) hw0 (fun _ => rfl)
    (fun pre W => (∃ v', Boxed W w.heap.size 34 v' ∧ Own W w.heap.size 30 3 v' (pcs pre) ∧ (∀ g, v'.ownBlock = some g → (Value.slice none 0 0).ownBlock = some g ∨ w.heap.size ≤ g)) ∧ (Kept (fun b => b < w.heap.size ∧ (Value.slice none 0 0).ownBlock ≠ some b) w W ∧ KeepsFrom 0 w W))
    (fun _ _ _ => False)
    (OwnFrom.and (own_ownFrom w.heap.size w.heap.size 34 30 3 (fun pre => pcs pre) (fun v' => ∀ g, v'.ownBlock = some g → (Value.slice none 0 0).ownBlock = some g ∨ w.heap.size ≤ g) _) (OwnFrom.and (ownFrom_kept (fun b hb => hb.1) (by omega)) (ownFrom_keepsFrom (by omega))))
    (fun _ _ _ _ _ hs _ _ => hs)
    ⟨⟨_, bS, Own.nil _ _ _ _, fun g hg => .inl hg⟩, Below.kept hw0 (fun b hb => hb.1), hk0⟩
    (fun x a' W => ∃ Bx, w.heap.size < Bx ∧ Blk W Bx #[.string x.t, .string x.i, .string x.r] 30 ∧ a' = { tmps := #[.slice none 0 0, .func (.func g) #[] lb, .pointer (some ⟨w.heap.size, 0, none⟩), undef, .slice none 0 0, .pointer (some ⟨Bx, 0, none⟩), .func (.func g) #[] lb, pV x, undef, undef, undef, undef, undef], defers := [] })
    (fun x a' _ X Y row hs hg hr => by obtain ⟨Bx, h1, h2, h3⟩ := hs; exact ⟨Bx, h1, boxed3_kept h2 hg (fun r e => (hr r e).2), h3⟩)
    ?assign ?body ?done ?stop
  case assign =>
    rintro l2 pre ⟨xa, xb, xc⟩ W K ⟨⟨v', bS1, hO1, hG1⟩, hB1, hK1⟩ hK
    dsimp only [pV]
    gi_wp2
    refine hK _ _ ((KeepsOthers.alloc _ _).from _) ((Below.refl _ _).alloc hB1.size _) ⟨⟨v', bS1.alloc _, hO1.below ((Below.refl _ _).alloc (Nat.le_refl _) _), hG1⟩, hB1.alloc (fun b hb => Nat.lt_of_lt_of_le hb.1 hB1.size) _, hK1.trans ((KeepsOthers.alloc _ _).from _)⟩ ⟨W.heap.size, bS1.lt, Blk.made W _ _, rfl⟩
  case body =>
    rintro l2 pre ⟨xa, xb, xc⟩ a' W hl ⟨r, hr⟩ ⟨⟨v', bS1, hO1, hG1⟩, hB1, hK1⟩ ⟨Bx, hBx, bX, rfl⟩ hlt
    have cS := bS1.cell
    have cX := bX.cells
    have hwl := hB1.size
    have hpl : (pcs pre).length = pre.length * 3 := pn_len pre
    have hbb : (pre.length * 3 + 3) * 48 ≤ 140737488355328 := by omega
    gi_wp2_with (first
      | (gi_at_builtin; go_loud (
         refine wpListIn_own pointsT rfl _ _ rfl rfl (hO1.below ((Below.refl _ _).alloc (Nat.le_refl _) _)) (ad := ⟨W.heap.size, 0, none⟩) (m := 1) (c := 1) (news := [.string xa, .string xb, .string xc]) rfl rfl (cells_litV _ _ _ _ _) (by intro u hu; simp only [List.mem_cons, List.not_mem_nil, or_false] at hu; rcases hu with rfl | rfl | rfl <;> rfl) (by simp only [List.length_cons, List.length_nil]; omega) (by simp only [List.length_cons, List.length_nil]; rw [hpl]; exact hbb) (by simp; omega) ?_
         intro v2 w2 hO2 hG2 hg2
         obtain ⟨g2, n2, c2, rfl⟩ : ∃ g2 n2 c2, v2 = .slice (some ⟨g2, 0, none⟩) n2 c2 := by
           rcases hO2.shape with ⟨_, h⟩ | h
           · exact absurd h (by simp)
           · exact h
         have bS2 := (bS1.alloc (.cells #[.string xa, .string xb, .string xc] 30)).kept hg2 (boxed_notOwn (bS1.alloc _) (by decide) (hO1.below ((Below.refl _ _).alloc (Nat.le_refl _) (.cells #[.string xa, .string xb, .string xc] 30))))
         have cS2 := bS2.cell
         have fS2 := bS2.frozen))
      | gi_in)
    have hKa : KeepsFrom 0 W (W.alloc (.cells #[.string xa, .string xb, .string xc] 30)) := (KeepsOthers.alloc _ _).from _
    have hKb := hKa.trans (keeps_own (hO1.below ((Below.refl _ _).alloc (Nat.le_refl _) (.cells #[.string xa, .string xb, .string xc] 30))) hg2 0)
    have hKc : KeepsFrom 0 W (w2.setCell ⟨w.heap.size, 0, none⟩ (.slice (some ⟨g2, 0, none⟩) n2 c2)) := hKb.trans ((KeepsOthers.setCell _ _ _).from _)
    have hlow : Below w.heap.size W (w2.setCell ⟨w.heap.size, 0, none⟩ (.slice (some ⟨g2, 0, none⟩) n2 c2)) := (((Below.refl _ W).alloc hwl _).grown hg2 (by simp; omega) (fun g hg => by
      rcases hG1 g hg with h | h
      · cases h
      · exact h)).setCell (Nat.le_refl _) _
    refine ⟨keeps_up hKc _, hlow, ⟨⟨_, bS2.set _, ?_, fun g hg => ?_⟩, ?_, hK1.trans hKc⟩⟩
    · have := hO2.keepOwn (w' := w2.setCell ⟨w.heap.size, 0, none⟩ (.slice (some ⟨g2, 0, none⟩) n2 c2)) (fun g hg => Below.heap_setCell _ _ _ g (fun e => boxed_notOwn bS2 (by decide) hO2 (by rw [hg, e])))
      rw [pn_app pre, pn_sing]
      exact this
    · rcases hG2 g hg with h | h
      · exact hG1 g h
      · exact .inr (by have := hB1.size; simp at h; omega)
    · have hk2 : Kept (fun b => b < w.heap.size ∧ (Value.slice none 0 0).ownBlock ≠ some b) (W.alloc (.cells #[.string xa, .string xb, .string xc] 30)) w2 := ⟨hg2.os, hg2.tape, hg2.output, hg2.size, fun b hb => hg2.block b (by have := hB1.size; have := hb.1; simp; omega) (fun e => by
        rcases hG1 b e.symm with h | h
        · exact hb.2 h
        · have := hb.1; omega)⟩
      exact ((hB1.alloc (fun b hb => Nat.lt_of_lt_of_le hb.1 hB1.size) _).trans hk2).set (a := ⟨w.heap.size, 0, none⟩) (fun h => Nat.lt_irrefl _ h.1) _
  case done =>
    rintro D ys W hD hS ⟨⟨v', bS1, hO1, _⟩, hB1, hK1⟩ hK
    have cS := bS1.cell
    obtain ⟨ao', k', c', rfl⟩ : ∃ ao k c, v' = .slice ao k c := by
      rcases hO1.shape with ⟨rfl, _⟩ | ⟨g, n, c, rfl⟩
      · exact ⟨_, _, _, rfl⟩
      · exact ⟨_, _, _, rfl⟩
    gi_wp2
    refine ⟨by simp, .inl ⟨_, _, rfl, run_takeDeferred hK, ?_⟩⟩
    refine ⟨_, results_tmp rfl _ _ _, _, ys, rfl, hS, hO1.put _ hK rfl, ⟨hB1.os, hB1.tape, hB1.output, by have := hB1.size; simpa using this, fun b hb => (World.putObj_heap_other (fun e => by omega)).trans (hB1.block b ⟨hb, fun e => by cases e⟩)⟩⟩
  case stop =>
    rintro D c pre W _ _ h _
    exact h.elim
end Go.Proofs.YtjdigpfipmckhaaGreat
