/- The walk of flat's Drop. No condition: lemmas. -/
import Derived.Test.YtcbgemnmehoeaaaFlatQ
namespace Go.Proofs.Ytcbgemnmehoeaaa
open Go Go.RowKit Go.Maps

theorem wp_mp_drop {P : Program} {w : World} {o : Oper} {a : Act} {Kx : Act → World → Prop} {Q : Exit → Act → World → Prop} {κ α : Type} {kv : κ → Value} {ev : α → Value} {b : Nat} {l : List (κ × α)} [DecidableEq κ] (m x : Operand) (t k : TypeId) (hop : o.op = Op.call { callee := Callee.builtin Builtin.delete, args := #[m, x], argTypes := #[t, k] }) {e : TypeId} (K : Keyed P k) (inj : ∀ a b, kv a = kv b → a = b) (ht : P.underlying t = some (.map k e))
    (hm : a.eval m = .map (some b)) (h : Mp P k kv ev w b l) {y : κ} (hx : a.eval x = kv y) (hk : ∃ q, keyOf P k (kv y) = some q)
    (hK : ∀ w', Mp P k kv ev w' b (delA l y) → Turned w w' b → Kx (a.put o.dst (.tuple #[])) w') : o.wp P a w Kx Q := by
  obtain ⟨w', hrun, h1, h2⟩ := h.drop (ty := o.type) K inj ht hk
  unfold Oper.wp
  simp [execOp, hop, resolve, invoke, builtin, hm, hx, hrun, Result.andThen]
  exact hK w' h1 h2
theorem Mp.clear {P : Program} {k t e : TypeId} {κ α : Type} {kv : κ → Value} {ev : α → Value} {w : World} {b : Nat} {l : List (κ × α)} (h : Mp P k kv ev w b l) (ht : P.underlying t = some (.map k e)) (ty : TypeId) :
    ∃ w', (Builtin.clear_ #[t] ty #[.map (some b)]).run P w = .ok (.tuple #[]) w' ∧ Mp P k kv ev w' b ([] : List (κ × α)) ∧ Turned w w' b := by
  obtain ⟨es, clock, hb, hs, hm, hok⟩ := h
  refine ⟨Go.ChangeMaps.setBlock w b (.map #[] clock), ?_, ⟨_, _, setBlock_at hb, ⟨by simp, by simp, by simp⟩, rfl, by simp⟩, _, rfl⟩
  simp [Builtin.clear_, run_underlying ht, MapKept.run_getObj_map hb, MapKept.run_setObj_map _ hb, Result.andThen, Go.ChangeMaps.setBlock]
theorem Rng.notFoot {κ α : Type} {k : TypeId} {kv : κ → Value} {ev : α → Value} {w : World} {b r : Nat} {l rem : List (κ × α)} (h : Rng Try.prog k kv ev w b r l rem) {B : Nat} {f : FlS} (hA : FlatAt w B f) : ∀ x ∈ footB B f, x ≠ r := by
  obtain ⟨es, clock, since, seen, c0, _, _, _, _, hr, _⟩ := h
  rintro x hx rfl
  rcases List.mem_cons.1 hx with rfl | hx
  · rw [show w.heap[x]? = _ from hA.F] at hr
    cases hr
  · obtain ⟨es, c, hm⟩ := hA.isMap x hx
    rw [hm] at hr
    cases hr

/-- What Drop answers. -/
def dropN (T : List Tup) (t : Tup) : Int := if t ∈ T then 0 else 4

theorem FlatAt.clearM {w w' : World} {B : Nat} {f : FlS} (h : FlatAt w B f) (hm : Mp Try.prog 37 pV nV w' f.bM ([] : NL)) (ht : Turned w w' f.bM) : FlatAt w' B { f with M := [] } :=
  h.setM ⟨hm, by simp, by simp⟩ (fun x hx => .inl (by simp [nB] at hx ⊢; exact .inl hx)) (ht.kept.mono fun b hb e => hb.2 (by simp [nB, e]))
theorem FlatAt.clearU {w w' : World} {B : Nat} {f : FlS} (h : FlatAt w B f) (hm : Mp Try.prog 37 pV nV w' f.bU ([] : NL)) (ht : Turned w w' f.bU) : FlatAt w' B { f with U := [] } :=
  h.setU ⟨hm, by simp, by simp⟩ (fun x hx => .inl (by simp [nB] at hx ⊢; exact .inl hx)) (ht.kept.mono fun b hb e => hb.2 (by simp [nB, e]))

set_option maxRecDepth 100000 in
set_option maxHeartbeats 3000000 in
theorem drop_any (w : World) (B : Nat) (f : FlS) (t : Tup) (h : FlatG w B f) (hok : t.Ok) :
    Calls Try.prog 14 #[.pointer (some ⟨B, 0, none⟩), tV t] w fun e w' => e = .returned (.int .i64 (dropN f.T t)) ∧ ∃ f', FlatG w' B f' ∧ f'.T = f.T.erase t ∧
      Kept (fun b => b < w.heap.size ∧ b ∉ footB B f) w w' ∧ ∀ x ∈ footB B f', x ∈ footB B f ∨ w.heap.size ≤ x := by
  have HG := Lib.hid h
  have HTK := Lib.hid (TK.of_ok hok)
  clear h hok
  obtain ⟨⟨ot, oi, or_⟩, ⟨st, si, sr⟩⟩ := t
  have hzb := Try.zeroValue4
  have hkt := HTK.out.t
  unfold tV at hkt ⊢
  dsimp only at hkt ⊢
  have hB0 := Blk.made w #[.string ot, .string oi, .string or_, .string st, .string si, .string sr] 32
  have hb0 : Below w.heap.size w (w.alloc (.cells #[.string ot, .string oi, .string or_, .string st, .string si, .string sr] 32)) := (Below.refl _ _).alloc (Nat.le_refl _) _
  go_enter Try.func14, Try.ntmps14
  go_wp2_with fail
  obtain ⟨wd, hwd⟩ : ∃ wd, wd = (w.alloc (.cells #[.string ot, .string oi, .string or_, .string st, .string si, .string sr] 32)).drew := ⟨_, rfl⟩
  have hBd := hB0.drew
  have hb3 := hb0.drew
  rw [← hwd] at hBd hb3
  have hGd := HG.out.below hb3
  refine region_walkN (Ext wd) (by rw [← hwd]; exact Ext.refl _) (by kernel_rfl) (by kernel_rfl) (fun _ _ d _ _ h => by cases d <;> exact h) ?_
  rw [← hwd]
  clear hwd hB0 hb0
  have h1 : ∀ W, Ext wd W → ∀ i, W.cell? ⟨B, i, none⟩ = (#[.map (some f.bT), .map (some f.bM), .map (some f.bU)] : Array Value)[i]? := fun W h => (hGd.below h).at_.F.cells
  have h2 : ∀ W, Ext wd W → ∀ i, W.cell? ⟨w.heap.size, i, none⟩ = (#[.string ot, .string oi, .string or_, .string st, .string si, .string sr] : Array Value)[i]? := fun W h => (hBd.below h).cells
  have h3 : ∀ W, Ext wd W → (Instr.lookup 56 (.map (some f.bT)) (.agg #[.string ot, .string oi, .string or_, .string st, .string si, .string sr]) false).run Try.prog W = .ok (.bool (decide ((⟨⟨ot, oi, or_⟩, ⟨st, si, sr⟩⟩ : Tup) ∈ f.T))) W := fun W h => by
    have := (hGd.below h).at_.T.look tupleK tV_inj Try.underlying56 (hzb W) false (a := ⟨⟨ot, oi, or_⟩, ⟨st, si, sr⟩⟩) hkt
    rw [look_tl] at this
    by_cases hin : (⟨⟨ot, oi, or_⟩, ⟨st, si, sr⟩⟩ : Tup) ∈ f.T
    · rw [decide_eq_true hin]; rw [if_pos hin] at this; exact this
    · rw [decide_eq_false hin]; rw [if_neg hin] at this; exact this
  by_cases hin : (⟨⟨ot, oi, or_⟩, ⟨st, si, sr⟩⟩ : Tup) ∈ f.T
  rotate_left
  · rw [decide_eq_false hin] at h3
    ((refine WalkN.take 0 _ ?_ (by simp only [List.getElem?_toArray, List.getElem?_cons_zero]; rfl) (by kernel_rfl) (by kernel_rfl) (by rfl) (fun W hW => ?_) ?_; rotate_left; · (go_simp; try with_reducible rfl)); simp only [Act.put, List.setIfInBounds_toArray, List.set_cons_zero, List.set_cons_succ]); ((refine WalkN.take 1 _ ?_ (by simp only [List.getElem?_toArray, List.getElem?_cons_succ, List.getElem?_cons_zero]; rfl) (by kernel_rfl) (by kernel_rfl) (by rfl) (fun W hW => ?_) ?_; rotate_left; · (go_simp; try with_reducible rfl)); simp only [Act.put, List.setIfInBounds_toArray, List.set_cons_zero, List.set_cons_succ]); ((refine WalkN.take 2 _ ?_ (by simp only [List.getElem?_toArray, List.getElem?_cons_succ, List.getElem?_cons_zero]; rfl) (by kernel_rfl) (by kernel_rfl) (by rfl) (fun W hW => ?_) ?_; rotate_left; · (go_simp; try with_reducible rfl)); simp only [Act.put, List.setIfInBounds_toArray, List.set_cons_zero, List.set_cons_succ]); ((refine WalkN.take 3 _ ?_ (by simp only [List.getElem?_toArray, List.getElem?_cons_succ, List.getElem?_cons_zero]; rfl) (by kernel_rfl) (by kernel_rfl) (by rfl) (fun W hW => ?_) ?_; rotate_left; · (go_simp; try with_reducible rfl)); simp only [Act.put, List.setIfInBounds_toArray, List.set_cons_zero, List.set_cons_succ]); ((refine WalkN.take 4 _ ?_ (by simp only [List.getElem?_toArray, List.getElem?_cons_succ, List.getElem?_cons_zero]; rfl) (by kernel_rfl) (by kernel_rfl) (by rfl) (fun W hW => ?_) ?_; rotate_left; · (go_simp; try with_reducible rfl)); simp only [Act.put, List.setIfInBounds_toArray, List.set_cons_zero, List.set_cons_succ]); ((refine WalkN.take 5 _ ?_ (by simp only [List.getElem?_toArray, List.getElem?_cons_succ, List.getElem?_cons_zero]; rfl) (by kernel_rfl) (by kernel_rfl) (by rfl) (fun W hW => ?_) ?_; rotate_left; · (go_simp; try with_reducible rfl)); simp only [Act.put, List.setIfInBounds_toArray, List.set_cons_zero, List.set_cons_succ]); ((refine WalkN.take 6 _ ?_ (by simp only [List.getElem?_toArray, List.getElem?_cons_succ, List.getElem?_cons_zero]; rfl) (by kernel_rfl) (by kernel_rfl) (by rfl) (fun W hW => ?_) ?_; rotate_left; · (go_simp; try with_reducible rfl)); simp only [Act.put, List.setIfInBounds_toArray, List.set_cons_zero, List.set_cons_succ]); ((refine WalkN.take 7 _ ?_ (by simp only [List.getElem?_toArray, List.getElem?_cons_succ, List.getElem?_cons_zero]; rfl) (by kernel_rfl) (by kernel_rfl) (by rfl) (fun W hW => ?_) ?_; rotate_left; · (go_simp; try with_reducible rfl)); simp only [Act.put, List.setIfInBounds_toArray, List.set_cons_zero, List.set_cons_succ])
    refine WalkN.done (by kernel_rfl) ?_
    have HIN := Lib.hid hin
    have HB3 := Lib.hid hb3
    clear h1 h2 h3 hin hb3
    go_wp2_with fail
    go_ret
    exact ⟨congrArg (fun n => Ending.returned (.int .i64 n)) (show (4 : Int) = dropN f.T _ from by simp [dropN, HIN.out]), f, hGd, (List.erase_of_not_mem HIN.out).symm, Below.kept HB3.out fun b hb => hb.1, fun x hx => .inl hx⟩
  rw [decide_eq_true hin] at h3
  ((refine WalkN.take 0 _ ?_ (by simp only [List.getElem?_toArray, List.getElem?_cons_zero]; rfl) (by kernel_rfl) (by kernel_rfl) (by rfl) (fun W hW => ?_) ?_; rotate_left; · (go_simp; try with_reducible rfl)); simp only [Act.put, List.setIfInBounds_toArray, List.set_cons_zero, List.set_cons_succ]); ((refine WalkN.take 1 _ ?_ (by simp only [List.getElem?_toArray, List.getElem?_cons_succ, List.getElem?_cons_zero]; rfl) (by kernel_rfl) (by kernel_rfl) (by rfl) (fun W hW => ?_) ?_; rotate_left; · (go_simp; try with_reducible rfl)); simp only [Act.put, List.setIfInBounds_toArray, List.set_cons_zero, List.set_cons_succ]); ((refine WalkN.take 2 _ ?_ (by simp only [List.getElem?_toArray, List.getElem?_cons_succ, List.getElem?_cons_zero]; rfl) (by kernel_rfl) (by kernel_rfl) (by rfl) (fun W hW => ?_) ?_; rotate_left; · (go_simp; try with_reducible rfl)); simp only [Act.put, List.setIfInBounds_toArray, List.set_cons_zero, List.set_cons_succ]); ((refine WalkN.take 3 _ ?_ (by simp only [List.getElem?_toArray, List.getElem?_cons_succ, List.getElem?_cons_zero]; rfl) (by kernel_rfl) (by kernel_rfl) (by rfl) (fun W hW => ?_) ?_; rotate_left; · (go_simp; try with_reducible rfl)); simp only [Act.put, List.setIfInBounds_toArray, List.set_cons_zero, List.set_cons_succ]); ((refine WalkN.take 4 _ ?_ (by simp only [List.getElem?_toArray, List.getElem?_cons_succ, List.getElem?_cons_zero]; rfl) (by kernel_rfl) (by kernel_rfl) (by rfl) (fun W hW => ?_) ?_; rotate_left; · (go_simp; try with_reducible rfl)); simp only [Act.put, List.setIfInBounds_toArray, List.set_cons_zero, List.set_cons_succ]); ((refine WalkN.take 5 _ ?_ (by simp only [List.getElem?_toArray, List.getElem?_cons_succ, List.getElem?_cons_zero]; rfl) (by kernel_rfl) (by kernel_rfl) (by rfl) (fun W hW => ?_) ?_; rotate_left; · (go_simp; try with_reducible rfl)); simp only [Act.put, List.setIfInBounds_toArray, List.set_cons_zero, List.set_cons_succ]); ((refine WalkN.take 6 _ ?_ (by simp only [List.getElem?_toArray, List.getElem?_cons_succ, List.getElem?_cons_zero]; rfl) (by kernel_rfl) (by kernel_rfl) (by rfl) (fun W hW => ?_) ?_; rotate_left; · (go_simp; try with_reducible rfl)); simp only [Act.put, List.setIfInBounds_toArray, List.set_cons_zero, List.set_cons_succ]); ((refine WalkN.take 7 _ ?_ (by simp only [List.getElem?_toArray, List.getElem?_cons_succ, List.getElem?_cons_zero]; rfl) (by kernel_rfl) (by kernel_rfl) (by rfl) (fun W hW => ?_) ?_; rotate_left; · (go_simp; try with_reducible rfl)); simp only [Act.put, List.setIfInBounds_toArray, List.set_cons_zero, List.set_cons_succ])
  refine WalkN.done (by kernel_rfl) ?_
  have HIN := Lib.hid hin
  have HB3 := Lib.hid hb3
  clear h1 h2 h3 hin hb3
  go_wp2_with fail
  obtain ⟨we, hwe⟩ : ∃ we, we = wd.drew := ⟨_, rfl⟩
  have hGe := hGd.below (Below.refl _ _).drew
  have hBe := hBd.drew
  have hb4 := HB3.out.drew
  rw [← hwe] at hGe hBe hb4
  refine region_walkN (fun W => Kept (fun x => x < we.heap.size ∧ x ≠ f.bT) we W) (by rw [← hwe]; exact Kept.refl _ _) (by kernel_rfl) (by kernel_rfl) (fun _ _ d _ _ h => by cases d <;> exact h) ?_
  rw [← hwe]
  clear hwe HB3 hGd hBd
  have hBne : w.heap.size ≠ f.bT := fun e => hGe.at_.notBlk hBe (by simp [e])
  have h1 : ∀ W, Kept (fun x => x < we.heap.size ∧ x ≠ f.bT) we W → ∀ i, W.cell? ⟨B, i, none⟩ = (#[.map (some f.bT), .map (some f.bM), .map (some f.bU)] : Array Value)[i]? := fun W h => (h.blk hGe.at_.F ⟨hGe.at_.F.lt, fun e => hGe.at_.notBlk hGe.at_.F (by simp [e])⟩).cells
  have h2 : ∀ W, Kept (fun x => x < we.heap.size ∧ x ≠ f.bT) we W → ∀ i, W.cell? ⟨w.heap.size, i, none⟩ = (#[.string ot, .string oi, .string or_, .string st, .string si, .string sr] : Array Value)[i]? := fun W h => (h.blk hBe ⟨hBe.lt, hBne⟩).cells
  ((refine WalkN.take 0 _ ?_ (by simp only [List.getElem?_toArray, List.getElem?_cons_zero]; rfl) (by kernel_rfl) (by kernel_rfl) (by rfl) (fun W hW => ?_) ?_; rotate_left; · (go_simp; try with_reducible rfl)); simp only [Act.put, List.setIfInBounds_toArray, List.set_cons_zero, List.set_cons_succ]); ((refine WalkN.take 1 _ ?_ (by simp only [List.getElem?_toArray, List.getElem?_cons_succ, List.getElem?_cons_zero]; rfl) (by kernel_rfl) (by kernel_rfl) (by rfl) (fun W hW => ?_) ?_; rotate_left; · (go_simp; try with_reducible rfl)); simp only [Act.put, List.setIfInBounds_toArray, List.set_cons_zero, List.set_cons_succ]); ((refine WalkN.take 2 _ ?_ (by simp only [List.getElem?_toArray, List.getElem?_cons_succ, List.getElem?_cons_zero]; rfl) (by kernel_rfl) (by kernel_rfl) (by rfl) (fun W hW => ?_) ?_; rotate_left; · (go_simp; try with_reducible rfl)); simp only [Act.put, List.setIfInBounds_toArray, List.set_cons_zero, List.set_cons_succ]); ((refine WalkN.take 3 _ ?_ (by simp only [List.getElem?_toArray, List.getElem?_cons_succ, List.getElem?_cons_zero]; rfl) (by kernel_rfl) (by kernel_rfl) (by rfl) (fun W hW => ?_) ?_; rotate_left; · (go_simp; try with_reducible rfl)); simp only [Act.put, List.setIfInBounds_toArray, List.set_cons_zero, List.set_cons_succ]); ((refine WalkN.take 4 _ ?_ (by simp only [List.getElem?_toArray, List.getElem?_cons_succ, List.getElem?_cons_zero]; rfl) (by kernel_rfl) (by kernel_rfl) (by rfl) (fun W hW => ?_) ?_; rotate_left; · (go_simp; try with_reducible rfl)); simp only [Act.put, List.setIfInBounds_toArray, List.set_cons_zero, List.set_cons_succ])
  clear h1 h2
  refine WalkN.one 5 (by kernel_rfl) ?_
  refine ⟨_, (by simp only [List.getElem?_toArray, List.getElem?_cons_succ, List.getElem?_cons_zero]; rfl), by rfl, fun K hK => ?_⟩
  refine wp_mp_drop (kv := tV) (ev := bV) _ _ 56 32 rfl tupleK tV_inj Try.underlying56 rfl hGe.at_.T (y := ⟨⟨ot, oi, or_⟩, ⟨st, si, sr⟩⟩) rfl hkt ?_
  intro wg hm7 ht7
  refine hK.out _ _ (ht7.kept.mono fun b hb => hb.2) ?_
  clear hK
  simp only [Act.put]
  refine WalkN.done (by kernel_rfl) ?_
  rw [del_tl] at hm7
  have hAg := hGe.at_.setT hm7 ht7
  have hkg : Kept (fun b => b < w.heap.size ∧ b ∉ footB B f) w wg := (Below.kept hb4 fun b hb => hb.1).trans (ht7.kept.mono fun b hb e => hb.2 (by simp [footB, e]))
  obtain ⟨wi, hr8, hm8, ht8⟩ := hAg.M.top.clear Try.underlying57 0
  have hAi := hAg.clearM hm8 ht8
  obtain ⟨wj, hr9, hm9, ht9⟩ := hAi.U.top.clear Try.underlying58 0
  have hAj := hAi.clearU hm9 ht9
  have cg := hAg.F.cells
  have ci := hAi.F.cells
  have cj := hAj.F.cells
  have hkj : Kept (fun b => b < w.heap.size ∧ b ∉ footB B f) w wj := (hkg.trans (ht8.kept.mono fun b hb e => hb.2 (by simp [footB, FlS.foot, nB, e]))).trans (ht9.kept.mono fun b hb e => hb.2 (by simp [footB, FlS.foot, nB, e]))
  have hMT := hAj.T
  have HAJ := Lib.hid hAj
  have HKJ := Lib.hid hkj
  have HND := Lib.hid hGe.nodup
  have HGL := Lib.hid hGe.len
  have HKY := Lib.hid hGe.keys
  dsimp only at cg ci cj hMT hr8 hr9
  clear hm7 ht7 hGe hBe hb4 hBne hAg hkg hm8 ht8 hAi hm9 ht9 hAj hkj
  go_wp2_with (at_range; go_must (refine wpList_mp_range _ rfl _ 56 rfl Try.underlying56 rfl hMT ?_); intro wR hRg hbR hszR)
  try go_frame
  have HRG0 := Lib.hid hRg
  have HBR := Lib.hid hbR
  have hwj : wj.heap.size = wj.heap.size := rfl
  clear hr8 hr9 cg ci cj hMT hRg hbR hszR hwj
  obtain ⟨nR, hnR⟩ : ∃ nR, nR = wj.heap.size := ⟨_, rfl⟩
  rw [← hnR] at HRG0 ⊢
  have HNL := Lib.hid (show w.heap.size ≤ nR from by rw [hnR]; exact HKJ.out.size)
  clear hnR
  go_loopw [41] (fun _ wr => ∃ (done : List Tup) (rem : List (Tup × Bool)) (M U : NL), (done ++ rem.map (·.1)).Perm (f.T.erase ⟨⟨ot, oi, or_⟩, ⟨st, si, sr⟩⟩) ∧ Rng Try.prog 32 tV bV wr f.bT nR (tl (f.T.erase ⟨⟨ot, oi, or_⟩, ⟨st, si, sr⟩⟩)) rem ∧
    FlatAt wr B ⟨f.bT, f.bM, f.bU, f.T.erase ⟨⟨ot, oi, or_⟩, ⟨st, si, sr⟩⟩, M, U⟩ ∧ Good done M U ∧ Kept (fun b => b < w.heap.size ∧ b ∉ footB B f) w wr ∧ ∀ x ∈ nB f.bM M ++ nB f.bU U, x ∈ f.foot ∨ w.heap.size ≤ x) (fun _ wr => wr.rangeLeft f.bT nR)
  case atStart =>
    refine ⟨[], tl (f.T.erase ⟨⟨ot, oi, or_⟩, ⟨st, si, sr⟩⟩), [], [], ?_, HRG0.out, HAJ.out.below HBR.out, Good.nil, HKJ.out.trans (Below.kept HBR.out fun b hb => Nat.lt_of_lt_of_le hb.1 HKJ.out.size), fun x hx => ?_⟩
    · rw [show (tl (f.T.erase ⟨⟨ot, oi, or_⟩, ⟨st, si, sr⟩⟩)).map (·.1) = f.T.erase ⟨⟨ot, oi, or_⟩, ⟨st, si, sr⟩⟩ from by simp [tl, Function.comp_def]]
      exact List.Perm.refl _
    · left
      simp only [FlS.foot, nB, List.map_nil, List.mem_append, List.mem_cons, List.not_mem_nil, or_false] at hx ⊢
      rcases hx with h | h
      · exact .inl (.inl h)
      · exact .inr (.inl h)
  case round =>
    obtain ⟨done, rem, M, U, hperm, hRg, hA, hG, hk, hf⟩ := hrel
    have HPR := Lib.hid hperm
    have HA := Lib.hid hA
    have HGD := Lib.hid hG
    have HK := Lib.hid hk
    have HF := Lib.hid hf
    clear hperm HRG0 HBR hA hG hk hf HAJ HKJ
    go_wp2_with (at_next; go_must (refine wpList_mp_next _ rfl _ rfl rfl hRg ?_ ?_))
    · intro hrem
      subst hrem
      rw [List.map_nil, List.append_nil] at HPR
      clear hRg
      go_wp2_with fail
      go_ret
      refine ⟨congrArg (fun n => Ending.returned (.int .i64 n)) (show (0 : Int) = dropN f.T _ from by simp [dropN, HIN.out]), _, ⟨HA.out, HGD.out.congr (fun t => HPR.out.mem_iff) HPR.out.length_eq, fun t ht => HKY.out t (List.mem_of_mem_erase ht), ?_⟩, rfl, HK.out, fun x hx => ?_⟩
      · have := List.length_erase_le (a := (⟨⟨ot, oi, or_⟩, ⟨st, si, sr⟩⟩ : Tup)) (l := f.T)
        have := HGL.out
        dsimp only
        omega
      · simp only [footB, List.mem_cons] at hx ⊢
        rcases hx with hx | hx | hx
        · exact .inl (.inl hx)
        · exact .inl (.inr (.inl hx))
        · rcases HF.out x hx with k | k
          · exact .inl (.inr (.inr k))
          · exact .inr k
    · rintro pre ⟨⟨at_, ai, ar⟩, ⟨ct, ci, cr⟩⟩
      refine ⟨?_, ?_⟩
      all_goals
        rintro post w2 hrem hRg2 hk2 hs2 hen
        have hum : (⟨⟨at_, ai, ar⟩, ⟨ct, ci, cr⟩⟩ : Tup) ∈ f.T.erase ⟨⟨ot, oi, or_⟩, ⟨st, si, sr⟩⟩ := HPR.out.mem_iff.1 (by rw [hrem]; simp)
        have HTU := Lib.hid (HKY.out _ (List.mem_of_mem_erase hum))
        have hA2 := HA.out.same (w' := w2) fun x hx => hk2.block x (hRg.notFoot HA.out x hx)
        have hA3 := hA2.below ((Below.refl _ _).alloc (Nat.le_refl _) (.cells #[.string at_, .string ai, .string ar, .string ct, .string ci, .string cr] 32))
        have hRg3 := hRg2.below ((Below.refl _ _).alloc (Nat.le_refl _) (.cells #[.string at_, .string ai, .string ar, .string ct, .string ci, .string cr] 32))
        have hdl : done.length ≤ 50000 := by
          have h1 := HPR.out.length_eq
          have h2 := List.length_erase_le (a := (⟨⟨ot, oi, or_⟩, ⟨st, si, sr⟩⟩ : Tup)) (l := f.T)
          have h3 := HGL.out
          rw [List.length_append] at h1
          omega
        have HFO := Lib.hid (follow_any (w2.alloc (.cells #[.string at_, .string ai, .string ar, .string ct, .string ci, .string cr] 32)) B ⟨f.bT, f.bM, f.bU, f.T.erase ⟨⟨ot, oi, or_⟩, ⟨st, si, sr⟩⟩, M, U⟩ ⟨⟨at_, ai, ar⟩, ⟨ct, ci, cr⟩⟩ done hA3 HGD.out HTU.out (by omega))
        have hK3 : Kept (fun b => b < w.heap.size ∧ b ∉ footB B f) w (w2.alloc (.cells #[.string at_, .string ai, .string ar, .string ct, .string ci, .string cr] 32)) := (HK.out.trans (hk2.mono fun b hb => by have := hb.1; have := HK.out.size; have := HNL.out; omega)).alloc (fun b hb => by have := hb.1; have := HK.out.size; omega) _
        have HPN := Lib.hid (show ((done ++ ([⟨⟨at_, ai, ar⟩, ⟨ct, ci, cr⟩⟩] : List Tup)) ++ (pre ++ post).map (·.1)).Perm (f.T.erase ⟨⟨ot, oi, or_⟩, ⟨st, si, sr⟩⟩) from by
          refine List.Perm.trans ?_ HPR.out
          rw [hrem, List.append_assoc]
          simp only [List.map_append, List.map_cons]
          exact List.Perm.append_left done (by simpa using List.perm_middle.symm))
        have HREM := Lib.hid hrem
        have HRG := Lib.hid hRg
        have HRG3 := Lib.hid hRg3
        have HA3 := Lib.hid hA3
        have HK3 := Lib.hid hK3
        have cX := (Blk.made w2 #[.string at_, .string ai, .string ar, .string ct, .string ci, .string cr] 32).cells
        unfold tV at HFO hen
        dsimp only [bV] at HFO hen
        clear hrem hRg2 hk2 hs2 hum hA2 hA3 hRg3 hdl hK3 hRg
        go_wp2_with fail
        refine HFO.out.mono ?_
        rintro e w4 ⟨rfl, M', U', hA4, hG4, hk4, hf4⟩
        have hrg4 := HRG3.out.same (w' := w4) (hk4.block _ ⟨HRG3.out.mp.lt, HA3.out.dT⟩) (hk4.block _ ⟨HRG3.out.lt, fun hx => HRG3.out.notFoot HA3.out _ (List.mem_cons_of_mem _ (List.mem_cons_of_mem _ hx)) rfl⟩)
        have HRG4 := Lib.hid hrg4
        have HA4 := Lib.hid hA4
        have HG4 := Lib.hid hG4
        have HK4 := Lib.hid (HK3.out.trans (hk4.mono fun b hb => ⟨Nat.lt_of_lt_of_le hb.1 HK3.out.size, fun hx => by
          rcases HF.out b hx with k | k
          · exact hb.2 (by simp only [footB]; exact List.mem_cons_of_mem _ (List.mem_cons_of_mem _ k))
          · exact absurd hb.1 (Nat.not_lt.2 k)⟩))
        have HF4 := Lib.hid (show ∀ x ∈ nB f.bM M' ++ nB f.bU U', x ∈ f.foot ∨ w.heap.size ≤ x from fun x hx => by
          rcases hf4 x hx with k | k
          · exact HF.out x k
          · exact .inr (Nat.le_trans HK3.out.size k))
        clear HFO hA4 hG4 hk4 hf4 hrg4 cX hen
        go_wp2_with fail
        go_roundw
        case rel => exact ⟨done ++ [⟨⟨at_, ai, ar⟩, ⟨ct, ci, cr⟩⟩], pre ++ post, M', U', HPN.out, HRG4.out, HA4.out, HG4.out, HK4.out, HF4.out⟩
        case measure => rw [HRG4.out.left_eq, HRG.out.left_eq, HREM.out]; simp

end Go.Proofs.Ytcbgemnmehoeaaa
