/- The walk of flat's follow. No condition: lemmas. -/
import Derived.Test.YtcbgemnmehoeaaaFlatL
namespace Go.Proofs.Ytcbgemnmehoeaaa
open Go Go.RowKit Go.Maps

theorem ba_size_ne {a : ByteArray} (h : a.size ≠ 0) : a.toList.isEmpty = false := by
  rw [ByteArray.toList_eq]
  cases h' : a.data.toList with
  | nil => exact absurd (by have := congrArg List.length h'; simpa using this) h
  | cons => rfl
theorem ba_size_eq {a : ByteArray} (h : a.size = 0) : a = ⟨#[]⟩ := by
  refine ByteArray.ext (Array.eq_empty_of_size_eq_zero h)

theorem nodup_le {α : Type} [DecidableEq α] : ∀ {l m : List α}, l.Nodup → (∀ x ∈ l, x ∈ m) → l.length ≤ m.length
  | [], _, _, _ => by simp
  | a :: l, m, hn, hs => by
    have hm : a ∈ m := hs a (by simp)
    obtain ⟨h1, h2⟩ := List.nodup_cons.1 hn
    have := nodup_le (m := m.erase a) h2 (fun x hx => (List.mem_erase_of_ne (fun e => h1 (by cases e; exact hx))).2 (hs x (by simp [hx])))
    rw [List.length_erase_of_mem hm] at this
    have := List.length_pos_of_mem hm
    simp only [List.length_cons]
    omega
theorem der_sub {L : List Tup} {x y : P3} (h : Der (· ∈ L) x y) : y ∈ L.map (·.s) := by
  obtain ⟨t, ht, _, rfl⟩ := (der_fwd _ _ _).1 h
  exact List.mem_map.2 ⟨t, ht, rfl⟩
theorem Good.few {L : List Tup} {M U : NL} (h : Good L M U) {x : P3} (hn : (inn M x).Nodup) : (inn M x).length ≤ L.length := by
  have := nodup_le (m := L.map (·.s)) hn (fun y hy => der_sub ((h.mem x y).1 hy))
  simpa using this
theorem mem_few {L : List Tup} {M U M1 : NL} {o s q : P3} (HG : Hid (Good L M U)) (HL : Hid (L.length ≤ 60000)) (HR : Hid (∀ x y, y ∈ inn M1 x ↔ PutR (fun q r => r ∈ inn U q) (fun x y => y ∈ inn M x) o s x y)) (hn : (inn M1 q).Nodup) : (inn M1 q).length ≤ 549755813888 := by
  have h1 := nodup_le (m := s :: L.map (·.s)) hn (fun y hy => by
    rcases (HR.out q y).1 hy with h | ⟨rfl, _⟩
    · exact List.mem_cons_of_mem _ (der_sub ((HG.out.mem q y).1 h))
    · simp)
  have h2 := HL.out
  simp only [List.length_cons, List.length_map] at h1
  omega
theorem own_cells {w : World} {B0 : Nat} {e : TypeId} {ao : Option Addr} {n c : Nat} {l : List P3} (h : Own w B0 e 3 (.slice ao n c) (pcs l)) {i : Nat} (hi : i < l.length) :
    ∃ b, ao = some ⟨b, 0, none⟩ ∧ w.cell? ⟨b, i * 3, none⟩ = some (.string l[i].t) ∧ w.cell? ⟨b, i * 3 + 1, none⟩ = some (.string l[i].i) ∧ w.cell? ⟨b, i * 3 + 2, none⟩ = some (.string l[i].r) := by
  obtain ⟨ao', c', hv, _, _, hcell⟩ := Sl.rows pC_length (by decide) (show Sl _ w 3 (.slice ao n c) (List.flatMap pC l) from h.sl)
  injection hv with e1 e2 e3
  subst e1
  obtain ⟨b, off, rfl, _, hc⟩ := hcell (by omega)
  have hoff : off = 0 := by
    rcases h.shape with ⟨hh, _⟩ | ⟨g, n, c, hh⟩
    · injection hh with hh; cases hh
    · injection hh with hh; cases hh; rfl
  subst hoff
  refine ⟨b, rfl, ?_, ?_, ?_⟩
  · have := hc i hi 0 _ rfl; simpa using this
  · have := hc i hi 1 _ rfl; simpa using this
  · have := hc i hi 2 _ rfl; simpa using this

set_option maxRecDepth 100000 in
set_option maxHeartbeats 4000000 in
theorem follow_any (w : World) (B : Nat) (f : FlS) (t : Tup) (L : List Tup) (hA : FlatAt w B f) (hg : Good L f.M f.U) (hk : TK t) (hL : L.length ≤ 60000) :
    Calls Try.prog 25 #[.pointer (some ⟨B, 0, none⟩), tV t] w fun e w' => e = .returned (.tuple #[]) ∧ ∃ M' U', FlatAt w' B { f with M := M', U := U' } ∧ Good (L ++ [t]) M' U' ∧
      Kept (fun b => b < w.heap.size ∧ b ∉ f.foot) w w' ∧ ∀ x ∈ nB f.bM M' ++ nB f.bU U', x ∈ f.foot ∨ w.heap.size ≤ x := by
  have HA := Lib.hid hA
  have HG := Lib.hid hg
  have HK := Lib.hid hk
  have HL := Lib.hid hL
  clear hA hg hk hL
  obtain ⟨⟨ot, oi, or_⟩, ⟨st, si, sr⟩⟩ := t
  obtain ⟨bT, bM, bU, T, M, U⟩ := f
  obtain ⟨w1, hw1⟩ : ∃ w1, w1 = w.alloc (.cells #[.string ot, .string oi, .string or_, .string st, .string si, .string sr] 32) := ⟨_, rfl⟩
  have hbT := Blk.made w #[.string ot, .string oi, .string or_, .string st, .string si, .string sr] 32
  rw [← hw1] at hbT
  have hs1 : w1.heap.size = w.heap.size + 1 := by rw [hw1]; simp
  have hb1 : Below w.heap.size w w1 := by rw [hw1]; exact (Below.refl _ _).alloc (Nat.le_refl _) _
  have hbT2 := hbT.alloc (.cells #[.string ot, .string oi, .string or_] 37)
  have hbP := Blk.made' (w := w1) (B := w.heap.size + 1) hs1 #[.string ot, .string oi, .string or_] 37
  have hb2 : Below w.heap.size w (w1.alloc (.cells #[.string ot, .string oi, .string or_] 37)) := hb1.alloc (by omega) _
  have hs2 : (w1.alloc (.cells #[.string ot, .string oi, .string or_] 37)).heap.size = w.heap.size + 2 := by simp [hs1]
  have hA2 := HA.out.below hb2
  have HP := Lib.hid (put_any (w1.alloc (.cells #[.string ot, .string oi, .string or_] 37)) B bT bM bU M U ⟨ot, oi, or_⟩ ⟨st, si, sr⟩ hA2.F hA2.M hA2.U hA2.dU HK.out.o HK.out.s (HG.out.closed _ _) (by have := HG.out.tot; have := HL.out; dsimp only at *; omega))
  have HA2 := Lib.hid hA2
  have HS2 := Lib.hid hs2
  have HB2 := Lib.hid hb2
  have ct := hbT.cells
  have ct2 := hbT2.cells
  have cp2 := hbP.cells
  clear hA2 hs2 hs1 hb1 hb2
  unfold tV
  unfold pV at HP
  dsimp only at HP ⊢
  go_enter Try.func25, Try.ntmps25
  go_wp2_with fail
  try rw [← hw1]
  clear hw1 ct ct2 cp2
  refine HP.out.mono ?_
  rintro e w3 ⟨rfl, M1, hn3, hr3, hb3, hk3⟩
  clear HP
  have A3 := HA2.out.setM hn3 hb3 hk3
  have hbT3 := hk3.blk hbT2 ⟨hbT2.lt, HA2.out.M.notBlk hbT2⟩
  have hbP3 := hk3.blk hbP ⟨hbP.lt, HA2.out.M.notBlk hbP⟩
  have ct3 := hbT3.cells
  have HR3 := Lib.hid hr3
  have hK3 : Kept (fun b => b < w.heap.size ∧ b ∉ nB bM M ++ nB bU U) w w3 := (Below.kept HB2.out fun b hb => hb.1).trans (hk3.mono fun b hb => ⟨by have := HS2.out; have := hb.1; omega, fun h => hb.2 (List.mem_append_left _ h)⟩)
  have hF3 : ∀ x ∈ nB bM M1 ++ nB bU U, x ∈ nB bM M ++ nB bU U ∨ w.heap.size ≤ x := fun x hx => by
    rcases List.mem_append.1 hx with hx | hx
    · rcases hb3 x hx with k | k
      · exact .inl (List.mem_append_left _ k)
      · right; have := HS2.out; omega
    · exact .inl (List.mem_append_right _ hx)
  have HK3 := Lib.hid hK3
  have HF3 := Lib.hid hF3
  clear hr3 hn3 hb3 hk3 hbT hbT2 hbP HA2 HB2 hK3 hF3
  by_cases hset : sr.size = 0
  · obtain rfl := ba_size_eq hset
    have HA3 := Lib.hid A3
    clear A3 hset
    go_wp2_with fail
    refine bodyPost_ret (results_none rfl _ _ _) rfl ?_
    exact ⟨rfl, M1, U, HA3.out, HG.out.plain (fun h => h rfl) HR3.out, HK3.out, HF3.out⟩
  have hne := ba_size_ne hset
  have HSET := Lib.hid hset
  have HA3 := Lib.hid A3
  clear hset A3
  go_wp2_with fail
  have hW : FolF w ⟨bT, bM, bU, T, M, U⟩ B ⟨⟨ot, oi, or_⟩, ⟨st, si, sr⟩⟩ (w.heap.size + 1) w3.heap.size (w3.alloc (.cells #[.string st, .string si, .string sr] 37)) ⟨bT, bM, bU, T, M1, U⟩ :=
    ⟨HA3.out.below ((Below.refl _ _).alloc (Nat.le_refl _) _), hbP3.alloc _, Blk.made w3 _ _, HK3.out.alloc (fun b hb => Nat.lt_of_lt_of_le hb.1 HK3.out.size) _, HF3.out⟩
  generalize w3.alloc (.cells #[.string st, .string si, .string sr] 37) = wq at *
  generalize w3.heap.size = qb at *
  clear ct3 hbT3 hbP3 HK3 HF3 HA3 hne w3 w1 HS2
  have hz := Try.zeroValue77
  have hnil := mapP_nil
  have hkq := HK.out.q
  have hko := HK.out.o
  dsimp only at hkq hko
  have HU0 := Lib.hid (show inn U = inn U from rfl)
  obtain ⟨wd, hwd⟩ : ∃ wd, wd = wq.drew := ⟨_, rfl⟩
  have hWd := hW.below (Below.refl _ _).drew
  rw [← hwd] at hWd
  refine region_walkN (Ext wd) (by rw [← hwd]; exact Ext.refl _) (by kernel_rfl) (by kernel_rfl) (fun _ _ d _ _ h => by cases d <;> exact h) ?_
  rw [← hwd]
  clear hwd hW wq
  have h1 : ∀ W, Ext wd W → ∀ i, W.cell? ⟨B, i, none⟩ = (#[.map (some bT), .map (some bM), .map (some bU)] : Array Value)[i]? := fun W h => (hWd.below h).A.F.cells
  have h2 : ∀ W, Ext wd W → ∀ i, W.cell? ⟨qb, i, none⟩ = (#[.string st, .string si, .string sr] : Array Value)[i]? := fun W h => (hWd.below h).Q.cells
  have h3 : ∀ W, Ext wd W → (Instr.lookup 58 (.map (some bU)) (.agg #[.string st, .string si, .string sr]) false).run Try.prog W = .ok (.map (mO U ⟨st, si, sr⟩)) W := fun W h => (hWd.below h).A.U.look Try.underlying58 (hz W) hkq
  rcases hlk : lookA U ⟨st, si, sr⟩ with _ | ⟨bi, us⟩
  case' none =>
    rw [show mO U ⟨st, si, sr⟩ = none from by simp [mO, hlk]] at h3
    have hnil := hnil none
    rw [show (none : Option Nat).isNone = true from rfl] at hnil
    ((refine WalkN.take 0 _ ?_ (by simp only [List.getElem?_toArray, List.getElem?_cons_zero]; rfl) (by kernel_rfl) (by kernel_rfl) (by rfl) (fun W hW => ?_) ?_; rotate_left; · (go_simp; try with_reducible rfl)); simp only [Act.put, List.setIfInBounds_toArray, List.set_cons_zero, List.set_cons_succ]); ((refine WalkN.take 1 _ ?_ (by simp only [List.getElem?_toArray, List.getElem?_cons_succ, List.getElem?_cons_zero]; rfl) (by kernel_rfl) (by kernel_rfl) (by rfl) (fun W hW => ?_) ?_; rotate_left; · (go_simp; try with_reducible rfl)); simp only [Act.put, List.setIfInBounds_toArray, List.set_cons_zero, List.set_cons_succ]); ((refine WalkN.take 2 _ ?_ (by simp only [List.getElem?_toArray, List.getElem?_cons_succ, List.getElem?_cons_zero]; rfl) (by kernel_rfl) (by kernel_rfl) (by rfl) (fun W hW => ?_) ?_; rotate_left; · (go_simp; try with_reducible rfl)); simp only [Act.put, List.setIfInBounds_toArray, List.set_cons_zero, List.set_cons_succ]); ((refine WalkN.take 3 _ ?_ (by simp only [List.getElem?_toArray, List.getElem?_cons_succ, List.getElem?_cons_zero]; rfl) (by kernel_rfl) (by kernel_rfl) (by rfl) (fun W hW => ?_) ?_; rotate_left; · (go_simp; try with_reducible rfl)); simp only [Act.put, List.setIfInBounds_toArray, List.set_cons_zero, List.set_cons_succ]); ((refine WalkN.take 4 _ ?_ (by simp only [List.getElem?_toArray, List.getElem?_cons_succ, List.getElem?_cons_zero]; rfl) (by kernel_rfl) (by kernel_rfl) (by rfl) (fun W hW => ?_) ?_; rotate_left; · (go_simp; try with_reducible rfl)); simp only [Act.put, List.setIfInBounds_toArray, List.set_cons_zero, List.set_cons_succ]); ((refine WalkN.take 5 _ ?_ (by simp only [List.getElem?_toArray, List.getElem?_cons_succ, List.getElem?_cons_zero]; rfl) (by kernel_rfl) (by kernel_rfl) (by rfl) (fun W hW => ?_) ?_; rotate_left; · (go_simp; try with_reducible rfl)); simp only [Act.put, List.setIfInBounds_toArray, List.set_cons_zero, List.set_cons_succ]); ((refine WalkN.take 6 _ ?_ (by simp only [List.getElem?_toArray, List.getElem?_cons_succ, List.getElem?_cons_zero]; rfl) (by kernel_rfl) (by kernel_rfl) (by rfl) (fun W hW => ?_) ?_; rotate_left; · (go_simp; try with_reducible rfl)); simp only [Act.put, List.setIfInBounds_toArray, List.set_cons_zero, List.set_cons_succ])
    refine WalkN.done (by kernel_rfl) ?_
    clear h1 h2 h3 hnil
    go_wp2_with fail
    obtain ⟨we, hwe⟩ : ∃ we, we = wd.drew := ⟨_, rfl⟩
    have hWe := hWd.below (Below.refl _ _).drew
    rw [← hwe] at hWe
    refine region_walkN (fun W => Kept (fun x => x < we.heap.size ∧ x ≠ bU) we W) (by rw [← hwe]; exact Kept.refl _ _) (by kernel_rfl) (by kernel_rfl) (fun _ _ d _ _ h => by cases d <;> exact h) ?_
    rw [← hwe]
    clear hwe hWd
    have h1 : ∀ W, Kept (fun x => x < we.heap.size ∧ x ≠ bU) we W → ∀ i, W.cell? ⟨B, i, none⟩ = (#[.map (some bT), .map (some bM), .map (some bU)] : Array Value)[i]? := fun W h => (h.blk hWe.A.F ⟨hWe.A.F.lt, fun e => hWe.A.U.notBlk hWe.A.F (by simp [nB, e])⟩).cells
    have h2 : ∀ W, Kept (fun x => x < we.heap.size ∧ x ≠ bU) we W → ∀ i, W.cell? ⟨qb, i, none⟩ = (#[.string st, .string si, .string sr] : Array Value)[i]? := fun W h => (h.blk hWe.Q ⟨hWe.Q.lt, fun e => hWe.A.U.notBlk hWe.Q (by simp [nB, e])⟩).cells
    ((refine WalkN.take 0 _ ?_ (by simp only [List.getElem?_toArray, List.getElem?_cons_zero]; rfl) (by kernel_rfl) (by kernel_rfl) (by rfl) (fun W hW => ?_) ?_; rotate_left; · (go_simp; try with_reducible rfl)); simp only [Act.put, List.setIfInBounds_toArray, List.set_cons_zero, List.set_cons_succ]); ((refine WalkN.take 1 _ ?_ (by simp only [List.getElem?_toArray, List.getElem?_cons_succ, List.getElem?_cons_zero]; rfl) (by kernel_rfl) (by kernel_rfl) (by rfl) (fun W hW => ?_) ?_; rotate_left; · (go_simp; try with_reducible rfl)); simp only [Act.put, List.setIfInBounds_toArray, List.set_cons_zero, List.set_cons_succ]); ((refine WalkN.take 2 _ ?_ (by simp only [List.getElem?_toArray, List.getElem?_cons_succ, List.getElem?_cons_zero]; rfl) (by kernel_rfl) (by kernel_rfl) (by rfl) (fun W hW => ?_) ?_; rotate_left; · (go_simp; try with_reducible rfl)); simp only [Act.put, List.setIfInBounds_toArray, List.set_cons_zero, List.set_cons_succ]); ((refine WalkN.take 3 _ ?_ (by simp only [List.getElem?_toArray, List.getElem?_cons_succ, List.getElem?_cons_zero]; rfl) (by kernel_rfl) (by kernel_rfl) (by rfl) (fun W hW => ?_) ?_; rotate_left; · (go_simp; try with_reducible rfl)); simp only [Act.put, List.setIfInBounds_toArray, List.set_cons_zero, List.set_cons_succ]); ((refine WalkN.take 4 _ ?_ (by simp only [List.getElem?_toArray, List.getElem?_cons_succ, List.getElem?_cons_zero]; rfl) (by kernel_rfl) (by kernel_rfl) (by rfl) (fun W hW => ?_) ?_; rotate_left; · (go_simp; try with_reducible rfl)); simp only [Act.put, List.setIfInBounds_toArray, List.set_cons_zero, List.set_cons_succ])
    clear h1 h2
    have hmm := @run_makeMap Try.prog
    refine WalkN.one 5 (by kernel_rfl) ?_
    refine ⟨_, (by simp only [List.getElem?_toArray, List.getElem?_cons_succ, List.getElem?_cons_zero]; rfl), by rfl, fun K hK => ?_⟩
    go_simp
    refine hK.out _ _ ((Kept.refl _ _).alloc (fun b hb => hb.1) _) ?_
    clear hK
    refine WalkN.one 6 (by kernel_rfl) ?_
    refine ⟨_, (by simp only [List.getElem?_toArray, List.getElem?_cons_succ, List.getElem?_cons_zero]; rfl), by rfl, fun K hK => ?_⟩
    have hWf := hWe.below ((Below.refl _ _).alloc (Nat.le_refl _) (.map #[] 0))
    have hnew : we.heap.size ∉ nB bU U := fun h => Nat.lt_irrefl _ (hWe.A.U.lt _ h)
    have hmade : Mp Try.prog 37 pV bV (we.alloc (.map #[] 0)) we.heap.size (bl []) := Mp.made we
    have hszf : (we.alloc (.map #[] 0)).heap.size = we.heap.size + 1 := by simp
    refine wp_mp_store (kv := pV) (ev := nV) _ _ _ 58 rfl pointK pV_inj Try.underlying58 rfl hWf.A.U.top (y := ⟨st, si, sr⟩) rfl hkq (u := (we.heap.size, [])) rfl ?_
    intro wA hm5 ht5
    refine hK.out _ _ (((Kept.refl _ _).alloc (fun b hb => hb.1) _).trans (ht5.kept.mono fun b hb => hb.2)) ?_
    clear hK
    simp only [Act.put]
    refine WalkN.done (by kernel_rfl) ?_
    obtain ⟨UA, bi, us, hWA, hlA, HIU, HTU⟩ : ∃ UA bi us, FolF w ⟨bT, bM, bU, T, M, U⟩ B ⟨⟨ot, oi, or_⟩, ⟨st, si, sr⟩⟩ (w.heap.size + 1) qb wA ⟨bT, bM, bU, T, M1, UA⟩ ∧ lookA UA ⟨st, si, sr⟩ = some (bi, us) ∧ Hid (∀ x, inn UA x = inn U x) ∧ Hid (totN UA = totN U) := by
      have hfb := fresh_blocks (b := bU) (bn := we.heap.size) hlk
      have hst := hWe.setU (wy := wA) (U' := putA U ⟨st, si, sr⟩ (we.heap.size, [])) (hWf.A.U.fresh hlk hmade hnew ht5 hm5) (fun x hx => by
        rcases hfb x hx with h | h
        · exact .inl h
        · exact .inr (Nat.le_of_eq h.symm)) (((Kept.refl _ _).alloc (fun b hb => hb.1) _).trans (ht5.kept.mono fun b hb e => hb.2 (by simp [nB, e])))
      refine ⟨_, we.heap.size, [], hst, by rw [look_put]; simp, Lib.hid (fun x => ?_), Lib.hid (by rw [tot_put_new _ _ hlk]; rfl)⟩
      rw [inn_put]
      split
      · rename_i e; rw [← e, inn_none hlk]
      · rfl
    clear hm5 ht5 hmade hnew hWf hWe hlk hmm hszf
    go_wp2_with fail
  case' some =>
    rw [show mO U ⟨st, si, sr⟩ = some bi from by simp [mO, hlk]] at h3
    have hnil := hnil (some bi)
    rw [show (some bi : Option Nat).isNone = false from rfl] at hnil
    ((refine WalkN.take 0 _ ?_ (by simp only [List.getElem?_toArray, List.getElem?_cons_zero]; rfl) (by kernel_rfl) (by kernel_rfl) (by rfl) (fun W hW => ?_) ?_; rotate_left; · (go_simp; try with_reducible rfl)); simp only [Act.put, List.setIfInBounds_toArray, List.set_cons_zero, List.set_cons_succ]); ((refine WalkN.take 1 _ ?_ (by simp only [List.getElem?_toArray, List.getElem?_cons_succ, List.getElem?_cons_zero]; rfl) (by kernel_rfl) (by kernel_rfl) (by rfl) (fun W hW => ?_) ?_; rotate_left; · (go_simp; try with_reducible rfl)); simp only [Act.put, List.setIfInBounds_toArray, List.set_cons_zero, List.set_cons_succ]); ((refine WalkN.take 2 _ ?_ (by simp only [List.getElem?_toArray, List.getElem?_cons_succ, List.getElem?_cons_zero]; rfl) (by kernel_rfl) (by kernel_rfl) (by rfl) (fun W hW => ?_) ?_; rotate_left; · (go_simp; try with_reducible rfl)); simp only [Act.put, List.setIfInBounds_toArray, List.set_cons_zero, List.set_cons_succ]); ((refine WalkN.take 3 _ ?_ (by simp only [List.getElem?_toArray, List.getElem?_cons_succ, List.getElem?_cons_zero]; rfl) (by kernel_rfl) (by kernel_rfl) (by rfl) (fun W hW => ?_) ?_; rotate_left; · (go_simp; try with_reducible rfl)); simp only [Act.put, List.setIfInBounds_toArray, List.set_cons_zero, List.set_cons_succ]); ((refine WalkN.take 4 _ ?_ (by simp only [List.getElem?_toArray, List.getElem?_cons_succ, List.getElem?_cons_zero]; rfl) (by kernel_rfl) (by kernel_rfl) (by rfl) (fun W hW => ?_) ?_; rotate_left; · (go_simp; try with_reducible rfl)); simp only [Act.put, List.setIfInBounds_toArray, List.set_cons_zero, List.set_cons_succ]); ((refine WalkN.take 5 _ ?_ (by simp only [List.getElem?_toArray, List.getElem?_cons_succ, List.getElem?_cons_zero]; rfl) (by kernel_rfl) (by kernel_rfl) (by rfl) (fun W hW => ?_) ?_; rotate_left; · (go_simp; try with_reducible rfl)); simp only [Act.put, List.setIfInBounds_toArray, List.set_cons_zero, List.set_cons_succ]); ((refine WalkN.take 6 _ ?_ (by simp only [List.getElem?_toArray, List.getElem?_cons_succ, List.getElem?_cons_zero]; rfl) (by kernel_rfl) (by kernel_rfl) (by rfl) (fun W hW => ?_) ?_; rotate_left; · (go_simp; try with_reducible rfl)); simp only [Act.put, List.setIfInBounds_toArray, List.set_cons_zero, List.set_cons_succ])
    refine WalkN.done (by kernel_rfl) ?_
    clear h1 h2 h3 hnil
    obtain ⟨wA, rfl⟩ : ∃ wA, wA = wd := ⟨_, rfl⟩
    obtain ⟨UA, hUA⟩ : ∃ UA, UA = U := ⟨_, rfl⟩
    have hlA : lookA UA ⟨st, si, sr⟩ = some (bi, us) := by rw [hUA]; exact hlk
    have hWA : FolF w ⟨bT, bM, bU, T, M, U⟩ B ⟨⟨ot, oi, or_⟩, ⟨st, si, sr⟩⟩ (w.heap.size + 1) qb wA ⟨bT, bM, bU, T, M1, UA⟩ := by rw [hUA]; exact hWd
    have HIU := Lib.hid (show ∀ x, inn UA x = inn U x from fun x => by rw [hUA])
    have HTU := Lib.hid (show totN UA = totN U from by rw [hUA])
    clear hlk hWd hUA
    go_wp2_with fail
  all_goals
    have hmem := look_mem hlA
    obtain ⟨wf, hwf⟩ : ∃ wf, wf = wA.drew := ⟨_, rfl⟩
    have hWf := hWA.below (Below.refl _ _).drew
    rw [← hwf] at hWf
    have hbm : bi ∈ nB bU UA := List.mem_cons_of_mem _ (List.mem_map.2 ⟨_, hmem, rfl⟩)
    refine region_walkN (fun W => Kept (fun x => x < wf.heap.size ∧ x ≠ bi) wf W) (by rw [← hwf]; exact Kept.refl _ _) (by kernel_rfl) (by kernel_rfl) (fun _ _ d _ _ h => by cases d <;> exact h) ?_
    rw [← hwf]
    clear hwf hWA
    have hFne : B ≠ bi := fun e => hWf.A.U.notBlk hWf.A.F (e ▸ hbm)
    have hQne : qb ≠ bi := fun e => hWf.A.U.notBlk hWf.Q (e ▸ hbm)
    have hPne : w.heap.size + 1 ≠ bi := fun e => hWf.A.U.notBlk hWf.P (e ▸ hbm)
    have hMne : bU ≠ bi := fun e => by
      have := (List.nodup_cons.1 hWf.A.U.apart).1
      exact this (e ▸ List.mem_map.2 ⟨_, hmem, rfl⟩)
    have h1 : ∀ W, Kept (fun x => x < wf.heap.size ∧ x ≠ bi) wf W → ∀ i, W.cell? ⟨B, i, none⟩ = (#[.map (some bT), .map (some bM), .map (some bU)] : Array Value)[i]? := fun W h => (h.blk hWf.A.F ⟨hWf.A.F.lt, hFne⟩).cells
    have h2 : ∀ W, Kept (fun x => x < wf.heap.size ∧ x ≠ bi) wf W → ∀ i, W.cell? ⟨qb, i, none⟩ = (#[.string st, .string si, .string sr] : Array Value)[i]? := fun W h => (h.blk hWf.Q ⟨hWf.Q.lt, hQne⟩).cells
    have h2s : ∀ W, Kept (fun x => x < wf.heap.size ∧ x ≠ bi) wf W → ∀ i, W.cell? ⟨w.heap.size + 1, i, none⟩ = (#[.string ot, .string oi, .string or_] : Array Value)[i]? := fun W h => (h.blk hWf.P ⟨hWf.P.lt, hPne⟩).cells
    have h3 : ∀ W, Kept (fun x => x < wf.heap.size ∧ x ≠ bi) wf W → (Instr.lookup 58 (.map (some bU)) (.agg #[.string st, .string si, .string sr]) false).run Try.prog W = .ok (.map (some bi)) W := fun W h => by
      have := (hWf.A.U.top.same (h.block bU ⟨hWf.A.U.top.lt, hMne⟩)).look pointK pV_inj Try.underlying58 (hz W) false hkq
      rw [hlA] at this
      exact this
    ((refine WalkN.take 0 _ ?_ (by simp only [List.getElem?_toArray, List.getElem?_cons_zero]; rfl) (by kernel_rfl) (by kernel_rfl) (by rfl) (fun W hW => ?_) ?_; rotate_left; · (go_simp; try with_reducible rfl)); simp only [Act.put, List.setIfInBounds_toArray, List.set_cons_zero, List.set_cons_succ]); ((refine WalkN.take 1 _ ?_ (by simp only [List.getElem?_toArray, List.getElem?_cons_succ, List.getElem?_cons_zero]; rfl) (by kernel_rfl) (by kernel_rfl) (by rfl) (fun W hW => ?_) ?_; rotate_left; · (go_simp; try with_reducible rfl)); simp only [Act.put, List.setIfInBounds_toArray, List.set_cons_zero, List.set_cons_succ]); ((refine WalkN.take 2 _ ?_ (by simp only [List.getElem?_toArray, List.getElem?_cons_succ, List.getElem?_cons_zero]; rfl) (by kernel_rfl) (by kernel_rfl) (by rfl) (fun W hW => ?_) ?_; rotate_left; · (go_simp; try with_reducible rfl)); simp only [Act.put, List.setIfInBounds_toArray, List.set_cons_zero, List.set_cons_succ]); ((refine WalkN.take 3 _ ?_ (by simp only [List.getElem?_toArray, List.getElem?_cons_succ, List.getElem?_cons_zero]; rfl) (by kernel_rfl) (by kernel_rfl) (by rfl) (fun W hW => ?_) ?_; rotate_left; · (go_simp; try with_reducible rfl)); simp only [Act.put, List.setIfInBounds_toArray, List.set_cons_zero, List.set_cons_succ]); ((refine WalkN.take 4 _ ?_ (by simp only [List.getElem?_toArray, List.getElem?_cons_succ, List.getElem?_cons_zero]; rfl) (by kernel_rfl) (by kernel_rfl) (by rfl) (fun W hW => ?_) ?_; rotate_left; · (go_simp; try with_reducible rfl)); simp only [Act.put, List.setIfInBounds_toArray, List.set_cons_zero, List.set_cons_succ]); ((refine WalkN.take 5 _ ?_ (by simp only [List.getElem?_toArray, List.getElem?_cons_succ, List.getElem?_cons_zero]; rfl) (by kernel_rfl) (by kernel_rfl) (by rfl) (fun W hW => ?_) ?_; rotate_left; · (go_simp; try with_reducible rfl)); simp only [Act.put, List.setIfInBounds_toArray, List.set_cons_zero, List.set_cons_succ]); ((refine WalkN.take 6 _ ?_ (by simp only [List.getElem?_toArray, List.getElem?_cons_succ, List.getElem?_cons_zero]; rfl) (by kernel_rfl) (by kernel_rfl) (by rfl) (fun W hW => ?_) ?_; rotate_left; · (go_simp; try with_reducible rfl)); simp only [Act.put, List.setIfInBounds_toArray, List.set_cons_zero, List.set_cons_succ])
    clear h1 h2 h2s h3
    refine WalkN.one 7 (by kernel_rfl) ?_
    refine ⟨_, (by simp only [List.getElem?_toArray, List.getElem?_cons_succ, List.getElem?_cons_zero]; rfl), by rfl, fun K hK => ?_⟩
    refine wp_mp_store (kv := pV) (ev := bV) _ _ _ 77 rfl pointK pV_inj Try.underlying77 rfl (hWf.A.U.inner _ hmem) (y := ⟨ot, oi, or_⟩) rfl hko (u := true) rfl ?_
    intro wg hm7 ht7
    refine hK.out _ _ (ht7.kept.mono fun b hb => hb.2) ?_
    clear hK
    simp only [Act.put]
    refine WalkN.done (by kernel_rfl) ?_
    dsimp only at hm7
    rw [addU_bl] at hm7
    obtain ⟨U', hWg, HU', HT'⟩ : ∃ U', FolF w ⟨bT, bM, bU, T, M, U⟩ B ⟨⟨ot, oi, or_⟩, ⟨st, si, sr⟩⟩ (w.heap.size + 1) qb wg ⟨bT, bM, bU, T, M1, U'⟩ ∧ Hid (∀ q p, p ∈ inn U' q ↔ p ∈ inn U q ∨ (q = ⟨st, si, sr⟩ ∧ p = ⟨ot, oi, or_⟩)) ∧ Hid (totN U' ≤ totN U + 1) := by
      refine ⟨putA UA ⟨st, si, sr⟩ (bi, addU us ⟨ot, oi, or_⟩), hWf.setU (hWf.A.U.mark hlA ht7 hm7) (fun x hx => .inl (by rw [mark_blocks hlA] at hx; exact hx)) (ht7.kept.mono fun b hb e => hb.2 (e ▸ hbm)), Lib.hid (fun q p => ?_), Lib.hid ?_⟩
      · rw [inn_put]
        by_cases hq : (⟨st, si, sr⟩ : P3) = q
        · subst hq
          rw [if_pos rfl, addU_mem, ← HIU.out, inn_some hlA]
          simp
        · rw [if_neg hq, HIU.out]
          simp [Ne.symm hq]
      · have h1 := tot_put bi (addU us ⟨ot, oi, or_⟩) hlA
        have h2 := addU_length us ⟨ot, oi, or_⟩
        have h3 := HTU.out
        dsimp only at h1
        omega
    clear hWf hFne hQne hPne hMne ht7 hm7 hbm hmem HIU HTU hlA
    go_wp2_with fail
    have hzs := Try.zeroValue63
    obtain ⟨wh, hwh⟩ : ∃ wh, wh = wg.drew := ⟨_, rfl⟩
    have hWh := hWg.below (Below.refl _ _).drew
    rw [← hwh] at hWh
    refine region_walkN (Ext wh) (by rw [← hwh]; exact Ext.refl _) (by kernel_rfl) (by kernel_rfl) (fun _ _ d _ _ h => by cases d <;> exact h) ?_
    rw [← hwh]
    clear hwh hWg
    have h1 : ∀ W, Ext wh W → ∀ i, W.cell? ⟨B, i, none⟩ = (#[.map (some bT), .map (some bM), .map (some bU)] : Array Value)[i]? := fun W h => (hWh.below h).A.F.cells
    have h2 : ∀ W, Ext wh W → ∀ i, W.cell? ⟨qb, i, none⟩ = (#[.string st, .string si, .string sr] : Array Value)[i]? := fun W h => (hWh.below h).Q.cells
    have h3 : ∀ W, Ext wh W → (Instr.lookup 57 (.map (some bM)) (.agg #[.string st, .string si, .string sr]) false).run Try.prog W = .ok (.map (mO M1 ⟨st, si, sr⟩)) W := fun W h => (hWh.below h).A.M.look Try.underlying57 (hzs W) hkq
    ((refine WalkN.take 0 _ ?_ (by simp only [List.getElem?_toArray, List.getElem?_cons_zero]; rfl) (by kernel_rfl) (by kernel_rfl) (by rfl) (fun W hW => ?_) ?_; rotate_left; · (go_simp; try with_reducible rfl)); simp only [Act.put, List.setIfInBounds_toArray, List.set_cons_zero, List.set_cons_succ]); ((refine WalkN.take 1 _ ?_ (by simp only [List.getElem?_toArray, List.getElem?_cons_succ, List.getElem?_cons_zero]; rfl) (by kernel_rfl) (by kernel_rfl) (by rfl) (fun W hW => ?_) ?_; rotate_left; · (go_simp; try with_reducible rfl)); simp only [Act.put, List.setIfInBounds_toArray, List.set_cons_zero, List.set_cons_succ]); ((refine WalkN.take 2 _ ?_ (by simp only [List.getElem?_toArray, List.getElem?_cons_succ, List.getElem?_cons_zero]; rfl) (by kernel_rfl) (by kernel_rfl) (by rfl) (fun W hW => ?_) ?_; rotate_left; · (go_simp; try with_reducible rfl)); simp only [Act.put, List.setIfInBounds_toArray, List.set_cons_zero, List.set_cons_succ]); ((refine WalkN.take 3 _ ?_ (by simp only [List.getElem?_toArray, List.getElem?_cons_succ, List.getElem?_cons_zero]; rfl) (by kernel_rfl) (by kernel_rfl) (by rfl) (fun W hW => ?_) ?_; rotate_left; · (go_simp; try with_reducible rfl)); simp only [Act.put, List.setIfInBounds_toArray, List.set_cons_zero, List.set_cons_succ]); ((refine WalkN.take 4 _ ?_ (by simp only [List.getElem?_toArray, List.getElem?_cons_succ, List.getElem?_cons_zero]; rfl) (by kernel_rfl) (by kernel_rfl) (by rfl) (fun W hW => ?_) ?_; rotate_left; · (go_simp; try with_reducible rfl)); simp only [Act.put, List.setIfInBounds_toArray, List.set_cons_zero, List.set_cons_succ]); ((refine WalkN.take 5 _ ?_ (by simp only [List.getElem?_toArray, List.getElem?_cons_succ, List.getElem?_cons_zero]; rfl) (by kernel_rfl) (by kernel_rfl) (by rfl) (fun W hW => ?_) ?_; rotate_left; · (go_simp; try with_reducible rfl)); simp only [Act.put, List.setIfInBounds_toArray, List.set_cons_zero, List.set_cons_succ]); ((refine WalkN.take 9 _ ?_ (by simp only [List.getElem?_toArray, List.getElem?_cons_succ, List.getElem?_cons_zero]; rfl) (by kernel_rfl) (by kernel_rfl) (by rfl) (fun W hW => ?_) ?_; rotate_left; · (go_simp; try with_reducible rfl)); simp only [Act.put, List.setIfInBounds_toArray, List.set_cons_zero, List.set_cons_succ])
    clear h1 h2 h3
    have HKY := Lib.hid (keysS_any (mO M1 ⟨st, si, sr⟩) wh)
    have hWi := hWh.below ((Below.refl _ _).alloc (Nat.le_refl _) (.cells #[.map (mO M1 ⟨st, si, sr⟩)] 63))
    have hml : (inn M1 ⟨st, si, sr⟩).length ≤ 549755813888 := mem_few HG HL HR3 (hWh.A.M.nodupAt _)
    have HC := Lib.hid (collectS_any (wh.alloc (.cells #[.map (mO M1 ⟨st, si, sr⟩)] 63)) wh.heap.size (mO M1 ⟨st, si, sr⟩) (bl (inn M1 ⟨st, si, sr⟩)) (by rw [List.length_map]; exact hml) (by simp) (Blk.made wh #[.map (mO M1 ⟨st, si, sr⟩)] 63 |>.cells 0) (hWi.A.M.inn ⟨st, si, sr⟩))
    have hE1 : Ext wh (wh.alloc (.cells #[.map (mO M1 ⟨st, si, sr⟩)] 63)) := Ext.alloc _ _
    refine WalkN.one 6 (by kernel_rfl) ?_
    refine ⟨_, (by simp only [List.getElem?_toArray, List.getElem?_cons_succ, List.getElem?_cons_zero]; rfl), by rfl, fun K hK => ?_⟩
    go_simp
    refine HKY.out.mono ?_
    rintro e w7 ⟨rfl, rfl⟩
    refine hK.out _ _ hE1 ?_
    clear hK HKY
    refine WalkN.one 7 (by kernel_rfl) ?_
    refine ⟨_, (by simp only [List.getElem?_toArray, List.getElem?_cons_succ, List.getElem?_cons_zero]; rfl), by rfl, fun K hK => ?_⟩
    go_simp
    refine HC.out.mono ?_
    rintro e w8 ⟨v', ss, rfl, hp8, ho8, hb8⟩
    refine hK.out _ _ (hE1.trans hb8) ?_
    clear hK HC
    have hWj := hWi.below hb8
    rw [bl_keys] at hp8
    obtain ⟨ao, c, rfl, hlc, hcm, -⟩ := Sl.rows pC_length (by decide) (show Sl _ w8 3 v' (List.flatMap pC ss) from ho8.sl)
    ((refine WalkN.take 8 _ ?_ (by simp only [List.getElem?_toArray, List.getElem?_cons_succ, List.getElem?_cons_zero]; rfl) (by kernel_rfl) (by kernel_rfl) (by rfl) (fun W hW => ?_) ?_; rotate_left; · (go_simp; try with_reducible rfl)); simp only [Act.put, List.setIfInBounds_toArray, List.set_cons_zero, List.set_cons_succ])
    refine WalkN.done (by kernel_rfl) ?_
    have HND := Lib.hid (hp8.nodup_iff.2 (hWh.A.M.nodupAt ⟨st, si, sr⟩))
    have HKS := Lib.hid (show ∀ x ∈ ss, KeyS x from fun x hx => hWh.A.M.keyedS _ x (hp8.mem_iff.1 hx))
    have HSS := Lib.hid (show ∀ y, y ∈ ss ↔ y ∈ inn M1 ⟨st, si, sr⟩ from fun y => hp8.mem_iff)
    have hls : ss.length ≤ 549755813888 := by rw [hp8.length_eq]; exact hml
    have HWJ := Lib.hid hWj
    have HO8 := Lib.hid ho8
    generalize (wh.alloc (.cells #[.map (mO M1 ⟨st, si, sr⟩)] 63)).heap.size = n0 at *
    clear hp8 ho8 hb8 hE1 hWi hWh hWj hml
    go_wp2_with fail
    go_loopw [53] (fun ii wr => ∃ (i : Nat) (Mi : NL), i ≤ ss.length ∧ ii = .int .i64 i ∧ FolF w ⟨bT, bM, bU, T, M, U⟩ B ⟨⟨ot, oi, or_⟩, ⟨st, si, sr⟩⟩ (w.heap.size + 1) qb wr ⟨bT, bM, bU, T, Mi, U'⟩ ∧ FolI L ⟨⟨ot, oi, or_⟩, ⟨st, si, sr⟩⟩ M1 U' (ss.take i) Mi ∧ Own wr n0 30 3 (.slice ao ss.length c) (pcs ss)) (fun ii _ => ss.length - (intOf ii).toNat)
    case atStart => exact ⟨0, M1, by omega, rfl, HWJ.out, FolI.first _ _ _ _, HO8.out⟩
    case round =>
      obtain ⟨i, Mi, hi, rfl, hWr, hfi, hOr⟩ := hrel
      have HFI := Lib.hid hfi
      clear hfi HWJ HO8
      by_cases hlt : i < ss.length
      · obtain ⟨gb, rfl, c0, c1, c2⟩ := own_cells hOr hlt
        have hxk := HKS.out _ (List.getElem_mem hlt)
        have htk : ss.take (i + 1) = ss.take i ++ [ss[i]] := List.take_succ_eq_append_getElem hlt
        have hxn : ss[i] ∉ ss.take i := fun h => by
          obtain ⟨j, hj, hje⟩ := List.getElem_of_mem h
          have hj' : j < i := by rw [List.length_take] at hj; omega
          rw [List.getElem_take] at hje
          exact (List.pairwise_iff_getElem.1 HND.out) j i (by omega) hlt hj' hje
        have HTK := Lib.hid htk
        have HXN := Lib.hid hxn
        clear htk hxn
        generalize ss[i] = x at *
        obtain ⟨xt, xi, xr⟩ := x
        dsimp only at c0 c1 c2
        have hWs := hWr.below ((Below.refl _ _).alloc (Nat.le_refl _) (.cells #[.string xt, .string xi, .string xr] 30))
        have hOs := hOr.below ((Below.refl _ _).alloc (Nat.le_refl _) (.cells #[.string xt, .string xi, .string xr] 30))
        have HP := Lib.hid (put_any (wr.alloc (.cells #[.string xt, .string xi, .string xr] 30)) B bT bM bU Mi U' ⟨ot, oi, or_⟩ ⟨xt, xi, xr⟩ hWs.A.F hWs.A.M hWs.A.U hWs.A.dU HK.out.o hxk (HFI.out.closed HG.out HR3.out HU'.out HXN.out) (by have := HG.out.tot; have := HL.out; have := HT'.out; omega))
        have cP := (hWr.P.alloc (.cells #[.string xt, .string xi, .string xr] 30)).cells
        have cP0 := hWr.P.cells
        unfold pV at HP
        dsimp only at HP cP cP0
        have HWS := Lib.hid hWs
        have HOS := Lib.hid hOs
        clear hWs hOs hWr hOr
        go_wp2_with fail
        refine HP.out.mono ?_
        rintro e w9 ⟨rfl, Mj, hn9, hr9, hb9, hk9⟩
        have HWT := Lib.hid (HWS.out.setM hn9 hb9 hk9)
        have HOT := Lib.hid (HOS.out.keepOwn (w' := w9) fun g hg => hk9.block g ⟨(HOS.out.block g hg).2, fun hy => HWS.out.A.M.notOwn HOS.out g hy hg⟩)
        have HFJ := Lib.hid (HFI.out.next hr9)
        clear HP hn9 hr9 hb9 hk9 HWS HOS cP cP0
        go_wp2_with fail
        go_roundw
        case rel => exact ⟨i + 1, Mj, by omega, by go_num, HWT.out, by rw [HTK.out]; exact HFJ.out, HOT.out⟩
        case measure => simp [intOf]; omega
      · obtain rfl : i = ss.length := by omega
        rw [List.take_length] at HFI
        have HWR := Lib.hid hWr
        clear hOr hWr
        go_wp2_with fail
        go_end0
        exact ⟨rfl, Mi, U', HWR.out.A, HFI.out.last HG.out (fun h => HSET.out h) HR3.out HU'.out HSS.out HT'.out, HWR.out.K, HWR.out.foot⟩

end Go.Proofs.Ytcbgemnmehoeaaa
