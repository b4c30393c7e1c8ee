/- The walks of flat's Has, Members, Len, Points. No condition: lemmas. -/
import Derived.Test.YtcbgemnmehoeaaaFlatO
namespace Go.Proofs.Ytcbgemnmehoeaaa
open Go Go.RowKit Go.Maps

set_option maxRecDepth 100000 in
set_option maxHeartbeats 2000000 in
theorem has_any (w : World) (B : Nat) (f : FlS) (p s : P3) (h : FlatAt w B f) (hp : KeyP p) (hs : KeyS s) :
    Calls Try.prog 12 #[.pointer (some ⟨B, 0, none⟩), pV p, pV s] w fun e w' => e = .returned (.bool (decide (s ∈ inn f.M p))) ∧ Below w.heap.size w w' := by
  have HA := Lib.hid h
  clear h
  obtain ⟨pt, pi, pr⟩ := p
  obtain ⟨st, si, sr⟩ := s
  have hbP := (Blk.made w #[.string pt, .string pi, .string pr] 37).alloc (.cells #[.string st, .string si, .string sr] 30)
  have hbS := Blk.made' (w := w.alloc (.cells #[.string pt, .string pi, .string pr] 37)) (B := w.heap.size + 1) (by simp) #[.string st, .string si, .string sr] 30
  have hb2 : Below w.heap.size w ((w.alloc (.cells #[.string pt, .string pi, .string pr] 37)).alloc (.cells #[.string st, .string si, .string sr] 30)) := ((Below.refl _ _).alloc (Nat.le_refl _) _).alloc (by simp) _
  have hzs := Try.zeroValue63
  have hzb := Try.zeroValue4
  unfold pV
  dsimp only
  go_enter Try.func12, Try.ntmps12
  go_wp2_with fail
  obtain ⟨wd, hwd⟩ : ∃ wd, wd = ((w.alloc (.cells #[.string pt, .string pi, .string pr] 37)).alloc (.cells #[.string st, .string si, .string sr] 30)).drew := ⟨_, rfl⟩
  have hbPd := hbP.drew
  have hbSd := hbS.drew
  have hbd := hb2.drew
  rw [← hwd] at hbPd hbSd hbd
  have hAd := HA.out.below hbd
  refine region_walkN (Ext wd) (by rw [← hwd]; exact Ext.refl _) (by kernel_rfl) (by kernel_rfl) (fun _ _ d _ _ h => by cases d <;> exact h) ?_
  rw [← hwd]
  clear hwd hbP hbS hb2
  have h1 : ∀ W, Ext wd W → ∀ i, W.cell? ⟨B, i, none⟩ = (#[.map (some f.bT), .map (some f.bM), .map (some f.bU)] : Array Value)[i]? := fun W h => (hAd.below h).F.cells
  have h2 : ∀ W, Ext wd W → ∀ i, W.cell? ⟨w.heap.size, i, none⟩ = (#[.string pt, .string pi, .string pr] : Array Value)[i]? := fun W h => (hbPd.below h).cells
  have h2s : ∀ W, Ext wd W → ∀ i, W.cell? ⟨w.heap.size + 1, i, none⟩ = (#[.string st, .string si, .string sr] : Array Value)[i]? := fun W h => (hbSd.below h).cells
  have h3 : ∀ W, Ext wd W → (Instr.lookup 57 (.map (some f.bM)) (.agg #[.string pt, .string pi, .string pr]) false).run Try.prog W = .ok (.map (mO f.M ⟨pt, pi, pr⟩)) W := fun W h => (hAd.below h).M.look Try.underlying57 (hzs W) hp
  have h4 : ∀ W, Ext wd W → (Instr.lookup 63 (.map (mO f.M ⟨pt, pi, pr⟩)) (.agg #[.string st, .string si, .string sr]) false).run Try.prog W = .ok (.bool (decide ((⟨st, si, sr⟩ : P3) ∈ inn f.M ⟨pt, pi, pr⟩))) W := fun W h => by
    have := ((hAd.below h).M.inn ⟨pt, pi, pr⟩).look subK pV_inj Try.underlying63 (hzb W) hs
    rw [look_bl] at this
    by_cases hin : (⟨st, si, sr⟩ : P3) ∈ inn f.M ⟨pt, pi, pr⟩
    · rw [decide_eq_true hin]; rw [if_pos hin] at this; exact this
    · rw [decide_eq_false hin]; rw [if_neg hin] at this; exact this
  obtain ⟨b, hb⟩ : ∃ b, b = decide ((⟨st, si, sr⟩ : P3) ∈ inn f.M ⟨pt, pi, pr⟩) := ⟨_, rfl⟩
  rw [← hb] at h4
  have HB := Lib.hid hb
  clear hb
  ((refine WalkN.take 0 _ ?_ (by simp only [List.getElem?_toArray, List.getElem?_cons_zero]; rfl) (by kernel_rfl) (by kernel_rfl) (by rfl) (fun W hW => ?_) ?_; rotate_left; · (go_simp; try with_reducible rfl)); simp only [Act.put, List.setIfInBounds_toArray, List.set_cons_zero, List.set_cons_succ]); ((refine WalkN.take 1 _ ?_ (by simp only [List.getElem?_toArray, List.getElem?_cons_succ, List.getElem?_cons_zero]; rfl) (by kernel_rfl) (by kernel_rfl) (by rfl) (fun W hW => ?_) ?_; rotate_left; · (go_simp; try with_reducible rfl)); simp only [Act.put, List.setIfInBounds_toArray, List.set_cons_zero, List.set_cons_succ]); ((refine WalkN.take 2 _ ?_ (by simp only [List.getElem?_toArray, List.getElem?_cons_succ, List.getElem?_cons_zero]; rfl) (by kernel_rfl) (by kernel_rfl) (by rfl) (fun W hW => ?_) ?_; rotate_left; · (go_simp; try with_reducible rfl)); simp only [Act.put, List.setIfInBounds_toArray, List.set_cons_zero, List.set_cons_succ]); ((refine WalkN.take 3 _ ?_ (by simp only [List.getElem?_toArray, List.getElem?_cons_succ, List.getElem?_cons_zero]; rfl) (by kernel_rfl) (by kernel_rfl) (by rfl) (fun W hW => ?_) ?_; rotate_left; · (go_simp; try with_reducible rfl)); simp only [Act.put, List.setIfInBounds_toArray, List.set_cons_zero, List.set_cons_succ]); ((refine WalkN.take 4 _ ?_ (by simp only [List.getElem?_toArray, List.getElem?_cons_succ, List.getElem?_cons_zero]; rfl) (by kernel_rfl) (by kernel_rfl) (by rfl) (fun W hW => ?_) ?_; rotate_left; · (go_simp; try with_reducible rfl)); simp only [Act.put, List.setIfInBounds_toArray, List.set_cons_zero, List.set_cons_succ]); ((refine WalkN.take 5 _ ?_ (by simp only [List.getElem?_toArray, List.getElem?_cons_succ, List.getElem?_cons_zero]; rfl) (by kernel_rfl) (by kernel_rfl) (by rfl) (fun W hW => ?_) ?_; rotate_left; · (go_simp; try with_reducible rfl)); simp only [Act.put, List.setIfInBounds_toArray, List.set_cons_zero, List.set_cons_succ]); ((refine WalkN.take 6 _ ?_ (by simp only [List.getElem?_toArray, List.getElem?_cons_succ, List.getElem?_cons_zero]; rfl) (by kernel_rfl) (by kernel_rfl) (by rfl) (fun W hW => ?_) ?_; rotate_left; · (go_simp; try with_reducible rfl)); simp only [Act.put, List.setIfInBounds_toArray, List.set_cons_zero, List.set_cons_succ]); ((refine WalkN.take 7 _ ?_ (by simp only [List.getElem?_toArray, List.getElem?_cons_succ, List.getElem?_cons_zero]; rfl) (by kernel_rfl) (by kernel_rfl) (by rfl) (fun W hW => ?_) ?_; rotate_left; · (go_simp; try with_reducible rfl)); simp only [Act.put, List.setIfInBounds_toArray, List.set_cons_zero, List.set_cons_succ]); ((refine WalkN.take 8 _ ?_ (by simp only [List.getElem?_toArray, List.getElem?_cons_succ, List.getElem?_cons_zero]; rfl) (by kernel_rfl) (by kernel_rfl) (by rfl) (fun W hW => ?_) ?_; rotate_left; · (go_simp; try with_reducible rfl)); simp only [Act.put, List.setIfInBounds_toArray, List.set_cons_zero, List.set_cons_succ]); ((refine WalkN.take 9 _ ?_ (by simp only [List.getElem?_toArray, List.getElem?_cons_succ, List.getElem?_cons_zero]; rfl) (by kernel_rfl) (by kernel_rfl) (by rfl) (fun W hW => ?_) ?_; rotate_left; · (go_simp; try with_reducible rfl)); simp only [Act.put, List.setIfInBounds_toArray, List.set_cons_zero, List.set_cons_succ]); ((refine WalkN.take 10 _ ?_ (by simp only [List.getElem?_toArray, List.getElem?_cons_succ, List.getElem?_cons_zero]; rfl) (by kernel_rfl) (by kernel_rfl) (by rfl) (fun W hW => ?_) ?_; rotate_left; · (go_simp; try with_reducible rfl)); simp only [Act.put, List.setIfInBounds_toArray, List.set_cons_zero, List.set_cons_succ]); ((refine WalkN.take 11 _ ?_ (by simp only [List.getElem?_toArray, List.getElem?_cons_succ, List.getElem?_cons_zero]; rfl) (by kernel_rfl) (by kernel_rfl) (by rfl) (fun W hW => ?_) ?_; rotate_left; · (go_simp; try with_reducible rfl)); simp only [Act.put, List.setIfInBounds_toArray, List.set_cons_zero, List.set_cons_succ]); ((refine WalkN.take 12 _ ?_ (by simp only [List.getElem?_toArray, List.getElem?_cons_succ, List.getElem?_cons_zero]; rfl) (by kernel_rfl) (by kernel_rfl) (by rfl) (fun W hW => ?_) ?_; rotate_left; · (go_simp; try with_reducible rfl)); simp only [Act.put, List.setIfInBounds_toArray, List.set_cons_zero, List.set_cons_succ])
  refine WalkN.done (by kernel_rfl) ?_
  clear h1 h2 h2s h3 h4
  go_wp2_with fail
  go_ret
  exact ⟨congrArg (fun b => Ending.returned (.bool b)) HB.out, hbd⟩

set_option maxRecDepth 100000 in
set_option maxHeartbeats 2000000 in
theorem members_any (w : World) (B : Nat) (f : FlS) (p : P3) (h : FlatG w B f) (hp : KeyP p) :
    Calls Try.prog 13 #[.pointer (some ⟨B, 0, none⟩), pV p] w fun e w' => ∃ (v : Value) (ss : List P3), e = .returned v ∧ ss.Perm (inn f.M p) ∧ UpP ss ∧ Own w' w.heap.size 30 3 v (pcs ss) ∧ Below w.heap.size w w' := by
  have hfew : (inn f.M p).length ≤ 549755813888 := by
    have h1 := h.good.few (h.at_.M.nodupAt p)
    have h2 := h.len
    omega
  have HA := Lib.hid h.at_
  have HFE := Lib.hid hfew
  clear h hfew
  obtain ⟨pt, pi, pr⟩ := p
  have hbP := Blk.made w #[.string pt, .string pi, .string pr] 37
  have hb2 : Below w.heap.size w (w.alloc (.cells #[.string pt, .string pi, .string pr] 37)) := (Below.refl _ _).alloc (Nat.le_refl _) _
  have hzs := Try.zeroValue63
  unfold pV
  dsimp only
  go_enter Try.func13, Try.ntmps13
  go_wp2_with fail
  obtain ⟨wd, hwd⟩ : ∃ wd, wd = (w.alloc (.cells #[.string pt, .string pi, .string pr] 37)).drew := ⟨_, rfl⟩
  have hbPd := hbP.drew
  have hbd := hb2.drew
  rw [← hwd] at hbPd hbd
  have hAd := HA.out.below hbd
  refine region_walkN (Ext wd) (by rw [← hwd]; exact Ext.refl _) (by kernel_rfl) (by kernel_rfl) (fun _ _ d _ _ h => by cases d <;> exact h) ?_
  rw [← hwd]
  clear hwd hbP hb2
  have h1 : ∀ W, Ext wd W → ∀ i, W.cell? ⟨B, i, none⟩ = (#[.map (some f.bT), .map (some f.bM), .map (some f.bU)] : Array Value)[i]? := fun W h => (hAd.below h).F.cells
  have h2 : ∀ W, Ext wd W → ∀ i, W.cell? ⟨w.heap.size, i, none⟩ = (#[.string pt, .string pi, .string pr] : Array Value)[i]? := fun W h => (hbPd.below h).cells
  have h3 : ∀ W, Ext wd W → (Instr.lookup 57 (.map (some f.bM)) (.agg #[.string pt, .string pi, .string pr]) false).run Try.prog W = .ok (.map (mO f.M ⟨pt, pi, pr⟩)) W := fun W h => (hAd.below h).M.look Try.underlying57 (hzs W) hp
  ((refine WalkN.take 0 _ ?_ (by simp only [List.getElem?_toArray, List.getElem?_cons_zero]; rfl) (by kernel_rfl) (by kernel_rfl) (by rfl) (fun W hW => ?_) ?_; rotate_left; · (go_simp; try with_reducible rfl)); simp only [Act.put, List.setIfInBounds_toArray, List.set_cons_zero, List.set_cons_succ]); ((refine WalkN.take 1 _ ?_ (by simp only [List.getElem?_toArray, List.getElem?_cons_succ, List.getElem?_cons_zero]; rfl) (by kernel_rfl) (by kernel_rfl) (by rfl) (fun W hW => ?_) ?_; rotate_left; · (go_simp; try with_reducible rfl)); simp only [Act.put, List.setIfInBounds_toArray, List.set_cons_zero, List.set_cons_succ]); ((refine WalkN.take 2 _ ?_ (by simp only [List.getElem?_toArray, List.getElem?_cons_succ, List.getElem?_cons_zero]; rfl) (by kernel_rfl) (by kernel_rfl) (by rfl) (fun W hW => ?_) ?_; rotate_left; · (go_simp; try with_reducible rfl)); simp only [Act.put, List.setIfInBounds_toArray, List.set_cons_zero, List.set_cons_succ]); ((refine WalkN.take 3 _ ?_ (by simp only [List.getElem?_toArray, List.getElem?_cons_succ, List.getElem?_cons_zero]; rfl) (by kernel_rfl) (by kernel_rfl) (by rfl) (fun W hW => ?_) ?_; rotate_left; · (go_simp; try with_reducible rfl)); simp only [Act.put, List.setIfInBounds_toArray, List.set_cons_zero, List.set_cons_succ]); ((refine WalkN.take 4 _ ?_ (by simp only [List.getElem?_toArray, List.getElem?_cons_succ, List.getElem?_cons_zero]; rfl) (by kernel_rfl) (by kernel_rfl) (by rfl) (fun W hW => ?_) ?_; rotate_left; · (go_simp; try with_reducible rfl)); simp only [Act.put, List.setIfInBounds_toArray, List.set_cons_zero, List.set_cons_succ]); ((refine WalkN.take 5 _ ?_ (by simp only [List.getElem?_toArray, List.getElem?_cons_succ, List.getElem?_cons_zero]; rfl) (by kernel_rfl) (by kernel_rfl) (by rfl) (fun W hW => ?_) ?_; rotate_left; · (go_simp; try with_reducible rfl)); simp only [Act.put, List.setIfInBounds_toArray, List.set_cons_zero, List.set_cons_succ])
  clear h1 h2 h3
  have HKY := Lib.hid (keysS_any (mO f.M ⟨pt, pi, pr⟩) wd)
  have hAi := hAd.below ((Below.refl _ _).alloc (Nat.le_refl _) (.cells #[.map (mO f.M ⟨pt, pi, pr⟩)] 63))
  have HC := Lib.hid (sortedS_any (wd.alloc (.cells #[.map (mO f.M ⟨pt, pi, pr⟩)] 63)) wd.heap.size (mO f.M ⟨pt, pi, pr⟩) (bl (inn f.M ⟨pt, pi, pr⟩)) (by rw [List.length_map]; exact HFE.out) (by simp) (Blk.made wd #[.map (mO f.M ⟨pt, pi, pr⟩)] 63 |>.cells 0) (hAi.M.inn ⟨pt, pi, pr⟩))
  have hE1 : Ext wd (wd.alloc (.cells #[.map (mO f.M ⟨pt, pi, pr⟩)] 63)) := Ext.alloc _ _
  have hsz : w.heap.size ≤ (wd.alloc (.cells #[.map (mO f.M ⟨pt, pi, pr⟩)] 63)).heap.size := by have h1 := hbd.size; have h2 := hE1.size; omega
  have HSZ := Lib.hid hsz
  have HBD := Lib.hid hbd
  clear hAi hsz hbd
  refine WalkN.one 6 (by kernel_rfl) ?_
  refine ⟨_, (by simp only [List.getElem?_toArray, List.getElem?_cons_succ, List.getElem?_cons_zero]; rfl), by rfl, fun K hK => ?_⟩
  go_simp
  refine HKY.out.mono ?_
  rintro e w7 ⟨rfl, rfl⟩
  refine hK.out _ _ hE1 ?_
  clear hK HKY
  refine WalkN.one 7 (by kernel_rfl) ?_
  refine ⟨_, (by simp only [List.getElem?_toArray, List.getElem?_cons_succ, List.getElem?_cons_zero]; rfl), by rfl, fun K hK => ?_⟩
  go_simp
  refine HC.out.mono ?_
  rintro e w8 ⟨v', ss, rfl, hp8, hu8, ho8, hb8⟩
  refine hK.out _ _ (hE1.trans hb8) ?_
  clear hK HC
  have hE8 := hE1.trans hb8
  obtain ⟨ao, n, c, rfl⟩ : ∃ ao n c, v' = .slice ao n c := by
    rcases ho8.shape with ⟨rfl, _⟩ | ⟨g, n, c, rfl⟩
    · exact ⟨_, _, _, rfl⟩
    · exact ⟨_, _, _, rfl⟩
  ((refine WalkN.take 8 _ ?_ (by simp only [List.getElem?_toArray, List.getElem?_cons_succ, List.getElem?_cons_zero]; rfl) (by kernel_rfl) (by kernel_rfl) (by rfl) (fun W hW => ?_) ?_; rotate_left; · (go_simp; try with_reducible rfl)); simp only [Act.put, List.setIfInBounds_toArray, List.set_cons_zero, List.set_cons_succ])
  refine WalkN.done (by kernel_rfl) ?_
  rw [bl_keys] at hp8
  have HO := Lib.hid (ho8.base HSZ.out)
  have HP8 := Lib.hid hp8
  have HU8 := Lib.hid hu8
  have HBE := Lib.hid (HBD.out.trans (Below.mono hE8 HBD.out.size))
  clear ho8 hp8 hu8 hb8 hE8 hE1
  go_wp2_with fail
  go_ret
  exact ⟨_, ss, rfl, HP8.out, HU8.out, HO.out, HBE.out⟩

set_option maxRecDepth 100000 in
set_option maxHeartbeats 2000000 in
theorem len_any (w : World) (B : Nat) (f : FlS) (h : FlatAt w B f) : Calls Try.prog 16 #[.pointer (some ⟨B, 0, none⟩)] w fun e w' => e = .returned (.int .i64 f.T.length) ∧ w' = w := by
  have hF := h.F.cells
  have hT := h.T
  have hln : (tl f.T).length = f.T.length := List.length_map ..
  go_enter Try.func16, Try.ntmps16
  go_wp2_with (at_len; refine wpList_mp_len _ rfl _ 56 rfl Try.underlying56 rfl hT ?_; rw [hln])
  go_ret
  exact ⟨rfl, rfl⟩

/-- The points of which s is a member. -/
def ptsOf (l : NL) (s : P3) : List P3 := (l.filter fun e => decide (s ∈ e.2.2)).map (·.1)
theorem ptsOf_append (a b : NL) (s : P3) : ptsOf (a ++ b) s = ptsOf a s ++ ptsOf b s := by simp [ptsOf]
theorem ptsOf_nodup {l : NL} {s : P3} (h : (l.map (·.1)).Nodup) : (ptsOf l s).Nodup := h.sublist (List.Sublist.map _ List.filter_sublist)
theorem ptsOf_length (l : NL) (s : P3) : (ptsOf l s).length ≤ l.length := by
  unfold ptsOf
  rw [List.length_map]
  exact List.length_filter_le _ _
theorem mem_look {l : NL} (hn : (l.map (·.1)).Nodup) {e : P3 × Nat × List P3} (he : e ∈ l) : lookA l e.1 = some e.2 := by
  obtain ⟨i, hi, rfl⟩ := List.getElem_of_mem he
  exact (pairs_hit (x := l[i].2) hn (List.getElem?_eq_getElem hi) rfl).1
theorem ptsOf_mem {l : NL} {s p : P3} (hn : (l.map (·.1)).Nodup) : p ∈ ptsOf l s ↔ s ∈ inn l p := by
  unfold ptsOf
  constructor
  · intro h
    obtain ⟨e, he, rfl⟩ := List.mem_map.1 h
    obtain ⟨he, hs⟩ := List.mem_filter.1 he
    rw [inn_some (mem_look hn he)]
    simpa using hs
  · intro h
    unfold inn at h
    cases hl : lookA l p with
    | none => simp [hl] at h
    | some x =>
      rw [hl] at h
      exact List.mem_map.2 ⟨(p, x), List.mem_filter.2 ⟨look_mem hl, by simpa using h⟩, rfl⟩

theorem der_from {L : List Tup} {x y : P3} (h : Der (· ∈ L) x y) : x ∈ L.map (·.o) := by
  cases h with
  | base h => exact List.mem_map.2 ⟨_, h, rfl⟩
  | step h _ _ => exact List.mem_map.2 ⟨_, h, rfl⟩
theorem FlatG.points_few {w : World} {B : Nat} {f : FlS} (h : FlatG w B f) (s : P3) (done rem : NL) (hp : (done ++ rem).Perm f.M) : (ptsOf done s).length ≤ 549755813888 := by
  have hnM := h.at_.M.top.nodup
  have hnd : ((done ++ rem).map (·.1)).Nodup := (hp.map _).nodup_iff.2 hnM
  rw [List.map_append, List.nodup_append] at hnd
  have h1 := nodup_le (m := f.T.map (·.o)) (ptsOf_nodup (s := s) hnd.1) (fun x hx => by
    obtain ⟨e, he, rfl⟩ := List.mem_map.1 hx
    obtain ⟨he, hs⟩ := List.mem_filter.1 he
    have heM : e ∈ f.M := hp.mem_iff.1 (List.mem_append_left _ he)
    refine der_from ((h.good.mem e.1 s).1 ?_)
    rw [inn_some (mem_look hnM heM)]
    simpa using hs)
  have h2 := h.len
  rw [List.length_map] at h1
  omega

set_option maxRecDepth 100000 in
set_option maxHeartbeats 2000000 in
theorem points_any (w : World) (B : Nat) (f : FlS) (s : P3) (h : FlatAt w B f) (hs : KeyS s) (hl : ∀ done rem : NL, (done ++ rem).Perm f.M → (ptsOf done s).length ≤ 549755813888) :
    Calls Try.prog 20 #[.pointer (some ⟨B, 0, none⟩), pV s] w fun e w' => ∃ (v : Value) (ps : List P3), e = .returned v ∧ (∀ p, p ∈ ps ↔ s ∈ inn f.M p) ∧ UpP ps ∧ Own w' w.heap.size 37 3 v (pcs ps) ∧ Below w.heap.size w w' := by
  have HA := Lib.hid h
  have HL := Lib.hid hl
  have HKS := Lib.hid hs
  have HND := Lib.hid h.M.top.nodup
  have HBM := Lib.hid h.M.top.lt
  clear h hl hs
  obtain ⟨st, si, sr⟩ := s
  have hb1 : Below w.heap.size w (w.alloc (.cells #[.string st, .string si, .string sr] 30)) := (Below.refl _ _).alloc (Nat.le_refl _) _
  have hbS : Blk (w.alloc (.cells #[.string st, .string si, .string sr] 30)) w.heap.size #[.string st, .string si, .string sr] 30 := Blk.made w _ _
  have hA1 := HA.out.below hb1
  have hF := hA1.F.cells
  have hM := hA1.M.top
  have hzb := Try.zeroValue4
  unfold pV
  dsimp only
  go_enter Try.func20, Try.ntmps20
  go_wp2_with (at_range; go_must (refine wpList_mp_range _ rfl _ 57 rfl Try.underlying57 rfl hM ?_); intro wR hRg hbR hszR)
  try go_frame
  have hsz1 : (w.alloc (.cells #[.string st, .string si, .string sr] 30)).heap.size = w.heap.size + 1 := by simp
  obtain ⟨w1, hw1⟩ : ∃ w1, w1 = w.alloc (.cells #[.string st, .string si, .string sr] 30) := ⟨_, rfl⟩
  rw [← hw1] at hsz1 hRg hbR hszR hb1 hbS hA1
  try rw [← hw1]
  try rw [hsz1]
  clear hw1 hF hM
  rw [hsz1] at hRg hbR
  have HIN := Lib.hid (show ∀ e ∈ f.M, ∀ W : World, Below (w.heap.size + 1) w1 W → Mp Try.prog 30 pV bV W e.2.1 (bl e.2.2) from fun e he W hW => (hA1.M.inner e he).below (by rw [hsz1]; exact hW))
  have HBSW := Lib.hid (show ∀ W : World, Below (w.heap.size + 1) w1 W → Blk W w.heap.size #[.string st, .string si, .string sr] 30 from fun W hW => hbS.below (by rw [hsz1]; exact hW))
  have HB1 := Lib.hid hb1
  clear hbS hb1 hA1 hszR hsz1
  have HBR := Lib.hid hbR
  clear hbR
  go_loopw [5] (fun vv wr => ∃ (done rem : NL), (done ++ rem).Perm f.M ∧ Rng Try.prog 37 pV nV wr f.bM (w.heap.size + 1) f.M rem ∧ Own wr ((w.heap.size + 1) + 1) 37 3 vv (pcs (ptsOf done ⟨st, si, sr⟩)) ∧ Below (w.heap.size + 1) w1 wr ∧ (w.heap.size + 1) + 1 ≤ wr.heap.size) (fun _ wr => wr.rangeLeft f.bM (w.heap.size + 1))
  case atStart => exact ⟨[], f.M, List.Perm.refl _, hRg, Own.nil _ _ _ _, HBR.out, hRg.lt⟩
  case round =>
    obtain ⟨done, rem, hperm, hRg, hown, hbel, hsz⟩ := hrel
    have HPR := Lib.hid hperm
    clear hperm HBR
    have cS := (HBSW.out _ hbel).cells
    go_wp2_with (at_next; go_must (refine wpList_mp_next _ rfl _ rfl rfl hRg ?_ ?_))
    · intro hrem
      subst hrem
      rw [List.append_nil] at HPR
      have hpm : (ptsOf done ⟨st, si, sr⟩).Perm (ptsOf f.M ⟨st, si, sr⟩) := (HPR.out.filter _).map _
      have hso := sortP_any hown (by have := HL.out done [] (by rw [List.append_nil]; exact HPR.out); omega) (hpm.nodup_iff.2 (ptsOf_nodup HND.out))
      have HPM := Lib.hid hpm
      have HSO := Lib.hid hso
      have HBEL := Lib.hid (HB1.out.trans (Below.mono hbel (Nat.le_succ _)))
      have HOW := Lib.hid hown
      have HSZ := Lib.hid hsz
      clear hso hpm hown hbel hsz cS
      go_wp2_with fail
      refine HSO.out.mono ?_
      rintro e w7 ⟨rfl, l', hp', hu', ho', hk'⟩
      have HP2 := Lib.hid (hp'.trans HPM.out)
      have HU2 := Lib.hid hu'
      have HO2 := Lib.hid ho'
      have HK2 := Lib.hid hk'
      clear hp' hu' ho' hk' HSO
      go_wp2_with fail
      go_ret
      refine ⟨_, l', rfl, fun p => (HP2.out.mem_iff).trans (ptsOf_mem HND.out), HU2.out, HO2.out.base (by omega), HBEL.out.trans (HK2.out.below fun b hb => ⟨Nat.lt_of_lt_of_le hb HBEL.out.size, fun e => by have := (HOW.out.block b e).1; omega⟩)⟩
    · rintro pre ⟨xt, xi, xr⟩ bi us post w2 hrem hRg2 hk2 hs2 hen
      have HREM := Lib.hid hrem
      have hemem : ((⟨xt, xi, xr⟩, bi, us) : P3 × Nat × List P3) ∈ f.M := HPR.out.mem_iff.1 (by rw [hrem]; simp)
      have hbel2 : Below (w.heap.size + 1) w1 w2 := hbel.trans (hk2.below fun b hb => by omega)
      have hown2 := hown.keepOwn (w' := w2) fun g hg => hk2.block g (by have := (hown.block g hg).1; omega)
      have hsz2 : (w.heap.size + 1) + 1 ≤ w2.heap.size := by omega
      have hbel3 := hbel2.alloc (by omega) (.cells #[.string xt, .string xi, .string xr] 37)
      have cS3 := (HBSW.out _ hbel3).cells
      have hmi := HIN.out _ hemem _ hbel3
      dsimp only at hmi
      have hlk : (Instr.lookup 63 (.map (some bi)) (.agg #[.string st, .string si, .string sr]) false).run Try.prog (w2.alloc (.cells #[.string xt, .string xi, .string xr] 37)) = .ok (.bool (decide ((⟨st, si, sr⟩ : P3) ∈ us))) (w2.alloc (.cells #[.string xt, .string xi, .string xr] 37)) := by
        have := hmi.look subK pV_inj Try.underlying63 (hzb _) false HKS.out
        rw [look_bl] at this
        by_cases hin : (⟨st, si, sr⟩ : P3) ∈ us
        · rw [decide_eq_true hin]; rw [if_pos hin] at this; exact this
        · rw [decide_eq_false hin]; rw [if_neg hin] at this; exact this
      have hPn : ((done ++ ([((⟨xt, xi, xr⟩ : P3), bi, us)] : NL)) ++ (pre ++ post)).Perm f.M := by
        refine List.Perm.trans ?_ HPR.out
        rw [hrem, List.append_assoc]
        exact List.Perm.append_left done (by simpa using List.perm_middle.symm)
      have HPN := Lib.hid hPn
      have HRG := Lib.hid hRg2
      have HRG0 := Lib.hid hRg
      have HO3 := Lib.hid (hown2.below ((Below.refl _ _).alloc (Nat.le_refl _) (.cells #[.string xt, .string xi, .string xr] 37)))
      have HB3 := Lib.hid hbel3
      have HSZ2 := Lib.hid hsz2
      have cX := (Blk.made w2 #[.string xt, .string xi, .string xr] 37).cells
      dsimp only [pV, nV] at hen
      clear hmi hrem hk2 hs2 hbel2 hbel3 hown2 hsz2 hPn hRg2 hRg hown hbel hsz cS
      have hsl := Sl.made (w2.alloc (.cells #[.string xt, .string xi, .string xr] 37)) (fun _ => True) 3 1 37 #[.string xt, .string xi, .string xr] rfl (by decide) trivial
      rw [World.size_alloc] at hsl
      have hll : (pcs (ptsOf done ⟨st, si, sr⟩)).length + 3 ≤ 1649267441667 := by
        have h3 := HL.out done rem HPR.out
        rw [pcs_length]
        omega
      have HO4 := Lib.hid (HO3.out.below ((Below.refl _ _).alloc (Nat.le_refl _) (.cells #[.string xt, .string xi, .string xr] 37)))
      have HSL := Lib.hid hsl
      have HLL := Lib.hid hll
      clear hsl hll
      by_cases hin : (⟨st, si, sr⟩ : P3) ∈ us
      · rw [decide_eq_true hin] at hlk
        have HIN2 := Lib.hid hin
        clear hin
        go_wp2_with (at_builtin; go_must (refine wpList_own pointsT rfl (.tmp 23) (.tmp 25) rfl rfl HO4.out rfl HSL.out (pC_one ⟨xt, xi, xr⟩) (by have := HLL.out; show _ + 3 ≤ _; omega) (by have := HLL.out; show (_ + 3) * 48 ≤ _; omega) (by have := HSZ2.out; simp; omega) ?_); intro vL w6 hown6 hb6 _)
        have HO6 := Lib.hid hown6
        have HB6 := Lib.hid hb6
        clear hown6 hb6
        go_wp2_with fail
        have hb26 : Below (w.heap.size + 1 + 1) w2 w6 := (((Below.refl _ w2).alloc HSZ2.out _).alloc (by have := HSZ2.out; simp; omega) _).trans HB6.out
        have hrg6 := HRG.out.same (w' := w6) (hb26.block _ (by have := HBM.out; omega)) (hb26.block _ (by omega))
        go_roundw
        case rel =>
          refine ⟨done ++ [(⟨xt, xi, xr⟩, bi, us)], pre ++ post, HPN.out, hrg6, ?_, ?_, ?_⟩
          · have h0 : ptsOf (done ++ [(⟨xt, xi, xr⟩, bi, us)]) ⟨st, si, sr⟩ = ptsOf done ⟨st, si, sr⟩ ++ [⟨xt, xi, xr⟩] := by rw [ptsOf_append]; simp [ptsOf, HIN2.out]
            rw [h0, pcs_append, pcs_single]
            exact HO6.out
          · exact HB3.out.trans (Below.mono ((((Below.refl _ _).alloc (Nat.le_refl _) _).mono (by have := HSZ2.out; simp; omega)).trans HB6.out) (Nat.le_succ _))
          · have := hb26.size; have := HSZ2.out; omega
        case measure => rw [hrg6.left_eq, HRG0.out.left_eq, HREM.out]; simp
      · rw [decide_eq_false hin] at hlk
        have HIN2 := Lib.hid hin
        clear hin
        go_wp2_with fail
        have hrg6 := HRG.out.below ((Below.refl _ _).alloc (Nat.le_refl _) (.cells #[.string xt, .string xi, .string xr] 37))
        go_roundw
        case rel =>
          refine ⟨done ++ [(⟨xt, xi, xr⟩, bi, us)], pre ++ post, HPN.out, hrg6, ?_, HB3.out, by have := HSZ2.out; simp; omega⟩
          have h0 : ptsOf (done ++ [(⟨xt, xi, xr⟩, bi, us)]) ⟨st, si, sr⟩ = ptsOf done ⟨st, si, sr⟩ := by rw [ptsOf_append]; simp [ptsOf, HIN2.out]
          rw [h0]
          exact HO3.out
        case measure => rw [hrg6.left_eq, HRG0.out.left_eq, HREM.out]; simp

end Go.Proofs.Ytcbgemnmehoeaaa
