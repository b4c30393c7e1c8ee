/- The walk of flat's put. No condition: lemmas. -/
import Derived.Test.YtcbgemnmehoeaaaFlatJ
namespace Go.Proofs.Ytcbgemnmehoeaaa
open Go Go.RowKit Go.Maps

/-- put's loop. -/
structure PutL (M U : NL) (bM : Nat) (p s : P3) (w2 : World) (n0 : Nat) (vv : Value) (wr : World) (g : NL × List P3) : Prop where
  own : Own wr w2.heap.size 37 3 vv (pcs g.2)
  nest : Nest 30 wr bM g.1
  inv : PutI (inn U) (inn M) p s (inn g.1) g.2
  blocks : ∀ x ∈ nB bM g.1, x ∈ nB bM M ∨ n0 ≤ x
  kept : Kept (fun b => b < w2.heap.size ∧ b ∉ nB bM M) w2 wr
  keyed : ∀ q ∈ g.2, KeyP q
  bound : putM (p :: U.flatMap (·.2.2)) s (inn g.1) g.2 ≤ 274877906944

theorem wp_mp_store {P : Program} {w : World} {o : Oper} {a : Act} {Kx : Act → World → Prop} {Q : Exit → Act → World → Prop} {κ α : Type} {kv : κ → Value} {ev : α → Value} {b : Nat} {l : List (κ × α)} [DecidableEq κ] (m x v : Operand) (t : TypeId) (hop : o.op = Op.mapUpdate t m x v) {k e : TypeId} (K : Keyed P k) (inj : ∀ a b, kv a = kv b → a = b) (ht : P.underlying t = some (.map k e))
    (hm : a.eval m = .map (some b)) (h : Mp P k kv ev w b l) {y : κ} (hx : a.eval x = kv y) (hk : ∃ q, keyOf P k (kv y) = some q) {u : α} (hv : a.eval v = ev u)
    (hK : ∀ w', Mp P k kv ev w' b (putA l y u) → Turned w w' b → Kx (a.put o.dst undef) w') : o.wp P a w Kx Q := by
  obtain ⟨w', hrun, h1, h2⟩ := h.store K inj ht hk u
  unfold Oper.wp
  simp [execOp, hop, hm, hx, hv, hrun, Result.andThen]
  exact hK w' h1 h2

/-- What a round of put sees. -/
structure PutF (B bT bM bU : Nat) (M : NL) (s : P3) (sb : Nat) (w2 : World) (qb : Nat) (q : P3) (gb k c : Nat) (wk : List P3) (cur : NL) (wx : World) : Prop where
  F : Blk wx B #[.map (some bT), .map (some bM), .map (some bU)] 60
  Q : Blk wx qb #[.string q.t, .string q.i, .string q.r] 37
  S : Blk wx sb #[.string s.t, .string s.i, .string s.r] 30
  n : Nest 30 wx bM cur
  K : Kept (fun b => b < w2.heap.size ∧ b ∉ nB bM M) w2 wx
  O : Own wx w2.heap.size 37 3 (.slice (some ⟨gb, 0, none⟩) k c) (pcs wk)
theorem PutF.below {B bT bM bU : Nat} {M : NL} {s : P3} {sb : Nat} {w2 : World} {qb : Nat} {q : P3} {gb k c : Nat} {wk : List P3} {cur : NL} {wx wy : World} (h : PutF B bT bM bU M s sb w2 qb q gb k c wk cur wx) (hb : Below wx.heap.size wx wy) : PutF B bT bM bU M s sb w2 qb q gb k c wk cur wy :=
  ⟨h.F.below hb, h.Q.below hb, h.S.below hb, h.n.below hb, h.K.trans (Below.kept hb fun _ hx => Nat.lt_of_lt_of_le hx.1 h.K.size), h.O.below hb⟩
theorem PutF.drew {B bT bM bU : Nat} {M : NL} {s : P3} {sb : Nat} {w2 : World} {qb : Nat} {q : P3} {gb k c : Nat} {wk : List P3} {cur : NL} {wx : World} (h : PutF B bT bM bU M s sb w2 qb q gb k c wk cur wx) : PutF B bT bM bU M s sb w2 qb q gb k c wk cur wx.drew := h.below (Below.refl _ _).drew

theorem mapS_nil (x : Option Nat) (W : World) : (binOp BinOp.eql 63 (.map x) (.map none)).run Try.prog W = .ok (.bool x.isNone) W := by
  have h : (Op.equal 63 (.map x) (.map none)).run Try.prog W = .ok x.isNone W := run_equalIn_map_nil W 9999 _ _ _ x Try.underlying63
  simp [binOp, h, Result.andThen]
theorem mapP_nil (x : Option Nat) (W : World) : (binOp BinOp.eql 77 (.map x) (.map none)).run Try.prog W = .ok (.bool x.isNone) W := by
  have h : (Op.equal 77 (.map x) (.map none)).run Try.prog W = .ok x.isNone W := run_equalIn_map_nil W 9999 _ _ _ x Try.underlying77
  simp [binOp, h, Result.andThen]
theorem PutF.turn {B bT bM bU : Nat} {M : NL} {s : P3} {sb : Nat} {w2 : World} {qb : Nat} {q : P3} {gb k c : Nat} {wk : List P3} {cur cur' : NL} {wx wy : World} (h : PutF B bT bM bU M s sb w2 qb q gb k c wk cur wx) {b : Nat} (hb : b ∈ nB bM cur) (hb2 : b ∈ nB bM M ∨ w2.heap.size ≤ b) (ht : Turned wx wy b) (hn : Nest 30 wy bM cur') : PutF B bT bM bU M s sb w2 qb q gb k c wk cur' wy :=
  ⟨ht.kept.blk h.F (fun e => h.n.notBlk h.F (e ▸ hb)), ht.kept.blk h.Q (fun e => h.n.notBlk h.Q (e ▸ hb)), ht.kept.blk h.S (fun e => h.n.notBlk h.S (e ▸ hb)), hn,
    h.K.trans (ht.kept.mono fun x hx e => by
      subst e
      rcases hb2 with h2 | h2
      · exact hx.2 h2
      · have := hx.1; omega), h.O.keepOwn fun g hg => ht.kept.block _ fun e => h.n.notOwn h.O b hb (e ▸ hg)⟩

theorem hd_users {w : World} {bM bU : Nat} {M U : NL} (HU : Hid (Nest 37 w bU U)) (HD : Hid (∀ x ∈ nB bU U, x ∉ nB bM M)) {w2 : World} (h02 : Below w.heap.size w w2) {wx : World} (hk : Kept (fun b => b < w2.heap.size ∧ b ∉ nB bM M) w2 wx) : Nest 37 wx bU U :=
  HU.out.same fun x hx => (hk.block x ⟨Nat.lt_of_lt_of_le (HU.out.lt x hx) h02.size, HD.out x hx⟩).trans (h02.block x (HU.out.lt x hx))

theorem last_of {α : Type} (l : List α) (h : l ≠ []) : ∃ wk q, l = wk ++ [q] := ⟨l.dropLast, l.getLast h, (List.dropLast_concat_getLast h).symm⟩

set_option maxRecDepth 100000 in
set_option maxHeartbeats 4000000 in
theorem put_any (w : World) (B bT bM bU : Nat) (M U : NL) (p s : P3) (hB : Blk w B #[.map (some bT), .map (some bM), .map (some bU)] 60) (hM : Nest 30 w bM M) (hU : Nest 37 w bU U)
    (hd : ∀ x ∈ nB bU U, x ∉ nB bM M) (hp : KeyP p) (hs : KeyS s) (hcl : ∀ x r, r ∈ inn U x → s ∈ inn M x → s ∈ inn M r ∨ r = p) (ht : totN U ≤ 65536) :
    Calls Try.prog 36 #[.pointer (some ⟨B, 0, none⟩), pV p, pV s] w fun e w' => e = .returned (.tuple #[]) ∧ ∃ M', Nest 30 w' bM M' ∧
      (∀ x y, y ∈ inn M' x ↔ PutR (fun q r => r ∈ inn U q) (fun x y => y ∈ inn M x) p s x y) ∧ (∀ x ∈ nB bM M', x ∈ nB bM M ∨ w.heap.size ≤ x) ∧ Kept (fun b => b < w.heap.size ∧ b ∉ nB bM M) w w' := by
  have HCL := Lib.hid hcl
  have HD := Lib.hid hd
  have HT := Lib.hid ht
  have HKP := Lib.hid hp
  have HKS := Lib.hid hs
  have HM := Lib.hid hM
  have HU := Lib.hid hU
  have HB := Lib.hid hB
  clear hcl hd ht hp hs hM hU hB
  obtain ⟨pt, pi, pr⟩ := p
  obtain ⟨st, si, sr⟩ := s
  obtain ⟨w2, hw2⟩ : ∃ w2, w2 = (w.alloc (.cells #[.string pt, .string pi, .string pr] 37)).alloc (.cells #[.string st, .string si, .string sr] 30) := ⟨_, rfl⟩
  have hbP := (Blk.made w #[.string pt, .string pi, .string pr] 37).alloc (.cells #[.string st, .string si, .string sr] 30)
  have hbS := Blk.made' (w := w.alloc (.cells #[.string pt, .string pi, .string pr] 37)) (B := w.heap.size + 1) (by simp) #[.string st, .string si, .string sr] 30
  have h02 : Below w.heap.size w w2 := by rw [hw2]; exact ((Below.refl _ _).alloc (Nat.le_refl _) _).alloc (by simp) _
  have hs2 : w2.heap.size = w.heap.size + 2 := by rw [hw2]; simp
  rw [← hw2] at hbP hbS
  have HS2 := Lib.hid hs2
  have cP := hbP.cells
  clear hs2
  unfold pV
  go_enter Try.func36, Try.ntmps36
  go_wp2_with fail
  have HOWN := Lib.hid (show Own (w2.alloc (.cells #[.string pt, .string pi, .string pr] 37)) w2.heap.size 37 3 (.slice (some ⟨w2.heap.size, 0, none⟩) 1 1) (pcs [⟨pt, pi, pr⟩]) from
    ⟨1, rfl, .inr ⟨w2.heap.size, 1, _, rfl, Nat.le_refl _, heap_alloc_new w2 _, Nat.le_refl _, by unfold maxLen; omega, rfl, rfl⟩⟩)
  have HE3 := Lib.hid (show Below w2.heap.size w2 (w2.alloc (.cells #[.string pt, .string pi, .string pr] 37)) from (Below.refl _ _).alloc (Nat.le_refl _) _)
  try rw [← hw2]
  generalize w2.alloc (.cells #[.string pt, .string pi, .string pr] 37) = w3 at *
  clear hw2 cP
  go_loopw [6] (fun vv wr => ∃ g : NL × List P3, PutL M U bM ⟨pt, pi, pr⟩ ⟨st, si, sr⟩ w2 w2.heap.size vv wr g) (fun vv wr => leastM (PutL M U bM ⟨pt, pi, pr⟩ ⟨st, si, sr⟩ w2 w2.heap.size vv wr) (fun g => putM (⟨pt, pi, pr⟩ :: U.flatMap (·.2.2)) ⟨st, si, sr⟩ (inn g.1) g.2))
  case atStart =>
    have hso := HS2.out
    refine ⟨(M, [⟨pt, pi, pr⟩]), ⟨by rw [show (w.heap.size + 1 + 1) = w2.heap.size from by omega]; exact HOWN.out, (HM.out.below h02).below HE3.out, PutI.first _ _ _ _, fun x hx => .inl hx, Below.kept HE3.out fun b hb => hb.1, fun q hq => by obtain rfl : q = ⟨pt, pi, pr⟩ := (by simpa using hq); exact HKP.out, ?_⟩⟩
    refine Nat.le_trans (putM_first _ _ _ _) ?_
    have h1 : (⟨pt, pi, pr⟩ :: U.flatMap (·.2.2) : List P3).length ≤ 65537 := by rw [List.length_cons]; exact Nat.succ_le_succ HT.out
    have h2 := Nat.mul_le_mul h1 (Nat.succ_le_succ h1)
    simp only [Nat.succ_eq_add_one] at h2
    omega
  case round =>
    obtain ⟨g, hg, hgm⟩ := leastM_get (fun g => putM (⟨pt, pi, pr⟩ :: U.flatMap (·.2.2)) ⟨st, si, sr⟩ (inn g.1) g.2) hrel
    clear hrel
    have HGM := Lib.hid hgm
    clear hgm
    obtain ⟨cur, work⟩ := g
    by_cases hwk : work = []
    · subst hwk
      obtain ⟨ao, c, rfl, -, hcm, -⟩ := Sl.rows pC_length (by decide) (show Sl _ wr 3 u6 (List.flatMap pC []) from hg.own.sl)
      clear HGM HOWN HE3
      rw [List.length_nil]
      go_wp2_with fail
      go_end0
      exact ⟨rfl, cur, hg.nest, hg.inv.last HCL.out, fun x hx => (hg.blocks x hx).imp id fun h => Nat.le_trans h02.size h, (Below.kept h02 fun b hb => hb.1).trans (hg.kept.mono fun b hb => ⟨by have := h02.size; have := hb.1; omega, hb.2⟩)⟩
    · obtain ⟨wk, q, rfl⟩ := last_of work hwk
      clear hwk HOWN HE3
      have HG := Lib.hid hg
      have hown := hg.own
      have hq := hg.keyed q (by simp)
      have hnest := hg.nest
      have hkept := hg.kept
      clear hg
      obtain ⟨k, hk⟩ : ∃ k, wk.length = k := ⟨_, rfl⟩
      obtain ⟨ao, c, rfl, hlc, hcm, hcell⟩ := Sl.rows pC_length (by decide) (show Sl _ wr 3 u6 (List.flatMap pC (wk ++ [q])) from hown.sl)
      have hlen : (wk ++ [q]).length = k + 1 := by simp [hk]
      obtain ⟨gb, rfl⟩ : ∃ gb, ao = some ⟨gb, 0, none⟩ := by
        rcases hown.shape with ⟨h, _⟩ | ⟨g, n, c, h⟩
        · injection h with _ h _
          rw [hlen] at h
          cases h
        · exact ⟨g, by injection h⟩
      obtain ⟨gb', off', he, -, hcell⟩ := hcell (by omega)
      cases he
      have hck := hcell k (by omega)
      have hqe : (wk ++ [q])[k]'(by omega) = q := by subst hk; simp
      rw [hqe] at hck
      clear hqe hcell
      obtain ⟨qt, qi, qr⟩ := q
      have c0 : wr.cell? ⟨gb, k * 3, none⟩ = some (.string qt) := by have := hck 0 _ rfl; simpa using this
      have c1 : wr.cell? ⟨gb, k * 3 + 1, none⟩ = some (.string qi) := by have := hck 1 _ rfl; simpa using this
      have c2 : wr.cell? ⟨gb, k * 3 + 2, none⟩ = some (.string qr) := by have := hck 2 _ rfl; simpa using this
      clear hck
      rw [hlen] at hown hlc HGM HG ⊢
      have HCUT := Lib.hid (Own.cut (zs := pC ⟨qt, qi, qr⟩) rfl (by rw [pcs_append, pcs_single] at hown; exact hown))
      clear hown hlen
      go_wp2_with fail
      clear c0 c1 c2
      obtain ⟨wq, hwq⟩ : ∃ wq, wq = wr.alloc (.cells #[.string qt, .string qi, .string qr] 37) := ⟨_, rfl⟩
      have hW : PutF B bT bM bU M ⟨st, si, sr⟩ (w.heap.size + 1) w2 wr.heap.size ⟨qt, qi, qr⟩ gb k c wk cur wq := by
        rw [hwq]
        exact ⟨(hkept.blk ((HB.out).below h02) ⟨by have := h02.size; have := HB.out.lt; omega, HM.out.notBlk HB.out⟩).alloc _, Blk.made wr _ _, (hkept.blk hbS ⟨hbS.lt, fun h => by have := HM.out.lt _ h; omega⟩).alloc _,
          hnest.below ((Below.refl _ _).alloc (Nat.le_refl _) _), hkept.alloc (fun b hb => Nat.lt_of_lt_of_le hb.1 hkept.size) _, HCUT.out.below ((Below.refl _ _).alloc (Nat.le_refl _) _)⟩
      have HIA := Lib.hid HG.out.inv
      have HBA := Lib.hid HG.out.blocks
      have HKA := Lib.hid HG.out.keyed
      have HGA := Lib.hid HG.out.bound
      have HQB := Lib.hid (show gb < wr.heap.size from (HCUT.out.block gb rfl).2)
      have HQ2 := Lib.hid (show w2.heap.size ≤ wr.heap.size from hkept.size)
      dsimp only at HIA HBA HKA HGA
      try rw [← hwq]
      clear hwq HCUT HG hnest hkept hcell
      generalize wr.heap.size = qb at *
      have hnil := mapS_nil
      have hz := Try.zeroValue63
      obtain ⟨wd, hwd⟩ : ∃ wd, wd = wq.drew := ⟨_, rfl⟩
      have hWd := hW.drew
      rw [← hwd] at hWd
      refine region_walkN (Ext wd) (by rw [← hwd]; exact Ext.refl _) (by kernel_rfl) (by kernel_rfl) (fun _ _ d _ _ h => by cases d <;> exact h) ?_
      rw [← hwd]
      clear hwd hW
      have h1 : ∀ W, Ext wd W → ∀ i, W.cell? ⟨B, i, none⟩ = (#[.map (some bT), .map (some bM), .map (some bU)] : Array Value)[i]? := fun W h => (hWd.below h).F.cells
      have h2 : ∀ W, Ext wd W → ∀ i, W.cell? ⟨qb, i, none⟩ = (#[.string qt, .string qi, .string qr] : Array Value)[i]? := fun W h => (hWd.below h).Q.cells
      have h3 : ∀ W, Ext wd W → (Instr.lookup 57 (.map (some bM)) (.agg #[.string qt, .string qi, .string qr]) false).run Try.prog W = .ok (.map (mO cur ⟨qt, qi, qr⟩)) W := fun W h => (hWd.below h).n.look Try.underlying57 (hz W) hq
      rcases hlk : lookA cur ⟨qt, qi, qr⟩ with _ | ⟨bi, ss⟩
      case' none =>
        rw [show mO cur ⟨qt, qi, qr⟩ = none from by simp [mO, hlk]] at h3
        have hnil := hnil none
        rw [show (none : Option Nat).isNone = true from rfl] at hnil
        ((refine WalkN.take 0 _ ?_ (by simp only [List.getElem?_toArray, List.getElem?_cons_zero]; rfl) (by kernel_rfl) (by kernel_rfl) (by rfl) (fun W hW => ?_) ?_; rotate_left; · (go_simp; try with_reducible rfl)); simp only [Act.put, List.setIfInBounds_toArray, List.set_cons_zero, List.set_cons_succ]); ((refine WalkN.take 1 _ ?_ (by simp only [List.getElem?_toArray, List.getElem?_cons_succ, List.getElem?_cons_zero]; rfl) (by kernel_rfl) (by kernel_rfl) (by rfl) (fun W hW => ?_) ?_; rotate_left; · (go_simp; try with_reducible rfl)); simp only [Act.put, List.setIfInBounds_toArray, List.set_cons_zero, List.set_cons_succ]); ((refine WalkN.take 2 _ ?_ (by simp only [List.getElem?_toArray, List.getElem?_cons_succ, List.getElem?_cons_zero]; rfl) (by kernel_rfl) (by kernel_rfl) (by rfl) (fun W hW => ?_) ?_; rotate_left; · (go_simp; try with_reducible rfl)); simp only [Act.put, List.setIfInBounds_toArray, List.set_cons_zero, List.set_cons_succ]); ((refine WalkN.take 3 _ ?_ (by simp only [List.getElem?_toArray, List.getElem?_cons_succ, List.getElem?_cons_zero]; rfl) (by kernel_rfl) (by kernel_rfl) (by rfl) (fun W hW => ?_) ?_; rotate_left; · (go_simp; try with_reducible rfl)); simp only [Act.put, List.setIfInBounds_toArray, List.set_cons_zero, List.set_cons_succ]); ((refine WalkN.take 4 _ ?_ (by simp only [List.getElem?_toArray, List.getElem?_cons_succ, List.getElem?_cons_zero]; rfl) (by kernel_rfl) (by kernel_rfl) (by rfl) (fun W hW => ?_) ?_; rotate_left; · (go_simp; try with_reducible rfl)); simp only [Act.put, List.setIfInBounds_toArray, List.set_cons_zero, List.set_cons_succ]); ((refine WalkN.take 5 _ ?_ (by simp only [List.getElem?_toArray, List.getElem?_cons_succ, List.getElem?_cons_zero]; rfl) (by kernel_rfl) (by kernel_rfl) (by rfl) (fun W hW => ?_) ?_; rotate_left; · (go_simp; try with_reducible rfl)); simp only [Act.put, List.setIfInBounds_toArray, List.set_cons_zero, List.set_cons_succ]); ((refine WalkN.take 6 _ ?_ (by simp only [List.getElem?_toArray, List.getElem?_cons_succ, List.getElem?_cons_zero]; rfl) (by kernel_rfl) (by kernel_rfl) (by rfl) (fun W hW => ?_) ?_; rotate_left; · (go_simp; try with_reducible rfl)); simp only [Act.put, List.setIfInBounds_toArray, List.set_cons_zero, List.set_cons_succ])
        refine WalkN.done (by kernel_rfl) ?_
        clear h1 h2 h3 hnil
        go_wp2_with fail
        obtain ⟨we, hwe⟩ : ∃ we, we = wd.drew := ⟨_, rfl⟩
        have hWe := hWd.drew
        rw [← hwe] at hWe
        refine region_walkN (fun W => Kept (fun x => x < we.heap.size ∧ x ≠ bM) we W) (by rw [← hwe]; exact Kept.refl _ _) (by kernel_rfl) (by kernel_rfl) (fun _ _ d _ _ h => by cases d <;> exact h) ?_
        rw [← hwe]
        clear hwe hWd
        have h1 : ∀ W, Kept (fun x => x < we.heap.size ∧ x ≠ bM) we W → ∀ i, W.cell? ⟨B, i, none⟩ = (#[.map (some bT), .map (some bM), .map (some bU)] : Array Value)[i]? := fun W h => (h.blk hWe.F ⟨hWe.F.lt, fun e => hWe.n.notBlk hWe.F (by simp [nB, e])⟩).cells
        have h2 : ∀ W, Kept (fun x => x < we.heap.size ∧ x ≠ bM) we W → ∀ i, W.cell? ⟨qb, i, none⟩ = (#[.string qt, .string qi, .string qr] : Array Value)[i]? := fun W h => (h.blk hWe.Q ⟨hWe.Q.lt, fun e => hWe.n.notBlk hWe.Q (by simp [nB, e])⟩).cells
        ((refine WalkN.take 0 _ ?_ (by simp only [List.getElem?_toArray, List.getElem?_cons_zero]; rfl) (by kernel_rfl) (by kernel_rfl) (by rfl) (fun W hW => ?_) ?_; rotate_left; · (go_simp; try with_reducible rfl)); simp only [Act.put, List.setIfInBounds_toArray, List.set_cons_zero, List.set_cons_succ]); ((refine WalkN.take 1 _ ?_ (by simp only [List.getElem?_toArray, List.getElem?_cons_succ, List.getElem?_cons_zero]; rfl) (by kernel_rfl) (by kernel_rfl) (by rfl) (fun W hW => ?_) ?_; rotate_left; · (go_simp; try with_reducible rfl)); simp only [Act.put, List.setIfInBounds_toArray, List.set_cons_zero, List.set_cons_succ]); ((refine WalkN.take 2 _ ?_ (by simp only [List.getElem?_toArray, List.getElem?_cons_succ, List.getElem?_cons_zero]; rfl) (by kernel_rfl) (by kernel_rfl) (by rfl) (fun W hW => ?_) ?_; rotate_left; · (go_simp; try with_reducible rfl)); simp only [Act.put, List.setIfInBounds_toArray, List.set_cons_zero, List.set_cons_succ]); ((refine WalkN.take 3 _ ?_ (by simp only [List.getElem?_toArray, List.getElem?_cons_succ, List.getElem?_cons_zero]; rfl) (by kernel_rfl) (by kernel_rfl) (by rfl) (fun W hW => ?_) ?_; rotate_left; · (go_simp; try with_reducible rfl)); simp only [Act.put, List.setIfInBounds_toArray, List.set_cons_zero, List.set_cons_succ]); ((refine WalkN.take 4 _ ?_ (by simp only [List.getElem?_toArray, List.getElem?_cons_succ, List.getElem?_cons_zero]; rfl) (by kernel_rfl) (by kernel_rfl) (by rfl) (fun W hW => ?_) ?_; rotate_left; · (go_simp; try with_reducible rfl)); simp only [Act.put, List.setIfInBounds_toArray, List.set_cons_zero, List.set_cons_succ])
        clear h1 h2
        have hmm := @run_makeMap Try.prog
        refine WalkN.one 5 (by kernel_rfl) ?_
        refine ⟨_, (by simp only [List.getElem?_toArray, List.getElem?_cons_succ, List.getElem?_cons_zero]; rfl), by rfl, fun K hK => ?_⟩
        go_simp
        refine hK.out _ _ ((Kept.refl _ _).alloc (fun b hb => hb.1) _) ?_
        clear hK
        refine WalkN.one 6 (by kernel_rfl) ?_
        refine ⟨_, (by simp only [List.getElem?_toArray, List.getElem?_cons_succ, List.getElem?_cons_zero]; rfl), by rfl, fun K hK => ?_⟩
        have hWf := hWe.below ((Below.refl _ _).alloc (Nat.le_refl _) (.map #[] 0))
        have hnew : we.heap.size ∉ nB bM cur := fun h => Nat.lt_irrefl _ (hWe.n.lt _ h)
        have hmade : Mp Try.prog 30 pV bV (we.alloc (.map #[] 0)) we.heap.size (bl []) := Mp.made we
        have hkwe : w2.heap.size ≤ we.heap.size := hWe.K.size
        refine wp_mp_store (kv := pV) (ev := nV) _ _ _ 57 rfl pointK pV_inj Try.underlying57 rfl hWf.n.top (y := ⟨qt, qi, qr⟩) rfl hq (u := (we.heap.size, [])) rfl ?_
        intro wA hm5 ht5
        refine hK.out _ _ (((Kept.refl _ _).alloc (fun b hb => hb.1) _).trans (ht5.kept.mono fun b hb => hb.2)) ?_
        clear hK
        simp only [Act.put]
        refine WalkN.done (by kernel_rfl) ?_
        have hinn : inn (putA cur ⟨qt, qi, qr⟩ (we.heap.size, [])) = inn cur := funext fun x => by
          rw [inn_put]
          split
          · rename_i e; rw [← e, inn_none hlk]
          · rfl
        obtain ⟨curA, bi, ss, hWA, hlA, HIA', HBA', HGA', HGM'⟩ : ∃ curA bi ss, PutF B bT bM bU M ⟨st, si, sr⟩ (w.heap.size + 1) w2 qb ⟨qt, qi, qr⟩ gb k c wk curA wA ∧ lookA curA ⟨qt, qi, qr⟩ = some (bi, ss) ∧ Hid (PutI (inn U) (inn M) ⟨pt, pi, pr⟩ ⟨st, si, sr⟩ (inn curA) (wk ++ [⟨qt, qi, qr⟩])) ∧
            Hid (∀ x ∈ nB bM curA, x ∈ nB bM M ∨ w2.heap.size ≤ x) ∧ Hid (putM (⟨pt, pi, pr⟩ :: U.flatMap (·.2.2)) ⟨st, si, sr⟩ (inn curA) (wk ++ [⟨qt, qi, qr⟩]) ≤ 274877906944) ∧
            Hid (putM (⟨pt, pi, pr⟩ :: U.flatMap (·.2.2)) ⟨st, si, sr⟩ (inn curA) (wk ++ [⟨qt, qi, qr⟩]) = leastM (PutL M U bM ⟨pt, pi, pr⟩ ⟨st, si, sr⟩ w2 w2.heap.size (.slice (some ⟨gb, 0, none⟩) (k + 1) c) wr) fun g => putM (⟨pt, pi, pr⟩ :: U.flatMap (·.2.2)) ⟨st, si, sr⟩ (inn g.1) g.2) :=
          ⟨putA cur ⟨qt, qi, qr⟩ (we.heap.size, []), we.heap.size, [], hWf.turn (by simp [nB]) (.inl (by simp [nB])) ht5 (hWf.n.fresh hlk hmade hnew ht5 hm5), by rw [look_put]; simp, by rw [hinn]; exact HIA,
            Lib.hid (fun x hx => by
              rcases fresh_blocks hlk x hx with h | h
              · exact HBA.out x h
              · right; omega), by rw [hinn]; exact HGA, by rw [hinn]; exact HGM⟩
        clear HIA HBA HGA HGM hm5 ht5 hmade hnew hWf hWe hlk hinn hkwe hmm
        go_wp2_with fail
      case' some =>
        rw [show mO cur ⟨qt, qi, qr⟩ = some bi from by simp [mO, hlk]] at h3
        have hnil := hnil (some bi)
        rw [show (some bi : Option Nat).isNone = false from rfl] at hnil
        ((refine WalkN.take 0 _ ?_ (by simp only [List.getElem?_toArray, List.getElem?_cons_zero]; rfl) (by kernel_rfl) (by kernel_rfl) (by rfl) (fun W hW => ?_) ?_; rotate_left; · (go_simp; try with_reducible rfl)); simp only [Act.put, List.setIfInBounds_toArray, List.set_cons_zero, List.set_cons_succ]); ((refine WalkN.take 1 _ ?_ (by simp only [List.getElem?_toArray, List.getElem?_cons_succ, List.getElem?_cons_zero]; rfl) (by kernel_rfl) (by kernel_rfl) (by rfl) (fun W hW => ?_) ?_; rotate_left; · (go_simp; try with_reducible rfl)); simp only [Act.put, List.setIfInBounds_toArray, List.set_cons_zero, List.set_cons_succ]); ((refine WalkN.take 2 _ ?_ (by simp only [List.getElem?_toArray, List.getElem?_cons_succ, List.getElem?_cons_zero]; rfl) (by kernel_rfl) (by kernel_rfl) (by rfl) (fun W hW => ?_) ?_; rotate_left; · (go_simp; try with_reducible rfl)); simp only [Act.put, List.setIfInBounds_toArray, List.set_cons_zero, List.set_cons_succ]); ((refine WalkN.take 3 _ ?_ (by simp only [List.getElem?_toArray, List.getElem?_cons_succ, List.getElem?_cons_zero]; rfl) (by kernel_rfl) (by kernel_rfl) (by rfl) (fun W hW => ?_) ?_; rotate_left; · (go_simp; try with_reducible rfl)); simp only [Act.put, List.setIfInBounds_toArray, List.set_cons_zero, List.set_cons_succ]); ((refine WalkN.take 4 _ ?_ (by simp only [List.getElem?_toArray, List.getElem?_cons_succ, List.getElem?_cons_zero]; rfl) (by kernel_rfl) (by kernel_rfl) (by rfl) (fun W hW => ?_) ?_; rotate_left; · (go_simp; try with_reducible rfl)); simp only [Act.put, List.setIfInBounds_toArray, List.set_cons_zero, List.set_cons_succ]); ((refine WalkN.take 5 _ ?_ (by simp only [List.getElem?_toArray, List.getElem?_cons_succ, List.getElem?_cons_zero]; rfl) (by kernel_rfl) (by kernel_rfl) (by rfl) (fun W hW => ?_) ?_; rotate_left; · (go_simp; try with_reducible rfl)); simp only [Act.put, List.setIfInBounds_toArray, List.set_cons_zero, List.set_cons_succ]); ((refine WalkN.take 6 _ ?_ (by simp only [List.getElem?_toArray, List.getElem?_cons_succ, List.getElem?_cons_zero]; rfl) (by kernel_rfl) (by kernel_rfl) (by rfl) (fun W hW => ?_) ?_; rotate_left; · (go_simp; try with_reducible rfl)); simp only [Act.put, List.setIfInBounds_toArray, List.set_cons_zero, List.set_cons_succ])
        refine WalkN.done (by kernel_rfl) ?_
        clear h1 h2 h3 hnil
        obtain ⟨wA, rfl⟩ : ∃ wA, wA = wd := ⟨_, rfl⟩
        obtain ⟨curA, rfl⟩ : ∃ curA, curA = cur := ⟨_, rfl⟩
        have hlA := hlk
        have hWA := hWd
        have HIA' := HIA
        have HBA' := HBA
        have HGA' := HGA
        have HGM' := HGM
        clear HIA HBA HGA HGM hlk hWd
        go_wp2_with fail
      all_goals
        have hmem := look_mem hlA
        have hzb := Try.zeroValue4
        obtain ⟨we, hwe⟩ : ∃ we, we = wA.drew := ⟨_, rfl⟩
        have hWe := hWA.drew
        rw [← hwe] at hWe
        refine region_walkN (Ext we) (by rw [← hwe]; exact Ext.refl _) (by kernel_rfl) (by kernel_rfl) (fun _ _ d _ _ h => by cases d <;> exact h) ?_
        rw [← hwe]
        clear hwe hWA
        have h1 : ∀ W, Ext we W → ∀ i, W.cell? ⟨B, i, none⟩ = (#[.map (some bT), .map (some bM), .map (some bU)] : Array Value)[i]? := fun W h => (hWe.below h).F.cells
        have h2 : ∀ W, Ext we W → ∀ i, W.cell? ⟨qb, i, none⟩ = (#[.string qt, .string qi, .string qr] : Array Value)[i]? := fun W h => (hWe.below h).Q.cells
        have h2s : ∀ W, Ext we W → ∀ i, W.cell? ⟨w.heap.size + 1, i, none⟩ = (#[.string st, .string si, .string sr] : Array Value)[i]? := fun W h => (hWe.below h).S.cells
        have h3 : ∀ W, Ext we W → (Instr.lookup 57 (.map (some bM)) (.agg #[.string qt, .string qi, .string qr]) false).run Try.prog W = .ok (.map (some bi)) W := fun W h => by
          have := (hWe.below h).n.look Try.underlying57 (hz W) hq
          rwa [show mO curA ⟨qt, qi, qr⟩ = some bi from by simp [mO, hlA]] at this
        have h4 : ∀ W, Ext we W → (Instr.lookup 63 (.map (some bi)) (.agg #[.string st, .string si, .string sr]) false).run Try.prog W = .ok (.bool (decide ((⟨st, si, sr⟩ : P3) ∈ ss))) W := fun W h => by
          have := ((hWe.below h).n.inner _ hmem).look subK pV_inj Try.underlying63 (hzb W) false HKS.out
          rw [look_bl] at this
          by_cases hin : (⟨st, si, sr⟩ : P3) ∈ ss
          · rw [decide_eq_true hin]; rw [if_pos hin] at this; exact this
          · rw [decide_eq_false hin]; rw [if_neg hin] at this; exact this
        by_cases hin : (⟨st, si, sr⟩ : P3) ∈ ss
        · rw [decide_eq_true hin] at h4
          ((refine WalkN.take 0 _ ?_ (by simp only [List.getElem?_toArray, List.getElem?_cons_zero]; rfl) (by kernel_rfl) (by kernel_rfl) (by rfl) (fun W hW => ?_) ?_; rotate_left; · (go_simp; try with_reducible rfl)); simp only [Act.put, List.setIfInBounds_toArray, List.set_cons_zero, List.set_cons_succ]); ((refine WalkN.take 1 _ ?_ (by simp only [List.getElem?_toArray, List.getElem?_cons_succ, List.getElem?_cons_zero]; rfl) (by kernel_rfl) (by kernel_rfl) (by rfl) (fun W hW => ?_) ?_; rotate_left; · (go_simp; try with_reducible rfl)); simp only [Act.put, List.setIfInBounds_toArray, List.set_cons_zero, List.set_cons_succ]); ((refine WalkN.take 2 _ ?_ (by simp only [List.getElem?_toArray, List.getElem?_cons_succ, List.getElem?_cons_zero]; rfl) (by kernel_rfl) (by kernel_rfl) (by rfl) (fun W hW => ?_) ?_; rotate_left; · (go_simp; try with_reducible rfl)); simp only [Act.put, List.setIfInBounds_toArray, List.set_cons_zero, List.set_cons_succ]); ((refine WalkN.take 3 _ ?_ (by simp only [List.getElem?_toArray, List.getElem?_cons_succ, List.getElem?_cons_zero]; rfl) (by kernel_rfl) (by kernel_rfl) (by rfl) (fun W hW => ?_) ?_; rotate_left; · (go_simp; try with_reducible rfl)); simp only [Act.put, List.setIfInBounds_toArray, List.set_cons_zero, List.set_cons_succ]); ((refine WalkN.take 4 _ ?_ (by simp only [List.getElem?_toArray, List.getElem?_cons_succ, List.getElem?_cons_zero]; rfl) (by kernel_rfl) (by kernel_rfl) (by rfl) (fun W hW => ?_) ?_; rotate_left; · (go_simp; try with_reducible rfl)); simp only [Act.put, List.setIfInBounds_toArray, List.set_cons_zero, List.set_cons_succ]); ((refine WalkN.take 5 _ ?_ (by simp only [List.getElem?_toArray, List.getElem?_cons_succ, List.getElem?_cons_zero]; rfl) (by kernel_rfl) (by kernel_rfl) (by rfl) (fun W hW => ?_) ?_; rotate_left; · (go_simp; try with_reducible rfl)); simp only [Act.put, List.setIfInBounds_toArray, List.set_cons_zero, List.set_cons_succ]); ((refine WalkN.take 6 _ ?_ (by simp only [List.getElem?_toArray, List.getElem?_cons_succ, List.getElem?_cons_zero]; rfl) (by kernel_rfl) (by kernel_rfl) (by rfl) (fun W hW => ?_) ?_; rotate_left; · (go_simp; try with_reducible rfl)); simp only [Act.put, List.setIfInBounds_toArray, List.set_cons_zero, List.set_cons_succ]); ((refine WalkN.take 7 _ ?_ (by simp only [List.getElem?_toArray, List.getElem?_cons_succ, List.getElem?_cons_zero]; rfl) (by kernel_rfl) (by kernel_rfl) (by rfl) (fun W hW => ?_) ?_; rotate_left; · (go_simp; try with_reducible rfl)); simp only [Act.put, List.setIfInBounds_toArray, List.set_cons_zero, List.set_cons_succ])
          refine WalkN.done (by kernel_rfl) ?_
          clear h1 h2 h2s h3 h4
          have HN : PutL M U bM ⟨pt, pi, pr⟩ ⟨st, si, sr⟩ w2 w2.heap.size (.slice (some ⟨gb, 0, none⟩) k c) we (curA, wk) :=
            ⟨hWe.O, hWe.n, HIA'.out.skip (by rw [inn_some hlA]; exact hin), HBA'.out, hWe.K, fun x hx => HKA.out x (by simp [hx]), Nat.le_trans (Nat.le_of_lt (putM_skip _ _ _ _ _)) HGA'.out⟩
          have HNN := Lib.hid HN
          clear HN
          go_wp2_with fail
          go_roundw
          case rel => exact ⟨_, HNN.out⟩
          case measure =>
            refine Nat.lt_of_le_of_lt (leastM_le _ HNN.out) ?_
            rw [← HGM'.out]
            exact putM_skip _ _ _ _ _
        · rw [decide_eq_false hin] at h4
          ((refine WalkN.take 0 _ ?_ (by simp only [List.getElem?_toArray, List.getElem?_cons_zero]; rfl) (by kernel_rfl) (by kernel_rfl) (by rfl) (fun W hW => ?_) ?_; rotate_left; · (go_simp; try with_reducible rfl)); simp only [Act.put, List.setIfInBounds_toArray, List.set_cons_zero, List.set_cons_succ]); ((refine WalkN.take 1 _ ?_ (by simp only [List.getElem?_toArray, List.getElem?_cons_succ, List.getElem?_cons_zero]; rfl) (by kernel_rfl) (by kernel_rfl) (by rfl) (fun W hW => ?_) ?_; rotate_left; · (go_simp; try with_reducible rfl)); simp only [Act.put, List.setIfInBounds_toArray, List.set_cons_zero, List.set_cons_succ]); ((refine WalkN.take 2 _ ?_ (by simp only [List.getElem?_toArray, List.getElem?_cons_succ, List.getElem?_cons_zero]; rfl) (by kernel_rfl) (by kernel_rfl) (by rfl) (fun W hW => ?_) ?_; rotate_left; · (go_simp; try with_reducible rfl)); simp only [Act.put, List.setIfInBounds_toArray, List.set_cons_zero, List.set_cons_succ]); ((refine WalkN.take 3 _ ?_ (by simp only [List.getElem?_toArray, List.getElem?_cons_succ, List.getElem?_cons_zero]; rfl) (by kernel_rfl) (by kernel_rfl) (by rfl) (fun W hW => ?_) ?_; rotate_left; · (go_simp; try with_reducible rfl)); simp only [Act.put, List.setIfInBounds_toArray, List.set_cons_zero, List.set_cons_succ]); ((refine WalkN.take 4 _ ?_ (by simp only [List.getElem?_toArray, List.getElem?_cons_succ, List.getElem?_cons_zero]; rfl) (by kernel_rfl) (by kernel_rfl) (by rfl) (fun W hW => ?_) ?_; rotate_left; · (go_simp; try with_reducible rfl)); simp only [Act.put, List.setIfInBounds_toArray, List.set_cons_zero, List.set_cons_succ]); ((refine WalkN.take 5 _ ?_ (by simp only [List.getElem?_toArray, List.getElem?_cons_succ, List.getElem?_cons_zero]; rfl) (by kernel_rfl) (by kernel_rfl) (by rfl) (fun W hW => ?_) ?_; rotate_left; · (go_simp; try with_reducible rfl)); simp only [Act.put, List.setIfInBounds_toArray, List.set_cons_zero, List.set_cons_succ]); ((refine WalkN.take 6 _ ?_ (by simp only [List.getElem?_toArray, List.getElem?_cons_succ, List.getElem?_cons_zero]; rfl) (by kernel_rfl) (by kernel_rfl) (by rfl) (fun W hW => ?_) ?_; rotate_left; · (go_simp; try with_reducible rfl)); simp only [Act.put, List.setIfInBounds_toArray, List.set_cons_zero, List.set_cons_succ]); ((refine WalkN.take 7 _ ?_ (by simp only [List.getElem?_toArray, List.getElem?_cons_succ, List.getElem?_cons_zero]; rfl) (by kernel_rfl) (by kernel_rfl) (by rfl) (fun W hW => ?_) ?_; rotate_left; · (go_simp; try with_reducible rfl)); simp only [Act.put, List.setIfInBounds_toArray, List.set_cons_zero, List.set_cons_succ])
          refine WalkN.done (by kernel_rfl) ?_
          clear h1 h2 h2s h3 h4
          go_wp2_with fail
          obtain ⟨wf, hwf⟩ : ∃ wf, wf = we.drew := ⟨_, rfl⟩
          have hWf := hWe.drew
          rw [← hwf] at hWf
          have hbm : bi ∈ nB bM curA := List.mem_cons_of_mem _ (List.mem_map.2 ⟨_, hmem, rfl⟩)
          refine region_walkN (fun W => Kept (fun x => x < wf.heap.size ∧ x ≠ bi) wf W) (by rw [← hwf]; exact Kept.refl _ _) (by kernel_rfl) (by kernel_rfl) (fun _ _ d _ _ h => by cases d <;> exact h) ?_
          rw [← hwf]
          clear hwf hWe
          have hFne : B ≠ bi := fun e => hWf.n.notBlk hWf.F (e ▸ hbm)
          have hQne : qb ≠ bi := fun e => hWf.n.notBlk hWf.Q (e ▸ hbm)
          have hSne : w.heap.size + 1 ≠ bi := fun e => hWf.n.notBlk hWf.S (e ▸ hbm)
          have hMne : bM ≠ bi := fun e => by
            have := (List.nodup_cons.1 hWf.n.apart).1
            exact this (e ▸ List.mem_map.2 ⟨_, hmem, rfl⟩)
          have h1 : ∀ W, Kept (fun x => x < wf.heap.size ∧ x ≠ bi) wf W → ∀ i, W.cell? ⟨B, i, none⟩ = (#[.map (some bT), .map (some bM), .map (some bU)] : Array Value)[i]? := fun W h => (h.blk hWf.F ⟨hWf.F.lt, hFne⟩).cells
          have h2 : ∀ W, Kept (fun x => x < wf.heap.size ∧ x ≠ bi) wf W → ∀ i, W.cell? ⟨qb, i, none⟩ = (#[.string qt, .string qi, .string qr] : Array Value)[i]? := fun W h => (h.blk hWf.Q ⟨hWf.Q.lt, hQne⟩).cells
          have h2s : ∀ W, Kept (fun x => x < wf.heap.size ∧ x ≠ bi) wf W → ∀ i, W.cell? ⟨w.heap.size + 1, i, none⟩ = (#[.string st, .string si, .string sr] : Array Value)[i]? := fun W h => (h.blk hWf.S ⟨hWf.S.lt, hSne⟩).cells
          have h3 : ∀ W, Kept (fun x => x < wf.heap.size ∧ x ≠ bi) wf W → (Instr.lookup 57 (.map (some bM)) (.agg #[.string qt, .string qi, .string qr]) false).run Try.prog W = .ok (.map (some bi)) W := fun W h => by
            have := (hWf.n.top.same (h.block bM ⟨hWf.n.top.lt, hMne⟩)).look pointK pV_inj Try.underlying57 (hz W) false hq
            rw [hlA] at this
            exact this
          ((refine WalkN.take 0 _ ?_ (by simp only [List.getElem?_toArray, List.getElem?_cons_zero]; rfl) (by kernel_rfl) (by kernel_rfl) (by rfl) (fun W hW => ?_) ?_; rotate_left; · (go_simp; try with_reducible rfl)); simp only [Act.put, List.setIfInBounds_toArray, List.set_cons_zero, List.set_cons_succ]); ((refine WalkN.take 1 _ ?_ (by simp only [List.getElem?_toArray, List.getElem?_cons_succ, List.getElem?_cons_zero]; rfl) (by kernel_rfl) (by kernel_rfl) (by rfl) (fun W hW => ?_) ?_; rotate_left; · (go_simp; try with_reducible rfl)); simp only [Act.put, List.setIfInBounds_toArray, List.set_cons_zero, List.set_cons_succ]); ((refine WalkN.take 2 _ ?_ (by simp only [List.getElem?_toArray, List.getElem?_cons_succ, List.getElem?_cons_zero]; rfl) (by kernel_rfl) (by kernel_rfl) (by rfl) (fun W hW => ?_) ?_; rotate_left; · (go_simp; try with_reducible rfl)); simp only [Act.put, List.setIfInBounds_toArray, List.set_cons_zero, List.set_cons_succ]); ((refine WalkN.take 3 _ ?_ (by simp only [List.getElem?_toArray, List.getElem?_cons_succ, List.getElem?_cons_zero]; rfl) (by kernel_rfl) (by kernel_rfl) (by rfl) (fun W hW => ?_) ?_; rotate_left; · (go_simp; try with_reducible rfl)); simp only [Act.put, List.setIfInBounds_toArray, List.set_cons_zero, List.set_cons_succ]); ((refine WalkN.take 4 _ ?_ (by simp only [List.getElem?_toArray, List.getElem?_cons_succ, List.getElem?_cons_zero]; rfl) (by kernel_rfl) (by kernel_rfl) (by rfl) (fun W hW => ?_) ?_; rotate_left; · (go_simp; try with_reducible rfl)); simp only [Act.put, List.setIfInBounds_toArray, List.set_cons_zero, List.set_cons_succ]); ((refine WalkN.take 5 _ ?_ (by simp only [List.getElem?_toArray, List.getElem?_cons_succ, List.getElem?_cons_zero]; rfl) (by kernel_rfl) (by kernel_rfl) (by rfl) (fun W hW => ?_) ?_; rotate_left; · (go_simp; try with_reducible rfl)); simp only [Act.put, List.setIfInBounds_toArray, List.set_cons_zero, List.set_cons_succ]); ((refine WalkN.take 6 _ ?_ (by simp only [List.getElem?_toArray, List.getElem?_cons_succ, List.getElem?_cons_zero]; rfl) (by kernel_rfl) (by kernel_rfl) (by rfl) (fun W hW => ?_) ?_; rotate_left; · (go_simp; try with_reducible rfl)); simp only [Act.put, List.setIfInBounds_toArray, List.set_cons_zero, List.set_cons_succ])
          clear h1 h2 h2s h3
          refine WalkN.one 7 (by kernel_rfl) ?_
          refine ⟨_, (by simp only [List.getElem?_toArray, List.getElem?_cons_succ, List.getElem?_cons_zero]; rfl), by rfl, fun K hK => ?_⟩
          refine wp_mp_store (kv := pV) (ev := bV) _ _ _ 63 rfl subK pV_inj Try.underlying63 rfl (hWf.n.inner _ hmem) (y := ⟨st, si, sr⟩) rfl HKS.out (u := true) rfl ?_
          intro wg hm7 ht7
          refine hK.out _ _ (ht7.kept.mono fun b hb => hb.2) ?_
          clear hK
          simp only [Act.put]
          refine WalkN.done (by kernel_rfl) ?_
          rw [put_bl _ _ hin] at hm7
          have hWg : PutF B bT bM bU M ⟨st, si, sr⟩ (w.heap.size + 1) w2 qb ⟨qt, qi, qr⟩ gb k c wk (putA curA ⟨qt, qi, qr⟩ (bi, ss ++ [⟨st, si, sr⟩])) wg :=
            hWf.turn hbm (HBA'.out bi hbm) ht7 (hWf.n.mark hlA ht7 hm7)
          clear hWf hFne hQne hSne hMne ht7 hm7
          go_wp2_with fail
          have hzp := Try.zeroValue77
          obtain ⟨wh, hwh⟩ : ∃ wh, wh = wg.drew := ⟨_, rfl⟩
          have hWh := hWg.drew
          rw [← hwh] at hWh
          refine region_walkN (fun W => Kept (fun x => x < wh.heap.size ∧ x ≠ gb) wh W) (by rw [← hwh]; exact Kept.refl _ _) (by kernel_rfl) (by kernel_rfl) (fun _ _ d _ _ h => by cases d <;> exact h) ?_
          rw [← hwh]
          clear hwh hWg
          have hUh : Nest 37 wh bU U := hd_users HU HD h02 hWh.K
          have hgb : w2.heap.size ≤ gb ∧ gb < wh.heap.size := hWh.O.block gb rfl
          have hFne : B ≠ gb := fun e => by have h1 := HB.out.lt; have h2 := h02.size; have h3 := hgb.1; omega
          have hQne : qb ≠ gb := fun e => by have := HQB.out; omega
          have h1 : ∀ W, Kept (fun x => x < wh.heap.size ∧ x ≠ gb) wh W → ∀ i, W.cell? ⟨B, i, none⟩ = (#[.map (some bT), .map (some bM), .map (some bU)] : Array Value)[i]? := fun W h => (h.blk hWh.F ⟨hWh.F.lt, hFne⟩).cells
          have h2 : ∀ W, Kept (fun x => x < wh.heap.size ∧ x ≠ gb) wh W → ∀ i, W.cell? ⟨qb, i, none⟩ = (#[.string qt, .string qi, .string qr] : Array Value)[i]? := fun W h => (h.blk hWh.Q ⟨hWh.Q.lt, hQne⟩).cells
          have h3 : ∀ W, Kept (fun x => x < wh.heap.size ∧ x ≠ gb) wh W → (Instr.lookup 58 (.map (some bU)) (.agg #[.string qt, .string qi, .string qr]) false).run Try.prog W = .ok (.map (mO U ⟨qt, qi, qr⟩)) W := fun W h =>
            (hUh.same fun x hx => h.block x ⟨hUh.lt x hx, fun e => hUh.notOwn hWh.O x hx (by rw [e]; rfl)⟩).look Try.underlying58 (hzp W) hq
          ((refine WalkN.take 0 _ ?_ (by simp only [List.getElem?_toArray, List.getElem?_cons_zero]; rfl) (by kernel_rfl) (by kernel_rfl) (by rfl) (fun W hW => ?_) ?_; rotate_left; · (go_simp; try with_reducible rfl)); simp only [Act.put, List.setIfInBounds_toArray, List.set_cons_zero, List.set_cons_succ]); ((refine WalkN.take 1 _ ?_ (by simp only [List.getElem?_toArray, List.getElem?_cons_succ, List.getElem?_cons_zero]; rfl) (by kernel_rfl) (by kernel_rfl) (by rfl) (fun W hW => ?_) ?_; rotate_left; · (go_simp; try with_reducible rfl)); simp only [Act.put, List.setIfInBounds_toArray, List.set_cons_zero, List.set_cons_succ]); ((refine WalkN.take 2 _ ?_ (by simp only [List.getElem?_toArray, List.getElem?_cons_succ, List.getElem?_cons_zero]; rfl) (by kernel_rfl) (by kernel_rfl) (by rfl) (fun W hW => ?_) ?_; rotate_left; · (go_simp; try with_reducible rfl)); simp only [Act.put, List.setIfInBounds_toArray, List.set_cons_zero, List.set_cons_succ]); ((refine WalkN.take 3 _ ?_ (by simp only [List.getElem?_toArray, List.getElem?_cons_succ, List.getElem?_cons_zero]; rfl) (by kernel_rfl) (by kernel_rfl) (by rfl) (fun W hW => ?_) ?_; rotate_left; · (go_simp; try with_reducible rfl)); simp only [Act.put, List.setIfInBounds_toArray, List.set_cons_zero, List.set_cons_succ]); ((refine WalkN.take 4 _ ?_ (by simp only [List.getElem?_toArray, List.getElem?_cons_succ, List.getElem?_cons_zero]; rfl) (by kernel_rfl) (by kernel_rfl) (by rfl) (fun W hW => ?_) ?_; rotate_left; · (go_simp; try with_reducible rfl)); simp only [Act.put, List.setIfInBounds_toArray, List.set_cons_zero, List.set_cons_succ]); ((refine WalkN.take 5 _ ?_ (by simp only [List.getElem?_toArray, List.getElem?_cons_succ, List.getElem?_cons_zero]; rfl) (by kernel_rfl) (by kernel_rfl) (by rfl) (fun W hW => ?_) ?_; rotate_left; · (go_simp; try with_reducible rfl)); simp only [Act.put, List.setIfInBounds_toArray, List.set_cons_zero, List.set_cons_succ]); ((refine WalkN.take 6 _ ?_ (by simp only [List.getElem?_toArray, List.getElem?_cons_succ, List.getElem?_cons_zero]; rfl) (by kernel_rfl) (by kernel_rfl) (by rfl) (fun W hW => ?_) ?_; rotate_left; · (go_simp; try with_reducible rfl)); simp only [Act.put, List.setIfInBounds_toArray, List.set_cons_zero, List.set_cons_succ])
          clear h1 h2 h3
          have HK := Lib.hid (keysP_any (mO U ⟨qt, qi, qr⟩) wh)
          have HWK := Lib.hid hWh.K
          have hWi := hWh.below ((Below.refl _ _).alloc (Nat.le_refl _) (.cells #[.map (mO U ⟨qt, qi, qr⟩)] 77))
          have hUi := hUh.below ((Below.refl _ _).alloc (Nat.le_refl _) (.cells #[.map (mO U ⟨qt, qi, qr⟩)] 77))
          have hsi : w2.heap.size ≤ (wh.alloc (.cells #[.map (mO U ⟨qt, qi, qr⟩)] 77)).heap.size := hWi.K.size
          have HA := Lib.hid (appP_any (wh.alloc (.cells #[.map (mO U ⟨qt, qi, qr⟩)] 77)) w2.heap.size hsi (.slice (some ⟨gb, 0, none⟩) k c) wk wh.heap.size (mO U ⟨qt, qi, qr⟩) (bl (inn U ⟨qt, qi, qr⟩))
            (by
              have h1 := putM_work (⟨pt, pi, pr⟩ :: U.flatMap (·.2.2)) ⟨st, si, sr⟩ (inn curA) (wk ++ [⟨qt, qi, qr⟩])
              have h2 := HGA'.out
              have h3 := inn_length U ⟨qt, qi, qr⟩
              have h4 := HT.out
              rw [List.length_append] at h1
              rw [List.length_map]
              omega) hWi.O (by simp) (Blk.made wh #[.map (mO U ⟨qt, qi, qr⟩)] 77 |>.cells 0) (hUi.inn ⟨qt, qi, qr⟩))
          have HWI := Lib.hid hWi
          have HUI := Lib.hid hUi
          clear hsi hUi hWi
          refine WalkN.one 7 (by kernel_rfl) ?_
          refine ⟨_, (by simp only [List.getElem?_toArray, List.getElem?_cons_succ, List.getElem?_cons_zero]; rfl), by rfl, fun K hK => ?_⟩
          go_simp
          refine HK.out.mono ?_
          rintro e w7 ⟨rfl, rfl⟩
          refine hK.out _ _ ((Kept.refl _ _).alloc (fun b hb => hb.1) _) ?_
          clear hK HK
          refine WalkN.one 8 (by kernel_rfl) ?_
          refine ⟨_, (by simp only [List.getElem?_toArray, List.getElem?_cons_succ, List.getElem?_cons_zero]; rfl), by rfl, fun K hK => ?_⟩
          go_simp
          refine HA.out.mono ?_
          rintro e w8 ⟨v', ns, rfl, hp8, ho8, hk8, hf8⟩
          refine hK.out _ _ (((Kept.refl _ _).alloc (fun b hb => hb.1) _).trans (hk8.mono fun b hb => ⟨by simp; have := hb.1; omega, fun e => hb.2 (by cases e; rfl)⟩)) ?_
          clear hK HA
          ((refine WalkN.take 9 _ ?_ (by simp only [List.getElem?_toArray, List.getElem?_cons_succ, List.getElem?_cons_zero]; rfl) (by kernel_rfl) (by kernel_rfl) (by rfl) (fun W hW => ?_) ?_; rotate_left; · (go_simp; try with_reducible rfl)); simp only [Act.put, List.setIfInBounds_toArray, List.set_cons_zero, List.set_cons_succ])
          refine WalkN.done (by kernel_rfl) ?_
          rw [bl_keys] at hp8
          have hmk : ∀ x y, y ∈ inn (putA curA ⟨qt, qi, qr⟩ (bi, ss ++ [⟨st, si, sr⟩])) x ↔ y ∈ inn curA x ∨ (x = ⟨qt, qi, qr⟩ ∧ y = ⟨st, si, sr⟩) := fun x y => by
            rw [inn_put]
            by_cases hx : (⟨qt, qi, qr⟩ : P3) = x
            · subst hx
              rw [if_pos rfl, inn_some hlA]
              simp
            · rw [if_neg hx]
              simp [Ne.symm hx]
          have hqV : (⟨qt, qi, qr⟩ : P3) ∈ (⟨pt, pi, pr⟩ :: U.flatMap (·.2.2) : List P3) := reach_mem (U := inn U) (by simp) (fun a r hr => List.mem_cons_of_mem _ (inn_sub hr)) (HIA'.out.work _ (by simp))
          have hlt := putM_mark (V := ⟨pt, pi, pr⟩ :: U.flatMap (·.2.2)) (wk := wk) (ns := ns) hmk hqV (by rw [inn_some hlA]; exact hin) (by
            rw [hp8.length_eq, List.length_cons]
            exact Nat.le_succ_of_le (inn_length U _))
          have HLT := Lib.hid hlt
          have HNN := Lib.hid (show PutL M U bM ⟨pt, pi, pr⟩ ⟨st, si, sr⟩ w2 w2.heap.size v' w8 (putA curA ⟨qt, qi, qr⟩ (bi, ss ++ [⟨st, si, sr⟩]), wk ++ ns) from
            ⟨ho8, HWI.out.n.keeps hf8, HIA'.out.mark hmk (fun r => hp8.mem_iff), by rw [mark_blocks hlA]; exact HBA'.out, HWI.out.K.trans (hk8.mono fun b hb => ⟨Nat.lt_of_lt_of_le hb.1 HWI.out.K.size, fun e => by have h1 := hgb.1; have h2 := hb.1; simp [Value.ownBlock] at e; omega⟩), fun x hx => by
              rcases List.mem_append.1 hx with hx | hx
              · exact HKA.out x (by simp [hx])
              · exact HUI.out.keyedP _ x (hp8.mem_iff.1 hx), Nat.le_trans (Nat.le_of_lt hlt) HGA'.out⟩)
          clear hlt hmk hqV hp8 ho8 hk8 hf8 HWI HUI hUh hgb hFne hQne hWh HWK
          go_wp2_with fail
          go_roundw
          case rel => exact ⟨_, HNN.out⟩
          case measure =>
            refine Nat.lt_of_le_of_lt (leastM_le _ HNN.out) ?_
            rw [← HGM'.out]
            exact HLT.out

end Go.Proofs.Ytcbgemnmehoeaaa
