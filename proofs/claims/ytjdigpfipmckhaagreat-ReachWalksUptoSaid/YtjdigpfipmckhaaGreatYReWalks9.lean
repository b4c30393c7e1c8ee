/- Lemmas for the claim, no condition. -/
import Derived.Sort.Walk0
import Derived.Test.YtjdigpfipmckhaaGreatYReWalks8
import Derived.Test.YtjdigpfipmckhaaGreatYReWalks0
namespace Go.Proofs.YtjdigpfipmckhaaGreat
open Go Go.RowKit
def subsOf (T : List Tup) (p : P3) : List P3 := (T.filter fun t => decide (t.o = p)).map (·.s)
inductive FT where
  | mk (k : Int) (subs : List P3) (refs : List Int) (ps : List FT)
def FT.k : FT → Int | .mk k _ _ _ => k
def FT.subs : FT → List P3 | .mk _ s _ _ => s
def FT.refs : FT → List Int | .mk _ _ r _ => r
def FT.ps : FT → List FT | .mk _ _ _ ps => ps
def FT.zero : FT := .mk 0 [] [] []
instance : Inhabited FT := ⟨FT.zero⟩
mutual
def FT.sz : FT → Nat | .mk _ _ _ ps => 1 + fszL ps
def fszL : List FT → Nat | [] => 0 | r :: rs => r.sz + fszL rs
end
theorem fszL_mem {p : FT} : ∀ {ps : List FT}, p ∈ ps → p.sz ≤ fszL ps
  | r :: rs, h => by
    rw [fszL]
    rcases List.mem_cons.1 h with rfl | h
    · omega
    · have := fszL_mem h
      omega
theorem FT.sz_lt {r p : FT} (h : p ∈ r.ps) : p.sz < r.sz := by
  obtain ⟨k, a, b, ps⟩ := r
  have := fszL_mem (show p ∈ ps from h)
  rw [FT.sz]
  omega
theorem FT.ind {Q : FT → Prop} (h : ∀ r, (∀ p ∈ r.ps, Q p) → Q r) (r : FT) : Q r := by
  generalize hn : r.sz = n
  induction n using Nat.strongRecOn generalizing r with
  | ind n ih => exact h r fun p hp => ih p.sz (by have := FT.sz_lt hp; omega) p rfl
def numD (ps : List P3) (p : P3) : Nat := ps.findIdx fun x => decide (x = p)
def putP (ps : List P3) (p : P3) : List P3 := if p ∈ ps then ps else ps ++ [p]
def refsD : List P3 → List Int → List P3 → List Int × List P3
  | ps, out, [] => (out, ps)
  | ps, out, p :: l => refsD (putP ps p) (if (numD ps p : Int) ∈ out then out else out ++ [(numD ps p : Int)]) l
theorem refsD_snoc : ∀ (l : List P3) (ps : List P3) (out : List Int) (p : P3), refsD ps out (l ++ [p]) = (if (numD (refsD ps out l).2 p : Int) ∈ (refsD ps out l).1 then (refsD ps out l).1 else (refsD ps out l).1 ++ [(numD (refsD ps out l).2 p : Int)], putP (refsD ps out l).2 p)
  | [], ps, out, p => rfl
  | x :: l, ps, out, p => by rw [List.cons_append, refsD, refsD, refsD_snoc l]
def setsOf (l : List P3) : List P3 := l.filter fun s => decide (s.r ≠ ⟨#[]⟩)
def viaOf (b : ByteArray) (l : List P3) : List P3 := (l.filter fun s => decide (s.r = ⟨#[]⟩)).map fun s => ⟨s.t, s.i, b⟩
def headF (T : List Tup) (p : P3) (k : Int) (a b : ByteArray) (ps : List P3) : List P3 × List Int × List P3 :=
  if k = 1 then (subsOf T p, refsD ps [] (setsOf (subsOf T p)))
  else if k = 2 then ([], [(numD ps ⟨p.t, p.i, a⟩ : Int)], putP ps ⟨p.t, p.i, a⟩)
  else if k = 3 then ([], refsD ps [] (viaOf b (subsOf T ⟨p.t, p.i, a⟩)))
  else ([], [], ps)
mutual
def formD (T : List Tup) (p : P3) : RT → List P3 → FT × List P3
  | .mk k a b parts, ps => (.mk k (headF T p k a b ps).1 (headF T p k a b ps).2.1 (formsD T p parts (headF T p k a b ps).2.2).1, (formsD T p parts (headF T p k a b ps).2.2).2)
def formsD (T : List Tup) (p : P3) : List RT → List P3 → List FT × List P3
  | [], ps => ([], ps)
  | r :: rs, ps => ((formD T p r ps).1 :: (formsD T p rs (formD T p r ps).2).1, (formsD T p rs (formD T p r ps).2).2)
end
theorem formD_eq (T : List Tup) (p : P3) (r : RT) (ps : List P3) : formD T p r ps = (.mk r.k (headF T p r.k r.a r.b ps).1 (headF T p r.k r.a r.b ps).2.1 (formsD T p r.ps (headF T p r.k r.a r.b ps).2.2).1, (formsD T p r.ps (headF T p r.k r.a r.b ps).2.2).2) := by
  obtain ⟨k, a, b, parts⟩ := r
  rw [formD]
  rfl
theorem formsD_snoc (T : List Tup) (p : P3) : ∀ (rs : List RT) (r : RT) (ps : List P3), formsD T p (rs ++ [r]) ps = ((formsD T p rs ps).1 ++ [(formD T p r (formsD T p rs ps).2).1], (formD T p r (formsD T p rs ps).2).2)
  | [], r, ps => by simp [formsD]
  | x :: rs, r, ps => by rw [List.cons_append, formsD, formsD_snoc T p rs r, formsD]; rfl
theorem formsD_take (T : List Tup) (p : P3) (rs : List RT) (ps : List P3) (i : Nat) (h : i < rs.length) : formsD T p (rs.take (i + 1)) ps = ((formsD T p (rs.take i) ps).1 ++ [(formD T p rs[i] (formsD T p (rs.take i) ps).2).1], (formD T p rs[i] (formsD T p (rs.take i) ps).2).2) := by
  rw [List.take_succ_eq_append_getElem h, formsD_snoc]
def ruleOf (ts : List TyS) (shut : List R2) (p : P3) : Option RT := if (⟨p.t, p.r⟩ : R2) ∈ shut then none else lookA (refsOf ts) ⟨p.t, p.r⟩
def stepG (ts : List TyS) (T : List Tup) (shut : List R2) (p : P3) (ps : List P3) : FT × List P3 :=
  match ruleOf ts shut p with
  | some r => formD T p r ps
  | none => (FT.zero, ps)
def walkN (ts : List TyS) (T : List Tup) (shut : List R2) (p : P3) : Nat → List P3 × List FT
  | 0 => ([p], [])
  | n + 1 => ((stepG ts T shut ((walkN ts T shut p n).1.getD n p) (walkN ts T shut p n).1).2, (walkN ts T shut p n).2 ++ [(stepG ts T shut ((walkN ts T shut p n).1.getD n p) (walkN ts T shut p n).1).1])
/-! What stays true of the points. -/
theorem putP_pre (ps : List P3) (p : P3) : ps <+: putP ps p := by
  unfold putP
  split
  · exact List.prefix_refl _
  · exact List.prefix_append _ _
theorem putP_mem (ps : List P3) (p x : P3) : x ∈ putP ps p ↔ x ∈ ps ∨ x = p := by
  unfold putP
  split
  · next h => exact ⟨.inl, fun h2 => h2.elim id fun e => e ▸ h⟩
  · simp
theorem putP_nodup {ps : List P3} (h : ps.Nodup) (p : P3) : (putP ps p).Nodup := by
  unfold putP
  split
  · exact h
  · next hn =>
    rw [List.nodup_append]
    refine ⟨h, by simp, fun a ha b hb => ?_⟩
    rw [List.mem_singleton.1 hb]
    exact fun e => hn (e ▸ ha)
theorem refsD_pre : ∀ (l : List P3) (ps : List P3) (out : List Int), ps <+: (refsD ps out l).2
  | [], ps, _ => List.prefix_refl _
  | p :: l, ps, out => by rw [refsD]; exact (putP_pre ps p).trans (refsD_pre l _ _)
theorem refsD_mem : ∀ (l : List P3) (ps : List P3) (out : List Int) (x : P3), x ∈ (refsD ps out l).2 ↔ x ∈ ps ∨ x ∈ l
  | [], ps, _, x => by simp [refsD]
  | p :: l, ps, out, x => by
    rw [refsD, refsD_mem l, putP_mem, List.mem_cons]
    constructor
    · rintro ((h | h) | h)
      · exact .inl h
      · exact .inr (.inl h)
      · exact .inr (.inr h)
    · rintro (h | h | h)
      · exact .inl (.inl h)
      · exact .inl (.inr h)
      · exact .inr h
theorem refsD_nodup : ∀ (l : List P3) (ps : List P3) (out : List Int), ps.Nodup → (refsD ps out l).2.Nodup
  | [], _, _, h => h
  | p :: l, ps, out, h => by rw [refsD]; exact refsD_nodup l _ _ (putP_nodup h p)
theorem headF_pre (T : List Tup) (p : P3) (k : Int) (a b : ByteArray) (ps : List P3) : ps <+: (headF T p k a b ps).2.2 := by
  unfold headF
  split
  · exact refsD_pre _ _ _
  · split
    · exact putP_pre _ _
    · split
      · exact refsD_pre _ _ _
      · exact List.prefix_refl _
theorem headF_nodup (T : List Tup) (p : P3) (k : Int) (a b : ByteArray) {ps : List P3} (h : ps.Nodup) : (headF T p k a b ps).2.2.Nodup := by
  unfold headF
  split
  · exact refsD_nodup _ _ _ h
  · split
    · exact putP_nodup h _
    · split
      · exact refsD_nodup _ _ _ h
      · exact h
theorem formD_pre (T : List Tup) (p : P3) (r : RT) : ∀ ps : List P3, ps <+: (formD T p r ps).2 := by
  induction r using RT.ind with
  | h r ih =>
    intro ps
    rw [formD_eq]
    have : ∀ (l : List RT) (qs : List P3), (∀ x ∈ l, x ∈ r.ps) → qs <+: (formsD T p l qs).2 := by
      intro l
      induction l with
      | nil => intro qs _; exact List.prefix_refl _
      | cons x l ihl => intro qs hx; rw [formsD]; exact (ih x (hx x (by simp)) qs).trans (ihl _ fun y hy => hx y (List.mem_cons_of_mem _ hy))
    exact (headF_pre T p r.k r.a r.b ps).trans (this r.ps _ fun _ h => h)
theorem formD_nodup (T : List Tup) (p : P3) (r : RT) : ∀ {ps : List P3}, ps.Nodup → (formD T p r ps).2.Nodup := by
  induction r using RT.ind with
  | h r ih =>
    intro ps h
    rw [formD_eq]
    have : ∀ (l : List RT) (qs : List P3), (∀ x ∈ l, x ∈ r.ps) → qs.Nodup → (formsD T p l qs).2.Nodup := by
      intro l
      induction l with
      | nil => intro qs _ h; exact h
      | cons x l ihl => intro qs hx h; rw [formsD]; exact ihl _ (fun y hy => hx y (List.mem_cons_of_mem _ hy)) (ih x (hx x (by simp)) h)
    exact this r.ps _ (fun _ h => h) (headF_nodup T p r.k r.a r.b h)
theorem stepG_pre (ts : List TyS) (T : List Tup) (shut : List R2) (p : P3) (ps : List P3) : ps <+: (stepG ts T shut p ps).2 := by
  unfold stepG
  split
  · exact formD_pre _ _ _ _
  · exact List.prefix_refl _
theorem stepG_nodup (ts : List TyS) (T : List Tup) (shut : List R2) (p : P3) {ps : List P3} (h : ps.Nodup) : (stepG ts T shut p ps).2.Nodup := by
  unfold stepG
  split
  · exact formD_nodup _ _ _ h
  · exact h
theorem walkN_nodup (ts : List TyS) (T : List Tup) (shut : List R2) (p : P3) : ∀ n, (walkN ts T shut p n).1.Nodup
  | 0 => by simp [walkN]
  | n + 1 => by rw [walkN]; exact stepG_nodup _ _ _ _ (walkN_nodup ts T shut p n)
theorem walkN_pre (ts : List TyS) (T : List Tup) (shut : List R2) (p : P3) : ∀ n m, n ≤ m → (walkN ts T shut p n).1 <+: (walkN ts T shut p m).1
  | n, 0, h => by
    obtain rfl : n = 0 := by omega
    exact List.prefix_refl _
  | n, m + 1, h => by
    by_cases e : n = m + 1
    · subst e; exact List.prefix_refl _
    · refine (walkN_pre ts T shut p n m (by omega)).trans ?_
      rw [walkN]
      exact stepG_pre _ _ _ _ _
theorem walkN_forms (ts : List TyS) (T : List Tup) (shut : List R2) (p : P3) : ∀ n, (walkN ts T shut p n).2.length = n
  | 0 => rfl
  | n + 1 => by rw [walkN]; simp [walkN_forms ts T shut p n]
/-! All points lie in one finite list. -/
mutual
def RT.nms : RT → List ByteArray | .mk _ a b ps => a :: b :: nmsL ps
def nmsL : List RT → List ByteArray | [] => [] | r :: rs => r.nms ++ nmsL rs
end
theorem RT.nms_eq (r : RT) : r.nms = r.a :: r.b :: nmsL r.ps := by
  obtain ⟨k, a, b, ps⟩ := r
  rw [RT.nms]
  rfl
theorem nmsL_mem {r : RT} : ∀ {l : List RT}, r ∈ l → ∀ n ∈ r.nms, n ∈ nmsL l
  | x :: l, h, n, hn => by
    rw [nmsL, List.mem_append]
    rcases List.mem_cons.1 h with rfl | h
    · exact .inl hn
    · exact .inr (nmsL_mem h n hn)
def InU (O : List (ByteArray × ByteArray)) (N : List ByteArray) (x : P3) : Prop := (x.t, x.i) ∈ O ∧ x.r ∈ N
structure OkU (T : List Tup) (O : List (ByteArray × ByteArray)) (N : List ByteArray) : Prop where
  objs : ∀ t ∈ T, (t.s.t, t.s.i) ∈ O
  rels : ∀ t ∈ T, t.s.r ∈ N
theorem subsOf_mem {T : List Tup} {p x : P3} (h : x ∈ subsOf T p) : ∃ t ∈ T, t.o = p ∧ t.s = x := by
  unfold subsOf at h
  obtain ⟨t, ht, rfl⟩ := List.mem_map.1 h
  rw [List.mem_filter] at ht
  exact ⟨t, ht.1, by simpa using ht.2, rfl⟩
theorem headF_in {T : List Tup} {O : List (ByteArray × ByteArray)} {N : List ByteArray} (h : OkU T O N) {p : P3} (hp : (p.t, p.i) ∈ O) {k : Int} {a b : ByteArray} (ha : a ∈ N) (hb : b ∈ N) {ps : List P3} (hs : ∀ x ∈ ps, InU O N x) : ∀ x ∈ (headF T p k a b ps).2.2, InU O N x := by
  unfold headF
  split
  · intro x hx
    rcases (refsD_mem _ _ _ x).1 hx with hx | hx
    · exact hs x hx
    · unfold setsOf at hx
      rw [List.mem_filter] at hx
      obtain ⟨t, ht, _, rfl⟩ := subsOf_mem hx.1
      exact ⟨h.objs t ht, h.rels t ht⟩
  · split
    · intro x hx
      rcases (putP_mem _ _ x).1 hx with hx | rfl
      · exact hs x hx
      · exact ⟨hp, ha⟩
    · split
      · intro x hx
        rcases (refsD_mem _ _ _ x).1 hx with hx | hx
        · exact hs x hx
        · unfold viaOf at hx
          obtain ⟨y, hy, rfl⟩ := List.mem_map.1 hx
          rw [List.mem_filter] at hy
          obtain ⟨t, ht, _, rfl⟩ := subsOf_mem hy.1
          exact ⟨h.objs t ht, hb⟩
      · exact hs
theorem formD_in {T : List Tup} {O : List (ByteArray × ByteArray)} {N : List ByteArray} (h : OkU T O N) {p : P3} (hp : (p.t, p.i) ∈ O) (r : RT) : (∀ n ∈ r.nms, n ∈ N) → ∀ {ps : List P3}, (∀ x ∈ ps, InU O N x) → ∀ x ∈ (formD T p r ps).2, InU O N x := by
  induction r using RT.ind with
  | h r ih =>
    intro hn ps hs
    rw [formD_eq]
    rw [RT.nms_eq] at hn
    have : ∀ (l : List RT) (qs : List P3), (∀ x ∈ l, x ∈ r.ps) → (∀ x ∈ qs, InU O N x) → ∀ x ∈ (formsD T p l qs).2, InU O N x := by
      intro l
      induction l with
      | nil => intro qs _ h; exact h
      | cons y l ihl =>
        intro qs hx hq
        rw [formsD]
        exact ihl _ (fun z hz => hx z (List.mem_cons_of_mem _ hz)) (ih y (hx y (by simp)) (fun n hn' => hn n (List.mem_cons_of_mem _ (List.mem_cons_of_mem _ (nmsL_mem (hx y (by simp)) n hn')))) hq)
    exact this r.ps _ (fun _ h => h) (headF_in h hp (hn _ (by simp)) (hn _ (by simp)) hs)
def NmU (ts : List TyS) (N : List ByteArray) : Prop := ∀ x ∈ refsOf ts, ∀ n ∈ x.2.nms, n ∈ N
theorem stepG_in {ts : List TyS} {T : List Tup} {O : List (ByteArray × ByteArray)} {N : List ByteArray} (h : OkU T O N) (hN : NmU ts N) (shut : List R2) {p : P3} (hp : InU O N p) {ps : List P3} (hs : ∀ x ∈ ps, InU O N x) : ∀ x ∈ (stepG ts T shut p ps).2, InU O N x := by
  unfold stepG
  split
  · next r hr =>
    refine formD_in h hp.1 r ?_ hs
    unfold ruleOf at hr
    split at hr
    · cases hr
    · exact hN _ (look_mem hr)
  · exact hs
theorem walkN_in {ts : List TyS} {T : List Tup} {O : List (ByteArray × ByteArray)} {N : List ByteArray} (h : OkU T O N) (hN : NmU ts N) (shut : List R2) {p : P3} (hp : InU O N p) : ∀ n, ∀ x ∈ (walkN ts T shut p n).1, InU O N x
  | 0 => by
    intro x hx
    rw [walkN] at hx
    rw [List.mem_singleton.1 hx]
    exact hp
  | n + 1 => by
    have ih := walkN_in h hN shut hp n
    rw [walkN]
    refine stepG_in h hN shut ?_ ih
    rw [List.getD_eq_getElem?_getD]
    cases e : (walkN ts T shut p n).1[n]? with
    | none => exact hp
    | some y => exact ih y (List.mem_of_getElem? e)
theorem nodup_leR {α : Type} : ∀ {l u : List α}, l.Nodup → (∀ x ∈ l, x ∈ u) → l.length ≤ u.length
  | [], _, _, _ => Nat.zero_le _
  | a :: l, u, hn, hs => by
    obtain ⟨p, q, rfl⟩ := List.append_of_mem (hs a List.mem_cons_self)
    rw [List.nodup_cons] at hn
    have h1 := nodup_leR (l := l) (u := p ++ q) hn.2 fun x hx => by
      have h2 := hs x (List.mem_cons_of_mem _ hx)
      rcases List.mem_append.1 h2 with h3 | h3
      · exact List.mem_append_left _ h3
      · rcases List.mem_cons.1 h3 with h3 | h3
        · subst h3; exact absurd hx hn.1
        · exact List.mem_append_right _ h3
    simp only [List.length_cons, List.length_append] at h1 ⊢
    omega
theorem inU_few {O : List (ByteArray × ByteArray)} {N : List ByteArray} {l : List P3} (hn : l.Nodup) (h : ∀ x ∈ l, InU O N x) : l.length ≤ O.length * N.length := by
  have h1 : ∀ x ∈ l, x ∈ O.flatMap fun o => N.map fun r => (⟨o.1, o.2, r⟩ : P3) := fun x hx => by
    obtain ⟨h2, h3⟩ := h x hx
    exact List.mem_flatMap.2 ⟨_, h2, List.mem_map.2 ⟨_, h3, rfl⟩⟩
  refine Nat.le_trans (nodup_leR hn h1) (Nat.le_of_eq ?_)
  clear h h1 hn
  induction O with
  | nil => simp
  | cons o O ih => rw [List.flatMap_cons, List.length_append, ih, List.length_map, List.length_cons, Nat.add_mul]; omega
/-! How the walk ends. -/
def WalkAt (ts : List TyS) (T : List Tup) (shut : List R2) (p : P3) (most : Int) (n : Nat) : Prop := ∀ m, m < n → m < (walkN ts T shut p m).1.length ∧ ((walkN ts T shut p m).1.length : Int) ≤ most
def WalkEnd (ts : List TyS) (T : List Tup) (shut : List R2) (p : P3) (most : Int) (n : Nat) : Prop := WalkAt ts T shut p most n ∧ n = (walkN ts T shut p n).1.length
def WalkLong (ts : List TyS) (T : List Tup) (shut : List R2) (p : P3) (most : Int) : Prop := ∃ n, WalkAt ts T shut p most n ∧ n < (walkN ts T shut p n).1.length ∧ most < ((walkN ts T shut p n).1.length : Int)
theorem WalkEnd.uniq {ts : List TyS} {T : List Tup} {shut : List R2} {p : P3} {most most' : Int} {n m : Nat} (h : WalkEnd ts T shut p most n) (k : WalkEnd ts T shut p most' m) : n = m := by
  rcases Nat.lt_trichotomy n m with hlt | h2 | hlt
  · have := (k.1 n hlt).1
    have := h.2
    omega
  · exact h2
  · have := (h.1 m hlt).1
    have := k.2
    omega
theorem walk_mono (ts : List TyS) (T : List Tup) (shut : List R2) (p : P3) {n m : Nat} (h : n ≤ m) : (walkN ts T shut p n).1.length ≤ (walkN ts T shut p m).1.length := (walkN_pre ts T shut p n m h).length_le
theorem WalkEnd.notLong {ts : List TyS} {T : List Tup} {shut : List R2} {p : P3} {most : Int} {n : Nat} (h : WalkEnd ts T shut p most n) : ¬ WalkLong ts T shut p most := by
  rintro ⟨m, h1, h2, h3⟩
  rcases Nat.lt_trichotomy n m with hlt | rfl | hlt
  · have := (h1 n hlt).1
    have := h.2
    omega
  · have := h.2; omega
  · have := (h.1 m hlt).2
    omega
end Go.Proofs.YtjdigpfipmckhaaGreat
namespace Go.Proofs.YtjdigpfipmckhaaGreat
open Go Go.RowKit
def ic (l : List Int) : List Value := l.map fun n => .int .i64 n
theorem ic_append (a b : List Int) : ic (a ++ b) = ic a ++ ic b := by simp [ic]
theorem ic_length (a : List Int) : (ic a).length = a.length := by simp [ic]
theorem intsT : ElemT Tryz.prog 87 3 1 8 := ElemT.mk' Tryz.underlying87 (show _ = some (some (.int .i64 0), 1, 8) by kernel_rfl) rfl (by decide)
theorem Sl.ints {S : Nat → Prop} {w : World} {v : Value} {l : List Int} (h : Sl S w 1 v (ic l)) : ∃ ao c, v = .slice ao l.length c ∧ l.length ≤ c ∧ c ≤ 9223372036854775807 ∧ ∀ j, (hj : j < l.length) → ∃ b off, ao = some ⟨b, off, none⟩ ∧ S b ∧ w.cell? ⟨b, off + j, none⟩ = some (.int .i64 l[j]) := by
  obtain ⟨ao, n, c, rfl, h1, h2, h3, h4, h5⟩ := h
  rw [ic_length, Nat.mul_one] at h1
  subst h1
  refine ⟨ao, c, rfl, h2, by have e : maxLen = 9223372036854775807 := rfl; omega, fun j hj => ?_⟩
  obtain ⟨b, off, rfl, hb, hc⟩ := h5 (by intro e; have := congrArg List.length e; rw [ic_length, List.length_nil] at this; omega)
  exact ⟨b, off, rfl, hb, hc j _ (by simp [ic, hj])⟩
end Go.Proofs.YtjdigpfipmckhaaGreat
namespace Go.Proofs.YtjdigpfipmckhaaGreat
open Go Go.RowKit
def ltS (a b : ByteArray) : Bool := Op.bytesLess a.toList b.toList
theorem ltS_iff (a b : ByteArray) : ltS a b = decide (a.data.toList < b.data.toList) := by
  unfold ltS
  rw [ByteArray.toList_eq, ByteArray.toList_eq]
  exact bytesLess_eq _ _
theorem ltS_irr (a : ByteArray) : ltS a a = false := by
  rw [ltS_iff]; simp [List.lt_irrefl]
theorem ltS_trans {a b c : ByteArray} (h : ltS a b = true) (k : ltS b c = true) : ltS a c = true := by
  rw [ltS_iff] at *
  simp only [decide_eq_true_eq] at *
  exact List.lt_trans h k
theorem ltS_total {a b : ByteArray} (h : ltS a b = false) (hne : a ≠ b) : ltS b a = true := by
  rw [ltS_iff] at *
  simp only [decide_eq_true_eq, decide_eq_false_iff_not] at *
  have h1 : b.data.toList ≤ a.data.toList := List.not_lt.1 h
  rcases List.le_iff_lt_or_eq.1 h1 with h2 | h2
  · exact h2
  · exact absurd (ByteArray.ext (by rw [← Array.toList_inj]; exact h2.symm)) hne
theorem ba_beq {a b : ByteArray} (h : a ≠ b) : (a.data.toList == b.data.toList) = false := by
  rw [beq_eq_false_iff_ne]
  exact fun e => h (ByteArray.ext (by rw [← Array.toList_inj]; exact e))
def cmpS (a b : ByteArray) : Int := if ltS a b then -1 else if a = b then 0 else 1
theorem cmpS_zero (a b : ByteArray) : cmpS a b = 0 ↔ a = b := by
  unfold cmpS
  by_cases h : a = b
  · subst h; simp [ltS_irr]
  · cases ltS a b <;> simp [h]
theorem cmpS_neg (a b : ByteArray) : cmpS a b < 0 ↔ ltS a b = true := by
  unfold cmpS
  cases h : ltS a b with
  | true => simp
  | false => by_cases e : a = b <;> simp [e]
set_option maxHeartbeats 400000 in
theorem cmpS_any (a b : ByteArray) (w : World) : Calls Tryz.prog 71 #[.string a, .string b] w fun e w' => e = .returned (.int .i64 (cmpS a b)) ∧ w = w' := by
  by_cases hl : ltS a b = true
  · have HC := Lib.hid (show cmpS a b = -1 from by simp [cmpS, hl])
    unfold ltS at hl
    go_enter Tryz.func71, Tryz.ntmps71
    go_wp2
    go_ret
    exact ⟨by rw [HC.out]; rfl, rfl⟩
  · have hl : ltS a b = false := by simpa using hl
    by_cases he : a = b
    · subst he
      have HC := Lib.hid (show cmpS a a = 0 from by simp [cmpS, hl])
      have h1 : Op.bytesLess a.toList a.toList = false := hl
      clear hl
      go_enter Tryz.func71, Tryz.ntmps71
      go_wp2
      go_ret
      exact ⟨by rw [HC.out]; rfl, rfl⟩
    · have HC := Lib.hid (show cmpS a b = 1 from by simp [cmpS, hl, he])
      have h1 : Op.bytesLess a.toList b.toList = false := hl
      have h2 := ba_beq he
      rw [← ByteArray.toList_eq, ← ByteArray.toList_eq] at h2
      clear hl he
      go_enter Tryz.func71, Tryz.ntmps71
      go_wp2
      go_ret
      exact ⟨by rw [HC.out]; rfl, rfl⟩
def orL : List Int → Int
  | [] => 0
  | a :: l => if a = 0 then orL l else a
theorem orL_drop {l : List Int} : ∀ {i : Nat}, (∀ j (hj : j < l.length), j < i → l[j] = 0) → orL l = orL (l.drop i) := by
  induction l with
  | nil => intro i _; simp [orL]
  | cons a l ih =>
    intro i h
    cases i with
    | zero => rfl
    | succ i =>
      have h0 := h 0 (by simp) (by omega)
      simp only [List.getElem_cons_zero] at h0
      rw [orL, if_pos h0, List.drop_succ_cons]
      refine ih fun j hj hji => ?_
      have h1 := h (j + 1) (by simpa using hj) (by omega)
      rwa [List.getElem_cons_succ] at h1
def icL (l : List Int) : List Value := l.map fun n => .int .i64 n
set_option maxRecDepth 100000 in
set_option maxHeartbeats 800000 in
theorem orL_any (v : Value) (l : List Int) (w : World) (S : Nat → Prop) (h : Sl S w 1 v (icL l)) :
    Calls Tryz.prog 70 #[v] w fun e w' => e = .returned (.int .i64 (orL l)) ∧ w = w' := by
  obtain ⟨ao, n, c, rfl, h1, hnc, hcm, _, hc⟩ := h
  have hn : l.length = n := by simpa [icL] using h1
  subst hn
  have hcm' : c ≤ 9223372036854775807 := by unfold maxLen at hcm; omega
  have HC := Lib.hid hc
  clear hc h1 hcm
  go_enter Tryz.func70, Tryz.ntmps70
  go_wp2
  go_loop [8] (fun ii => ∃ i : Nat, i ≤ l.length ∧ ii = .int .i64 i ∧ ∀ j (hj : j < l.length), j < i → l[j] = 0) (fun ii => l.length - (intOf ii).toNat)
  case atStart => exact ⟨0, by omega, rfl, fun _ _ h => absurd h (by omega)⟩
  case round =>
    obtain ⟨i, hi, rfl, hall⟩ := hrel
    have HALL := Lib.hid hall
    clear hall
    by_cases hlt : i < l.length
    · obtain ⟨b, off, rfl, -, hcc⟩ := HC.out (by intro e; have := congrArg List.length e; simp [icL] at this; subst this; simp at hlt)
      have hci := hcc i (.int .i64 l[i]) (by simp [icL, hlt])
      have HD := Lib.hid (show orL l = orL (l[i] :: l.drop (i + 1)) from by rw [orL_drop HALL.out, List.drop_eq_getElem_cons hlt])
      have HN := Lib.hid (fun h => upto_succ (p := fun j hj => l[j] = 0) HALL.out hlt h)
      clear hcc
      generalize l[i] = a at *
      by_cases ha : a = 0
      · subst ha
        have HN2 := Lib.hid (HN.out rfl)
        clear HN
        go_wp2
        go_round
        case rel => exact ⟨i + 1, by omega, by go_num, HN2.out⟩
        case measure => simp [intOf]; omega
      · have HV := Lib.hid (show orL l = a from by rw [HD.out, orL, if_neg ha])
        have ha2 : (a != 0) = true := by simpa using ha
        clear ha
        go_wp2
        go_ret
        exact ⟨by rw [HV.out]; rfl, rfl⟩
    · obtain rfl : i = l.length := by omega
      have HV := Lib.hid (show orL l = 0 from by rw [orL_drop HALL.out, List.drop_length]; rfl)
      go_wp2
      go_ret
      exact ⟨by rw [HV.out]; rfl, rfl⟩
end Go.Proofs.YtjdigpfipmckhaaGreat
