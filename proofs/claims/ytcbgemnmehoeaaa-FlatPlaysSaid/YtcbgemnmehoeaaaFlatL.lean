/- A flat in memory; what changes it. No condition: lemmas. -/
import Derived.Test.YtcbgemnmehoeaaaFlatK
namespace Go.Proofs.Ytcbgemnmehoeaaa
open Go Go.RowKit Go.Maps

abbrev tl (l : List Tup) : List (Tup × Bool) := l.map fun t => (t, true)
structure FlS where
  bT : Nat
  bM : Nat
  bU : Nat
  T : List Tup
  M : NL
  U : NL
/-- The blocks of what follows. -/
def FlS.foot (f : FlS) : List Nat := nB f.bM f.M ++ nB f.bU f.U
/-- Block B is a flat. -/
structure FlatAt (w : World) (B : Nat) (f : FlS) : Prop where
  F : Blk w B #[.map (some f.bT), .map (some f.bM), .map (some f.bU)] 60
  T : Mp Try.prog 32 tV bV w f.bT (tl f.T)
  M : Nest 30 w f.bM f.M
  U : Nest 37 w f.bU f.U
  dT : f.bT ∉ f.foot
  dU : ∀ x ∈ nB f.bU f.U, x ∉ nB f.bM f.M
/-- All its blocks. -/
def footB (B : Nat) (f : FlS) : List Nat := B :: f.bT :: f.foot

section
variable {w w' : World} {B : Nat} {f : FlS}
theorem FlatAt.isMap (h : FlatAt w B f) : ∀ x ∈ f.bT :: f.foot, ∃ es c, w.heap[x]? = some (.map es c) := by
  intro x hx
  rcases List.mem_cons.1 hx with rfl | hx
  · exact h.T.isMap
  · rcases List.mem_append.1 hx with hx | hx
    · exact h.M.isMap x hx
    · exact h.U.isMap x hx
theorem FlatAt.lt (h : FlatAt w B f) : ∀ x ∈ footB B f, x < w.heap.size := by
  intro x hx
  rcases List.mem_cons.1 hx with rfl | hx
  · exact h.F.lt
  · obtain ⟨es, c, hm⟩ := h.isMap x hx
    exact (Array.getElem?_eq_some_iff.1 hm).1
theorem FlatAt.notBlk (h : FlatAt w B f) {b : Nat} {cs : Array Value} {t : TypeId} (hB : Blk w b cs t) : b ∉ f.bT :: f.foot := fun hx => by
  obtain ⟨es, c, hm⟩ := h.isMap b hx
  rw [show w.heap[b]? = _ from hB] at hm
  cases hm
theorem FlatAt.notOwn (h : FlatAt w B f) {B0 : Nat} {e : TypeId} {sz : Nat} {v : Value} {xs : List Value} (ho : Own w B0 e sz v xs) : ∀ x ∈ f.bT :: f.foot, v.ownBlock ≠ some x := fun x hx e => by
  obtain ⟨es, c, hm⟩ := h.isMap x hx
  obtain ⟨cur, hc⟩ := ho.typed e
  rw [hm] at hc
  cases hc
theorem FlatAt.same (h : FlatAt w B f) (hs : ∀ x ∈ footB B f, w'.heap[x]? = w.heap[x]?) : FlatAt w' B f :=
  ⟨(hs B (by simp [footB])).trans h.F, h.T.same (hs _ (by simp [footB])), h.M.same fun x hx => hs x (by simp only [footB, FlS.foot]; exact List.mem_cons_of_mem _ (List.mem_cons_of_mem _ (List.mem_append_left _ hx))),
    h.U.same fun x hx => hs x (by simp only [footB, FlS.foot]; exact List.mem_cons_of_mem _ (List.mem_cons_of_mem _ (List.mem_append_right _ hx))), h.dT, h.dU⟩
theorem FlatAt.below (h : FlatAt w B f) (hb : Below w.heap.size w w') : FlatAt w' B f := h.same fun x hx => hb.block x (h.lt x hx)
theorem FlatAt.kept (h : FlatAt w B f) {K : Nat → Prop} (hk : Kept K w w') (hf : ∀ x ∈ footB B f, K x) : FlatAt w' B f := h.same fun x hx => hk.block x (hf x hx)

/-- The members are others. -/
theorem FlatAt.setM (h : FlatAt w B f) {M' : NL} (hn : Nest 30 w' f.bM M') (hb : ∀ x ∈ nB f.bM M', x ∈ nB f.bM f.M ∨ w.heap.size ≤ x) (hk : Kept (fun b => b < w.heap.size ∧ b ∉ nB f.bM f.M) w w') : FlatAt w' B { f with M := M' } where
  F := hk.blk h.F ⟨h.F.lt, h.M.notBlk h.F⟩
  T := h.T.kept hk ⟨h.T.lt, fun hx => h.dT (List.mem_append_left _ hx)⟩
  M := hn
  U := h.U.same fun x hx => hk.block x ⟨h.U.lt x hx, h.dU x hx⟩
  dT := fun hx => by
    rcases List.mem_append.1 hx with hx | hx
    · rcases hb _ hx with k | k
      · exact h.dT (List.mem_append_left _ k)
      · exact absurd h.T.lt (Nat.not_lt.2 k)
    · exact h.dT (List.mem_append_right _ hx)
  dU := fun x hx hy => by
    rcases hb x hy with k | k
    · exact h.dU x hx k
    · exact absurd (h.U.lt x hx) (Nat.not_lt.2 k)
/-- The users are others. -/
theorem FlatAt.setU (h : FlatAt w B f) {U' : NL} (hn : Nest 37 w' f.bU U') (hb : ∀ x ∈ nB f.bU U', x ∈ nB f.bU f.U ∨ w.heap.size ≤ x) (hk : Kept (fun b => b < w.heap.size ∧ b ∉ nB f.bU f.U) w w') : FlatAt w' B { f with U := U' } where
  F := hk.blk h.F ⟨h.F.lt, h.U.notBlk h.F⟩
  T := h.T.kept hk ⟨h.T.lt, fun hx => h.dT (List.mem_append_right _ hx)⟩
  M := h.M.same fun x hx => hk.block x ⟨h.M.lt x hx, fun hy => h.dU x hy hx⟩
  U := hn
  dT := fun hx => by
    rcases List.mem_append.1 hx with hx | hx
    · exact h.dT (List.mem_append_left _ hx)
    · rcases hb _ hx with k | k
      · exact h.dT (List.mem_append_right _ k)
      · exact absurd h.T.lt (Nat.not_lt.2 k)
  dU := fun x hx hy => by
    rcases hb x hx with k | k
    · exact h.dU x k hy
    · exact absurd (h.M.lt x hy) (Nat.not_lt.2 k)
end

/-- follow's rounds: what is seen. -/
structure FolF (w : World) (f0 : FlS) (B : Nat) (t : Tup) (pb qb : Nat) (wx : World) (f : FlS) : Prop where
  A : FlatAt wx B f
  P : Blk wx pb #[.string t.o.t, .string t.o.i, .string t.o.r] 37
  Q : Blk wx qb #[.string t.s.t, .string t.s.i, .string t.s.r] 37
  K : Kept (fun b => b < w.heap.size ∧ b ∉ f0.foot) w wx
  foot : ∀ x ∈ f.foot, x ∈ f0.foot ∨ w.heap.size ≤ x

section
variable {w wx wy : World} {f0 f : FlS} {B pb qb : Nat} {t : Tup}
theorem FolF.below (h : FolF w f0 B t pb qb wx f) (hb : Below wx.heap.size wx wy) : FolF w f0 B t pb qb wy f :=
  ⟨h.A.below hb, h.P.below hb, h.Q.below hb, h.K.trans (Below.kept hb fun _ hx => Nat.lt_of_lt_of_le hx.1 h.K.size), h.foot⟩
theorem FolF.setM (h : FolF w f0 B t pb qb wx f) {M' : NL} (hn : Nest 30 wy f.bM M') (hb : ∀ x ∈ nB f.bM M', x ∈ nB f.bM f.M ∨ wx.heap.size ≤ x) (hk : Kept (fun b => b < wx.heap.size ∧ b ∉ nB f.bM f.M) wx wy) : FolF w f0 B t pb qb wy { f with M := M' } where
  A := h.A.setM hn hb hk
  P := hk.blk h.P ⟨h.P.lt, h.A.M.notBlk h.P⟩
  Q := hk.blk h.Q ⟨h.Q.lt, h.A.M.notBlk h.Q⟩
  K := h.K.trans (hk.mono fun x hx => ⟨Nat.lt_of_lt_of_le hx.1 h.K.size, fun hy => by
    rcases h.foot x (List.mem_append_left _ hy) with k | k
    · exact hx.2 k
    · exact absurd hx.1 (Nat.not_lt.2 k)⟩)
  foot := fun x hx => by
    rcases List.mem_append.1 hx with hx | hx
    · rcases hb x hx with k | k
      · exact h.foot x (List.mem_append_left _ k)
      · exact .inr (Nat.le_trans h.K.size k)
    · exact h.foot x (List.mem_append_right _ hx)
theorem FolF.setU (h : FolF w f0 B t pb qb wx f) {U' : NL} (hn : Nest 37 wy f.bU U') (hb : ∀ x ∈ nB f.bU U', x ∈ nB f.bU f.U ∨ wx.heap.size ≤ x) (hk : Kept (fun b => b < wx.heap.size ∧ b ∉ nB f.bU f.U) wx wy) : FolF w f0 B t pb qb wy { f with U := U' } where
  A := h.A.setU hn hb hk
  P := hk.blk h.P ⟨h.P.lt, h.A.U.notBlk h.P⟩
  Q := hk.blk h.Q ⟨h.Q.lt, h.A.U.notBlk h.Q⟩
  K := h.K.trans (hk.mono fun x hx => ⟨Nat.lt_of_lt_of_le hx.1 h.K.size, fun hy => by
    rcases h.foot x (List.mem_append_right _ hy) with k | k
    · exact hx.2 k
    · exact absurd hx.1 (Nat.not_lt.2 k)⟩)
  foot := fun x hx => by
    rcases List.mem_append.1 hx with hx | hx
    · exact h.foot x (List.mem_append_left _ hx)
    · rcases hb x hx with k | k
      · exact h.foot x (List.mem_append_right _ k)
      · exact .inr (Nat.le_trans h.K.size k)
end

/-- The keys of a tuple. -/
structure TK (t : Tup) : Prop where
  o : KeyP t.o
  s : KeyS t.s
  q : KeyP t.s
  t : ∃ q, keyOf Try.prog 32 (tV t) = some q
theorem TK.of_ok {t : Tup} (h : t.Ok) : TK t := ⟨point_key _ h.1, sub_key _ h.2, point_key _ h.2, tuple_key _ h⟩

/-- One more user. -/
def addU (us : List P3) (o : P3) : List P3 := if o ∈ us then us else us ++ [o]
theorem addU_bl (us : List P3) (o : P3) : putA (bl us) o true = bl (addU us o) := by
  unfold addU
  by_cases h : o ∈ us
  · rw [if_pos h, put_bl_in _ _ h]
  · rw [if_neg h, put_bl _ _ h]
theorem addU_mem (us : List P3) (o x : P3) : x ∈ addU us o ↔ x ∈ us ∨ x = o := by
  unfold addU
  by_cases h : o ∈ us
  · rw [if_pos h]
    constructor
    · exact .inl
    · rintro (k | rfl)
      · exact k
      · exact h
  · rw [if_neg h]; simp
theorem addU_length (us : List P3) (o : P3) : (addU us o).length ≤ us.length + 1 := by
  unfold addU
  split <;> simp

end Go.Proofs.Ytcbgemnmehoeaaa
