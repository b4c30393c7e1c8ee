/- Lemmas for the claim, no condition. -/
import Derived.Shelf.Small.Strs
import Derived.Shelf.LaysM
import Derived.Test.YtjdigpfipmckhaaYRcClose5
import Derived.Test.YtjdigpfipmckhaaYRcClose4
import Derived.Test.YtjdigpfipmckhaaYRcClose0
import Derived.Test.YtjdigpfipmckhaaYRcClose19
namespace Go.Proofs.Ytjdigpfipmckhaa
open Go Go.RowKit
def ltT (a b : Tup) : Bool := if a.o = b.o then ltP a.s b.s else ltP a.o b.o
def cmpT (a b : Tup) : Int := if ltT a b then -1 else if a = b then 0 else 1
theorem ltP_ne {a b : P3} (h : ltP a b = true) : a ≠ b := fun e => by subst e; rw [ltP_irr] at h; cases h
theorem ltT_irr (a : Tup) : ltT a a = false := by simp [ltT, ltP_irr]
theorem ltT_total {a b : Tup} (h : ltT a b = false) (hne : a ≠ b) : ltT b a = true := by
  unfold ltT at *
  by_cases h1 : a.o = b.o
  · rw [if_pos h1] at h
    rw [if_pos h1.symm]
    refine ltP_total h fun h2 => hne ?_
    cases a; cases b; simp_all
  · rw [if_neg h1] at h
    rw [if_neg (Ne.symm h1)]
    exact ltP_total h h1
theorem ltT_trans {a b c : Tup} (h : ltT a b = true) (k : ltT b c = true) : ltT a c = true := by
  unfold ltT at *
  by_cases h1 : a.o = b.o <;> by_cases k1 : b.o = c.o
  · rw [if_pos h1] at h
    rw [if_pos k1] at k
    rw [if_pos (h1.trans k1)]
    exact ltP_trans h k
  · rw [if_neg k1] at k
    rw [if_neg (h1 ▸ k1), h1]
    exact k
  · rw [if_neg h1] at h
    rw [if_neg (k1 ▸ h1), ← k1]
    exact h
  · rw [if_neg h1] at h
    rw [if_neg k1] at k
    have := ltP_trans h k
    rw [if_neg (ltP_ne this)]
    exact this
theorem lt_cmpT (a b : Tup) : Go.Proofs.ltOf cmpT a b = ltT a b := by
  unfold Go.Proofs.ltOf cmpT
  cases h : ltT a b with
  | true => simp
  | false =>
    simp only [Bool.false_eq_true, if_false]
    split <;> simp
theorem swoT : Go.Sort.SWO (Go.Proofs.ltOf cmpT) where
  irrefl x := by rw [lt_cmpT]; exact ltT_irr x
  trans x y z h k := by rw [lt_cmpT] at *; exact ltT_trans h k
  ntrans x y z h k := by
    rw [lt_cmpT] at *
    cases hxz : ltT x z with
    | false => rfl
    | true =>
      by_cases e1 : x = y
      · subst e1; rw [hxz] at k; cases k
      · have h1 := ltT_total h e1
        have h2 := ltT_trans h1 hxz
        rw [h2] at k
        cases k
def UpT (l : List Tup) : Prop := l.Pairwise fun a b => ltT a b = true
theorem UpT.nodup {l : List Tup} (h : UpT l) : l.Nodup := h.imp fun {a b} hab e => by subst e; rw [ltT_irr] at hab; cases hab
theorem UpT.uniq : ∀ {l m : List Tup}, UpT l → UpT m → (∀ t, t ∈ l ↔ t ∈ m) → l = m
  | [], [], _, _, _ => rfl
  | [], b :: m, _, _, h => by have := (h b).2 (by simp); cases this
  | a :: l, [], _, _, h => by have := (h a).1 (by simp); cases this
  | a :: l, b :: m, hl, hm, h => by
    have hl1 := List.pairwise_cons.1 hl
    have hm1 := List.pairwise_cons.1 hm
    have hab : a = b := by
      rcases List.mem_cons.1 ((h a).1 (by simp)) with e | e
      · exact e
      · rcases List.mem_cons.1 ((h b).2 (by simp)) with e2 | e2
        · exact e2.symm
        · have h1 := hm1.1 a e
          have h2 := hl1.1 b e2
          have := ltT_trans h1 h2
          rw [ltT_irr] at this
          cases this
    subst hab
    congr 1
    refine UpT.uniq hl1.2 hm1.2 fun t => ⟨fun ht => ?_, fun ht => ?_⟩
    · rcases List.mem_cons.1 ((h t).1 (List.mem_cons_of_mem _ ht)) with e | e
      · subst e
        have := hl1.1 t ht
        rw [ltT_irr] at this
        cases this
      · exact e
    · rcases List.mem_cons.1 ((h t).2 (List.mem_cons_of_mem _ ht)) with e | e
      · subst e
        have := hm1.1 t ht
        rw [ltT_irr] at this
        cases this
      · exact e
theorem UpT.filter {l : List Tup} (h : UpT l) (p : Tup → Bool) : UpT (l.filter p) := List.Pairwise.filter _ h
structure SetT (l T : List Tup) : Prop where
  up : UpT T
  mem : ∀ t, t ∈ T ↔ t ∈ l ∧ chkT t = true
theorem SetT.uniq {l T U : List Tup} (h : SetT l T) (k : SetT l U) : T = U := h.up.uniq k.up fun t => (h.mem t).trans (k.mem t).symm
theorem SetT.len {l T : List Tup} (h : SetT l T) : T.length ≤ l.length := by
  have : ∀ {l u : List Tup}, l.Nodup → (∀ x ∈ l, x ∈ u) → l.length ≤ u.length := by
    intro l
    induction l with
    | nil => intro u _ _; exact Nat.zero_le _
    | cons a l ih =>
      intro u hn hs
      obtain ⟨p, q, rfl⟩ := List.append_of_mem (hs a List.mem_cons_self)
      rw [List.nodup_cons] at hn
      have h1 := ih (u := p ++ q) hn.2 fun x hx => by
        have h2 := hs x (List.mem_cons_of_mem _ hx)
        rcases List.mem_append.1 h2 with h3 | h3
        · exact List.mem_append_left _ h3
        · rcases List.mem_cons.1 h3 with h3 | h3
          · subst h3; exact absurd hx hn.1
          · exact List.mem_append_right _ h3
      simp only [List.length_cons, List.length_append] at h1 ⊢
      omega
  exact this h.up.nodup fun x hx => ((h.mem x).1 hx).1
end Go.Proofs.Ytjdigpfipmckhaa
namespace Go.Proofs.Ytjdigpfipmckhaa
open Go Go.RowKit Go.Shelf
theorem Gr.fields {w w' : World} (h : Gr w w') : w'.tape = w.tape ∧ w'.os = w.os ∧ w'.output = w.output ∧ w.drawn ≤ w'.drawn := by
  obtain ⟨q, os, rfl⟩ := h
  exact ⟨rfl, rfl, rfl, by simp [Sort.grow, World.drewN]⟩
theorem Gr.of {w w' : World} (ht : w'.tape = w.tape) (ho : w'.os = w.os) (hp : w'.output = w.output) (hd : w.drawn ≤ w'.drawn) (hz : w.heap.size ≤ w'.heap.size) (hk : ∀ k, k < w.heap.size → w'.heap[k]? = w.heap[k]?) : Gr w w' := by
  refine ⟨w'.drawn - w.drawn, w'.heap.extract w.heap.size w'.heap.size, ?_⟩
  have hh : w'.heap = w.heap ++ w'.heap.extract w.heap.size w'.heap.size := by
    apply Array.ext_getElem?
    intro i
    by_cases hi : i < w.heap.size
    · rw [hk i hi, Array.getElem?_append_left hi]
    · rw [Array.getElem?_append_right (by omega), Array.getElem?_extract]
      by_cases h2 : i < w'.heap.size
      · rw [if_pos (by omega)]
        congr 1
        omega
      · rw [if_neg (by omega)]
        exact Array.getElem?_eq_none (by omega)
  obtain ⟨h1, t1, d1, o1, p1⟩ := w'
  simp only at ht ho hp hd hh
  subst ht ho hp
  simp only [Sort.grow, World.drewN]
  congr 1
  omega
theorem Gr.next {a b c : World} (h : Gr a b) (k : Gr b c) : Gr a c := by
  have h1 := h.fields
  have k1 := k.fields
  have h2 := h.below
  have k2 := k.below
  refine Gr.of (k1.1.trans h1.1) (k1.2.1.trans h1.2.1) (k1.2.2.1.trans h1.2.2.1) (Nat.le_trans h1.2.2.2 k1.2.2.2) (Nat.le_trans h2.size k2.size) fun j hj => (k2.block j (Nat.lt_of_lt_of_le hj h2.size)).trans (h2.block j hj)
theorem Gr.set {w w' : World} (h : Gr w w') {x i : Nat} (hx : w.heap.size ≤ x) (v : Value) : Gr w (w'.setCell ⟨x, i, none⟩ v) := by
  have h1 := h.fields
  have h2 := h.below
  exact Gr.of h1.1 h1.2.1 h1.2.2.1 h1.2.2.2 (by have := h2.size; simpa using this) fun j hj => (Below.heap_setCell _ _ _ j (by show j ≠ x; omega)).trans (h2.block j hj)
def Try.lays106_ren : Go.Shelf.Ren := ⟨fun | 106 => 45 | 213 => 60 | 265 => 75 | n => n, fun | 9 => 9 | 3 => 3 | n => n, fun | n => n⟩
theorem Try.lays106 : Go.Proofs.Lays.n106 Try.prog Try.lays106_ren := {
  mixed := by kernel_rfl
  f106 := Try.func45.trans (congrArg some (by kernel_rfl))
  f213 := Try.func60.trans (congrArg some (by kernel_rfl))
  f265 := Try.func75.trans (congrArg some (by kernel_rfl))
  t3 := Try.underlying3
  a3 := Try.isAgg3
  z3 := Try.sizeOf3
  v3 := Try.zeroValue3
  t9 := Try.underlying9
  a9 := Try.isAgg9
  z9 := Try.sizeOf9
  v9 := Try.zeroValue9 }
theorem compareS_any (a b : ByteArray) (w : World) : Calls Try.prog 45 #[.string a, .string b] w fun e w' => e = .returned (.int .i64 (Lib.compareBytes a.data.toList b.data.toList)) ∧ w' = w := Any.strings_Compare Try.lays106 a b w
theorem region_to {P : Program} {c : Code} {Q : Exit → Act → World → Prop} {a : Act} {w : World} (R : Act → World → Prop) (h1 : c.wp P (fun e a' w' => e = .normal ∧ R a' w') a w) (h2 : ∀ a' w', R a' w' → Q .normal a' w') : c.wp P Q a w :=
  Code.wp_mono (fun e a' w' h => by
    obtain ⟨rfl, h⟩ := h
    exact h2 a' w' h) h1
end Go.Proofs.Ytjdigpfipmckhaa
namespace Go.Proofs.Ytjdigpfipmckhaa
open Go Go.RowKit
theorem cmpL_eq : ∀ l m : List UInt8, Lib.compareBytes l m = if l < m then -1 else if l = m then 0 else 1
  | [], [] => by simp [Lib.compareBytes]
  | [], _ :: _ => by simp [Lib.compareBytes]
  | _ :: _, [] => by simp [Lib.compareBytes]
  | a :: l, b :: m => by
    rw [Lib.compareBytes, cmpL_eq l m]
    by_cases h : a < b
    · rw [if_pos h, if_pos (List.cons_lt_cons_iff.2 (.inl h))]
    · rw [if_neg h]
      by_cases h2 : b < a
      · have hne : ¬ a = b := fun e => by rw [e] at h2; exact UInt8.lt_irrefl _ h2
        have h3 : ¬ (a :: l) < (b :: m) := fun h4 => by
          rcases List.cons_lt_cons_iff.1 h4 with h5 | ⟨h5, _⟩
          · exact h h5
          · exact hne h5
        rw [if_pos h2, if_neg h3, if_neg (by simp [hne])]
      · have e : a = b := UInt8.le_antisymm (UInt8.not_lt.1 h2) (UInt8.not_lt.1 h)
        subst e
        rw [if_neg h2]
        have h3 : (a :: l) < (a :: m) ↔ l < m := by rw [List.cons_lt_cons_iff]; simp [UInt8.lt_irrefl]
        by_cases h4 : l < m
        · rw [if_pos h4, if_pos (h3.2 h4)]
        · rw [if_neg h4, if_neg (fun h5 => h4 (h3.1 h5))]
          simp
theorem cB_cmpS (a b : ByteArray) : Lib.compareBytes a.data.toList b.data.toList = cmpS a b := by
  rw [cmpL_eq]
  unfold cmpS
  have h1 : (ltS a b = true) ↔ a.data.toList < b.data.toList := by
    unfold ltS
    rw [ByteArray.toList_eq, ByteArray.toList_eq, bytesLess_eq]
    simp
  have h2 : a.data.toList = b.data.toList ↔ a = b := ⟨fun h => by
    obtain ⟨⟨x⟩⟩ := a
    obtain ⟨⟨y⟩⟩ := b
    simp only at h
    rw [h], fun h => by rw [h]⟩
  simp only [h1, h2]
def tp (a : Tup) : Nat → ByteArray
  | 0 => a.o.t
  | 1 => a.o.i
  | 2 => a.o.r
  | 3 => a.s.t
  | 4 => a.s.i
  | _ => a.s.r
def cL (a b : Tup) : List Int := [cmpS a.o.t b.o.t, cmpS a.o.i b.o.i, cmpS a.o.r b.o.r, cmpS a.s.t b.s.t, cmpS a.s.i b.s.i, cmpS a.s.r b.s.r]
def cmpC (a b : Tup) : Int := orL (cL a b)
theorem cL_at (a b : Tup) : ∀ i (h : i < (cL a b).length), (cL a b)[i] = cmpS (tp a i) (tp b i)
  | 0, _ => rfl
  | 1, _ => rfl
  | 2, _ => rfl
  | 3, _ => rfl
  | 4, _ => rfl
  | 5, _ => rfl
  | _ + 6, h => absurd h (by simp [cL])
theorem cmpC_eq (a b : Tup) : cmpC a b = if a.o = b.o then ordP a.s b.s else ordP a.o b.o := by
  obtain ⟨⟨a1, a2, a3⟩, ⟨a4, a5, a6⟩⟩ := a
  obtain ⟨⟨b1, b2, b3⟩, ⟨b4, b5, b6⟩⟩ := b
  simp only [cmpC, cL, ordP, orL, P3.mk.injEq, cmpS_zero]
  by_cases h1 : a1 = b1 <;> by_cases h2 : a2 = b2 <;> by_cases h3 : a3 = b3 <;> simp [h1, h2, h3]
theorem lt_cmpC (a b : Tup) : Go.Proofs.ltOf cmpC a b = ltT a b := by
  unfold ltT
  have e : Go.Proofs.ltOf cmpC a b = if a.o = b.o then Go.Proofs.ltOf ordP a.s b.s else Go.Proofs.ltOf ordP a.o b.o := by
    unfold Go.Proofs.ltOf
    rw [cmpC_eq]
    split <;> rfl
  rw [e, lt_ordP, lt_ordP]
theorem swoC : Go.Sort.SWO (Go.Proofs.ltOf cmpC) := by
  have : Go.Proofs.ltOf cmpC = Go.Proofs.ltOf cmpT := funext fun a => funext fun b => by rw [lt_cmpC, lt_cmpT]
  rw [this]
  exact swoT
theorem cmpC_self (a : Tup) : cmpC a a = 0 := by
  have h : ∀ x : ByteArray, cmpS x x = 0 := fun x => (cmpS_zero x x).2 rfl
  simp [cmpC, cL, orL, h]
theorem cmpC_first {a b : Tup} {i : Nat} (hi : i < 6) (h0 : ∀ j, j < i → cmpS (tp a j) (tp b j) = 0) (h1 : cmpS (tp a i) (tp b i) ≠ 0) : cmpC a b = cmpS (tp a i) (tp b i) := by
  have hl : i < (cL a b).length := hi
  unfold cmpC
  rw [orL_drop (i := i) fun j hj hji => by rw [cL_at]; exact h0 j hji]
  rw [List.drop_eq_getElem_cons hl, orL, cL_at, if_neg h1]
theorem cmpC_none {a b : Tup} (h0 : ∀ j, j < 6 → cmpS (tp a j) (tp b j) = 0) : cmpC a b = 0 := by
  unfold cmpC
  rw [orL_drop (i := 6) fun j hj hji => by rw [cL_at]; exact h0 j hji]
  rfl
def tpC (a : Tup) : Array Value := #[.string a.o.t, .string a.o.i, .string a.o.r, .string a.s.t, .string a.s.i, .string a.s.r]
theorem tpC_at (a : Tup) : ∀ i, i < 6 → (tpC a)[i]? = some (.string (tp a i))
  | 0, _ => rfl
  | 1, _ => rfl
  | 2, _ => rfl
  | 3, _ => rfl
  | 4, _ => rfl
  | 5, _ => rfl
  | _ + 6, h => absurd h (by omega)
end Go.Proofs.Ytjdigpfipmckhaa
namespace Go.Proofs.Ytjdigpfipmckhaa
open Go Go.RowKit
theorem tup_eq (a b : Tup) (W : World) : (binOp BinOp.eql 55 (tV a) (tV b)).run Try.prog W = .ok (.bool (decide (a = b))) W := by
  obtain ⟨⟨a1, a2, a3⟩, ⟨a4, a5, a6⟩⟩ := a
  obtain ⟨⟨b1, b2, b3⟩, ⟨b4, b5, b6⟩⟩ := b
  unfold tV
  dsimp only
  go_simp
  simp only [ba_toList]
  by_cases h1 : a1 = b1
  · by_cases h2 : a2 = b2
    · by_cases h3 : a3 = b3
      · by_cases h4 : a4 = b4
        · by_cases h5 : a5 = b5
          · by_cases h6 : a6 = b6 <;> simp [h1, h2, h3, h4, h5, h6]
          · simp [h1, h2, h3, h4, h5]
        · simp [h1, h2, h3, h4]
      · simp [h1, h2, h3]
    · simp [h1, h2]
  · simp [h1]
def zr6 : Array Value := #[.string ⟨#[]⟩, .string ⟨#[]⟩, .string ⟨#[]⟩, .string ⟨#[]⟩, .string ⟨#[]⟩, .string ⟨#[]⟩]
section
variable {w w' : World} {B B' : Nat} {e : TypeId} {cs : Array Value}
theorem Blk.put6 (h : Blk w B zr6 e) (x0 x1 x2 x3 x4 x5 : Value) : Blk ((((((w.setCell ⟨B, 0, none⟩ x0).setCell ⟨B, 1, none⟩ x1).setCell ⟨B, 2, none⟩ x2).setCell ⟨B, 3, none⟩ x3).setCell ⟨B, 4, none⟩ x4).setCell ⟨B, 5, none⟩ x5) B #[x0, x1, x2, x3, x4, x5] e :=
  (((((h.set_to 0 x0 rfl).set_to 1 x1 rfl).set_to 2 x2 rfl).set_to 3 x3 rfl).set_to 4 x4 rfl).set_to 5 x5 rfl
theorem Blk.away6 (h : Blk w B cs e) (hne : B ≠ B') (x0 x1 x2 x3 x4 x5 : Value) : Blk ((((((w.setCell ⟨B', 0, none⟩ x0).setCell ⟨B', 1, none⟩ x1).setCell ⟨B', 2, none⟩ x2).setCell ⟨B', 3, none⟩ x3).setCell ⟨B', 4, none⟩ x4).setCell ⟨B', 5, none⟩ x5) B cs e :=
  (((((h.other (a := ⟨B', 0, none⟩) hne x0).other (a := ⟨B', 1, none⟩) hne x1).other (a := ⟨B', 2, none⟩) hne x2).other (a := ⟨B', 3, none⟩) hne x3).other (a := ⟨B', 4, none⟩) hne x4).other (a := ⟨B', 5, none⟩) hne x5
theorem gr_set6 (h : Gr w w') (hB : w.heap.size ≤ B) (x0 x1 x2 x3 x4 x5 : Value) : Gr w ((((((w'.setCell ⟨B, 0, none⟩ x0).setCell ⟨B, 1, none⟩ x1).setCell ⟨B, 2, none⟩ x2).setCell ⟨B, 3, none⟩ x3).setCell ⟨B, 4, none⟩ x4).setCell ⟨B, 5, none⟩ x5) :=
  (((((h.set hB x0).set hB x1).set hB x2).set hB x3).set hB x4).set hB x5
end
set_option maxRecDepth 100000 in
set_option maxHeartbeats 1600000 in
theorem ofG_any (t : Tup) (w : World) : Calls Try.prog 44 #[tV t] w fun e w' => e = .returned (tV t) ∧ Gr w w' := by
  obtain ⟨⟨ot, oi, or_⟩, ⟨st, si, sr⟩⟩ := t
  have hb := (Blk.made w #[.string ot, .string oi, .string or_, .string st, .string si, .string sr] 55)
  have h1 : Gr w (w.alloc (.cells #[.string ot, .string oi, .string or_, .string st, .string si, .string sr] 55)) := (Gr.refl _).alloc _
  unfold tV
  dsimp only
  go_enter Try.func44, Try.ntmps44
  go_wp2_with fail
  refine bodyPost_ret (results_cell_row rfl _ _ (w.heap.size + 1) 122 #[.string ot, .string oi, .string or_, .string st, .string si, .string sr] (0, 0) _ rfl ?_ Try.underlying122 rfl (by kernel_rfl)) rfl ⟨rfl, h1.alloc _⟩
  have := heap_alloc_new (w.alloc (.cells #[.string ot, .string oi, .string or_, .string st, .string si, .string sr] 55)) (.cells #[.string ot, .string oi, .string or_, .string st, .string si, .string sr] 122)
  rwa [World.size_alloc] at this
set_option maxRecDepth 100000 in
set_option maxHeartbeats 8000000 in
theorem cmpTup_any (a b : Tup) (w : World) : Calls Try.prog 25 #[tV a, tV b] w fun e w' => e = .returned (.int .i64 (cmpC a b)) ∧ Gr w w' := by
  have hg1 : Gr w ((w.alloc (.cells (tpC a) 55)).alloc (.cells (tpC b) 55)) := ((Gr.refl _).alloc _).alloc _
  have HG1 := Lib.hid hg1
  have HA1 := Lib.hid ((Blk.made w (tpC a) 55).alloc (.cells (tpC b) 55))
  have HB1 := Lib.hid (Blk.made' (w := w.alloc (.cells (tpC a) 55)) (B := w.heap.size + 1) (by simp) (tpC b) 55)
  clear hg1
  by_cases hab : a = b
  · subst hab
    have HZ := Lib.hid (cmpC_self a)
    obtain ⟨⟨a1, a2, a3⟩, ⟨a4, a5, a6⟩⟩ := a
    unfold tpC at HG1 HA1 HB1
    dsimp only at HG1 HA1 HB1
    have ha := HA1.out.cells
    have hb := HB1.out.cells
    unfold tV
    dsimp only
    have hq : ∀ W, (binOp BinOp.eql 55 (.agg #[.string a1, .string a2, .string a3, .string a4, .string a5, .string a6]) (.agg #[.string a1, .string a2, .string a3, .string a4, .string a5, .string a6])).run Try.prog W = .ok (.bool true) W := fun W => by
      have h := tup_eq ⟨⟨a1, a2, a3⟩, ⟨a4, a5, a6⟩⟩ ⟨⟨a1, a2, a3⟩, ⟨a4, a5, a6⟩⟩ W
      rw [decide_eq_true rfl] at h
      exact h
    go_enter Try.func25, Try.ntmps25
    go_wp2_with fail
    go_ret
    exact ⟨by rw [HZ.out]; rfl, HG1.out⟩
  · have HF := Lib.hid (fun i (h6 : i < 6) (h0 : ∀ j, j < i → cmpS (tp a j) (tp b j) = 0) (h1 : cmpS (tp a i) (tp b i) ≠ 0) => cmpC_first h6 h0 h1)
    have HN := Lib.hid (fun (h0 : ∀ j, j < 6 → cmpS (tp a j) (tp b j) = 0) => cmpC_none h0)
    have HTA := Lib.hid (tpC_at a)
    have HTB := Lib.hid (tpC_at b)
    generalize cmpC a b = cab at *
    generalize hta : tp a = ta at *
    generalize htb : tp b = tb at *
    clear hta htb
    have hqn : ∀ W, (binOp BinOp.eql 55 (tV a) (tV b)).run Try.prog W = .ok (.bool false) W := fun W => by
      have h := tup_eq a b W
      rwa [decide_eq_false hab] at h
    clear hab
    obtain ⟨⟨a1, a2, a3⟩, ⟨a4, a5, a6⟩⟩ := a
    obtain ⟨⟨b1, b2, b3⟩, ⟨b4, b5, b6⟩⟩ := b
    unfold tpC at *
    dsimp only at HG1 HA1 HB1 HTA HTB
    have ha := HA1.out.cells
    have hb := HB1.out.cells
    unfold tV at hqn ⊢
    dsimp only at hqn ⊢
    go_enter Try.func25, Try.ntmps25
    go_wp2_with fail
    clear ha hb hqn
    refine region_to (fun a' W => ∃ x y, a' = { tmps := #[.agg #[.string a1, .string a2, .string a3, .string a4, .string a5, .string a6], .agg #[.string b1, .string b2, .string b3, .string b4, .string b5, .string b6], .pointer (some ⟨w.heap.size, 0, none⟩), .pointer (some ⟨w.heap.size + 1, 0, none⟩), .int .i64 0, .pointer (some ⟨x, 0, none⟩), .pointer (some ⟨y, 0, none⟩), undef, undef, .agg #[.string a1, .string a2, .string a3, .string a4, .string a5, .string a6], .agg #[.string b1, .string b2, .string b3, .string b4, .string b5, .string b6], .bool false, .agg #[.string a1, .string a2, .string a3, .string a4, .string a5, .string a6], .agg #[.string a1, .string a2, .string a3, .string a4, .string a5, .string a6], .agg #[.string b1, .string b2, .string b3, .string b4, .string b5, .string b6], .agg #[.string b1, .string b2, .string b3, .string b4, .string b5, .string b6], undef, undef, undef, undef, undef, undef, undef, undef, undef, undef, undef, undef, undef, undef], defers := [] } ∧ Blk W x #[.string a1, .string a2, .string a3, .string a4, .string a5, .string a6] 122 ∧ Blk W y #[.string b1, .string b2, .string b3, .string b4, .string b5, .string b6] 122 ∧ Gr w W) ?_ ?_
    · obtain ⟨wd, hwd⟩ : ∃ y, y = ((w.alloc (.cells #[.string a1, .string a2, .string a3, .string a4, .string a5, .string a6] 55)).alloc (.cells #[.string b1, .string b2, .string b3, .string b4, .string b5, .string b6] 55)).drew := ⟨_, rfl⟩
      have hE := Lib.hid (show Gr w wd from by rw [hwd]; exact HG1.out.drew)
      have hAd := Lib.hid (show Blk wd w.heap.size _ _ from by rw [hwd]; exact HA1.out.drew)
      have hBd := Lib.hid (show Blk wd (w.heap.size + 1) _ _ from by rw [hwd]; exact HB1.out.drew)
      refine region_walkN (Gr wd) (by rw [← hwd]; exact Gr.refl _) (by kernel_rfl) (by kernel_rfl) (fun _ _ d _ _ h => absurd h.1 (fun e => by cases e)) ?_
      rw [← hwd]
      clear hwd HG1 HA1 HB1
      have h1 := fun W (h : Gr wd W) => (hAd.out.below h.below).cells
      have h2 := fun W (h : Gr wd W) => (hBd.out.below h.below).cells
      (refine WalkN.tk [0, 2] ?_; (iterate 2 ((refine TkN.c _ ?_ (by simp only [gtA, gtS, gtZ]; rfl) (by kernel_rfl) (by kernel_rfl) (by rfl) (fun W hW => ?_) ?_; rotate_left; · (go_simp; try with_reducible rfl)); simp only [Act.put, puA, puZ, puS])); refine TkN.n ?_)
      clear h1 h2
      have hE0 := hE
      have hE := Lib.hid (Gr.refl wd)
      refine WalkN.three 1 4 5 (by kernel_rfl) ?_ ?_ ?_
      refine ⟨_, (by simp only [gtA, gtS, gtZ]; rfl), by rfl, fun K hK => ?_⟩
      go_simp
      refine (ofG_any ⟨⟨a1, a2, a3⟩, ⟨a4, a5, a6⟩⟩ wd).mono ?_
      rintro e u1 ⟨rfl, hg0⟩
      refine hK.out _ _ (hE.out.next hg0) ?_
      clear hK
      unfold tV
      dsimp only
      have hE := Lib.hid (hE.out.next hg0)
      clear hg0
      refine WalkN.three 3 4 5 (by kernel_rfl) ?_ ?_ ?_
      refine ⟨_, (by simp only [gtA, gtS, gtZ]; rfl), by rfl, fun K hK => ?_⟩
      go_simp
      refine (ofG_any ⟨⟨b1, b2, b3⟩, ⟨b4, b5, b6⟩⟩ u1).mono ?_
      rintro e u2 ⟨rfl, hg1⟩
      refine hK.out _ _ (hE.out.next hg1) ?_
      clear hK
      unfold tV
      dsimp only
      have hE := Lib.hid (hE.out.next hg1)
      clear hg1
      refine WalkN.two 4 5 (by kernel_rfl) ?_ ?_
      refine ⟨_, (by simp only [gtA, gtS, gtZ]; rfl), by rfl, fun K hK => ?_⟩
      go_simp
      refine hK.out _ _ (hE.out.alloc (.cells zr6 122)) ?_
      clear hK
      have hx2 := Ext.alloc u2 (.cells zr6 122)
      have hA0 := Blk.made u2 zr6 122
      have hps2 := hE.out.below.size
      have hE := Lib.hid (hE.out.alloc (.cells zr6 122))
      clear hx2
      unfold zr6 at *
      generalize u2.alloc (.cells #[.string ⟨#[]⟩, .string ⟨#[]⟩, .string ⟨#[]⟩, .string ⟨#[]⟩, .string ⟨#[]⟩, .string ⟨#[]⟩] 122) = u3 at *
      generalize hpe2 : u2.heap.size = pa at *
      have hpa := Lib.hid (show wd.heap.size ≤ pa from by first | exact Nat.le_of_eq hpe2 | exact hps2)
      clear hpe2 hps2
      have hA := Lib.hid hA0
      clear hA0
      refine WalkN.one 5 (by kernel_rfl) ?_
      refine ⟨_, (by simp only [gtA, gtS, gtZ]; rfl), by rfl, fun K hK => ?_⟩
      go_simp
      refine hK.out _ _ (hE.out.alloc (.cells zr6 122)) ?_
      clear hK
      have hx3 := Ext.alloc u3 (.cells zr6 122)
      have hne := Lib.hid (show pa ≠ u3.heap.size from Nat.ne_of_lt hA.out.lt)
      have hA := Lib.hid (hA.out.below hx3)
      have hB0 := Blk.made u3 zr6 122
      have hps3 := hE.out.below.size
      have hE := Lib.hid (hE.out.alloc (.cells zr6 122))
      clear hx3
      unfold zr6 at *
      generalize u3.alloc (.cells #[.string ⟨#[]⟩, .string ⟨#[]⟩, .string ⟨#[]⟩, .string ⟨#[]⟩, .string ⟨#[]⟩, .string ⟨#[]⟩] 122) = u4 at *
      generalize hpe3 : u3.heap.size = pb at *
      have hpb := Lib.hid (show wd.heap.size ≤ pb from by first | exact Nat.le_of_eq hpe3 | exact hps3)
      clear hpe3 hps3
      have hB := Lib.hid hB0
      clear hB0
      rotate_left
      refine ⟨_, (by simp only [gtA, gtS, gtZ]; rfl), by rfl, fun K hK => ?_⟩
      go_simp
      refine hK.out _ _ (hE.out.alloc (.cells zr6 122)) ?_
      clear hK
      have hx2 := Ext.alloc u2 (.cells zr6 122)
      have hB0 := Blk.made u2 zr6 122
      have hps2 := hE.out.below.size
      have hE := Lib.hid (hE.out.alloc (.cells zr6 122))
      clear hx2
      unfold zr6 at *
      generalize u2.alloc (.cells #[.string ⟨#[]⟩, .string ⟨#[]⟩, .string ⟨#[]⟩, .string ⟨#[]⟩, .string ⟨#[]⟩, .string ⟨#[]⟩] 122) = u3 at *
      generalize hpe2 : u2.heap.size = pb at *
      have hpb := Lib.hid (show wd.heap.size ≤ pb from by first | exact Nat.le_of_eq hpe2 | exact hps2)
      clear hpe2 hps2
      have hB := Lib.hid hB0
      clear hB0
      refine WalkN.one 4 (by kernel_rfl) ?_
      refine ⟨_, (by simp only [gtA, gtS, gtZ]; rfl), by rfl, fun K hK => ?_⟩
      go_simp
      refine hK.out _ _ (hE.out.alloc (.cells zr6 122)) ?_
      clear hK
      have hx3 := Ext.alloc u3 (.cells zr6 122)
      have hne := Lib.hid (show u3.heap.size ≠ pb from fun e => Nat.lt_irrefl _ (e ▸ hB.out.lt))
      have hB := Lib.hid (hB.out.below hx3)
      have hA0 := Blk.made u3 zr6 122
      have hps3 := hE.out.below.size
      have hE := Lib.hid (hE.out.alloc (.cells zr6 122))
      clear hx3
      unfold zr6 at *
      generalize u3.alloc (.cells #[.string ⟨#[]⟩, .string ⟨#[]⟩, .string ⟨#[]⟩, .string ⟨#[]⟩, .string ⟨#[]⟩, .string ⟨#[]⟩] 122) = u4 at *
      generalize hpe3 : u3.heap.size = pa at *
      have hpa := Lib.hid (show wd.heap.size ≤ pa from by first | exact Nat.le_of_eq hpe3 | exact hps3)
      clear hpe3 hps3
      have hA := Lib.hid hA0
      clear hA0
      rotate_left
      refine ⟨_, (by simp only [gtA, gtS, gtZ]; rfl), by rfl, fun K hK => ?_⟩
      go_simp
      refine hK.out _ _ (hE.out.alloc (.cells zr6 122)) ?_
      clear hK
      have hx1 := Ext.alloc u1 (.cells zr6 122)
      have hA0 := Blk.made u1 zr6 122
      have hps1 := hE.out.below.size
      have hE := Lib.hid (hE.out.alloc (.cells zr6 122))
      clear hx1
      unfold zr6 at *
      generalize u1.alloc (.cells #[.string ⟨#[]⟩, .string ⟨#[]⟩, .string ⟨#[]⟩, .string ⟨#[]⟩, .string ⟨#[]⟩, .string ⟨#[]⟩] 122) = u2 at *
      generalize hpe1 : u1.heap.size = pa at *
      have hpa := Lib.hid (show wd.heap.size ≤ pa from by first | exact Nat.le_of_eq hpe1 | exact hps1)
      clear hpe1 hps1
      have hA := Lib.hid hA0
      clear hA0
      refine WalkN.two 3 5 (by kernel_rfl) ?_ ?_
      refine ⟨_, (by simp only [gtA, gtS, gtZ]; rfl), by rfl, fun K hK => ?_⟩
      go_simp
      refine (ofG_any ⟨⟨b1, b2, b3⟩, ⟨b4, b5, b6⟩⟩ u2).mono ?_
      rintro e u3 ⟨rfl, hg2⟩
      refine hK.out _ _ (hE.out.next hg2) ?_
      clear hK
      unfold tV
      dsimp only
      have hA := Lib.hid (hA.out.below hg2.below)
      have hE := Lib.hid (hE.out.next hg2)
      clear hg2
      refine WalkN.one 5 (by kernel_rfl) ?_
      refine ⟨_, (by simp only [gtA, gtS, gtZ]; rfl), by rfl, fun K hK => ?_⟩
      go_simp
      refine hK.out _ _ (hE.out.alloc (.cells zr6 122)) ?_
      clear hK
      have hx3 := Ext.alloc u3 (.cells zr6 122)
      have hne := Lib.hid (show pa ≠ u3.heap.size from Nat.ne_of_lt hA.out.lt)
      have hA := Lib.hid (hA.out.below hx3)
      have hB0 := Blk.made u3 zr6 122
      have hps3 := hE.out.below.size
      have hE := Lib.hid (hE.out.alloc (.cells zr6 122))
      clear hx3
      unfold zr6 at *
      generalize u3.alloc (.cells #[.string ⟨#[]⟩, .string ⟨#[]⟩, .string ⟨#[]⟩, .string ⟨#[]⟩, .string ⟨#[]⟩, .string ⟨#[]⟩] 122) = u4 at *
      generalize hpe3 : u3.heap.size = pb at *
      have hpb := Lib.hid (show wd.heap.size ≤ pb from by first | exact Nat.le_of_eq hpe3 | exact hps3)
      clear hpe3 hps3
      have hB := Lib.hid hB0
      clear hB0
      rotate_left
      refine ⟨_, (by simp only [gtA, gtS, gtZ]; rfl), by rfl, fun K hK => ?_⟩
      go_simp
      refine hK.out _ _ (hE.out.alloc (.cells zr6 122)) ?_
      clear hK
      have hx2 := Ext.alloc u2 (.cells zr6 122)
      have hne := Lib.hid (show pa ≠ u2.heap.size from Nat.ne_of_lt hA.out.lt)
      have hA := Lib.hid (hA.out.below hx2)
      have hB0 := Blk.made u2 zr6 122
      have hps2 := hE.out.below.size
      have hE := Lib.hid (hE.out.alloc (.cells zr6 122))
      clear hx2
      unfold zr6 at *
      generalize u2.alloc (.cells #[.string ⟨#[]⟩, .string ⟨#[]⟩, .string ⟨#[]⟩, .string ⟨#[]⟩, .string ⟨#[]⟩, .string ⟨#[]⟩] 122) = u3 at *
      generalize hpe2 : u2.heap.size = pb at *
      have hpb := Lib.hid (show wd.heap.size ≤ pb from by first | exact Nat.le_of_eq hpe2 | exact hps2)
      clear hpe2 hps2
      have hB := Lib.hid hB0
      clear hB0
      refine WalkN.one 3 (by kernel_rfl) ?_
      refine ⟨_, (by simp only [gtA, gtS, gtZ]; rfl), by rfl, fun K hK => ?_⟩
      go_simp
      refine (ofG_any ⟨⟨b1, b2, b3⟩, ⟨b4, b5, b6⟩⟩ u3).mono ?_
      rintro e u4 ⟨rfl, hg3⟩
      refine hK.out _ _ (hE.out.next hg3) ?_
      clear hK
      unfold tV
      dsimp only
      have hA := Lib.hid (hA.out.below hg3.below)
      have hB := Lib.hid (hB.out.below hg3.below)
      have hE := Lib.hid (hE.out.next hg3)
      clear hg3
      rotate_left
      refine ⟨_, (by simp only [gtA, gtS, gtZ]; rfl), by rfl, fun K hK => ?_⟩
      go_simp
      refine hK.out _ _ (hE.out.alloc (.cells zr6 122)) ?_
      clear hK
      have hx1 := Ext.alloc u1 (.cells zr6 122)
      have hB0 := Blk.made u1 zr6 122
      have hps1 := hE.out.below.size
      have hE := Lib.hid (hE.out.alloc (.cells zr6 122))
      clear hx1
      unfold zr6 at *
      generalize u1.alloc (.cells #[.string ⟨#[]⟩, .string ⟨#[]⟩, .string ⟨#[]⟩, .string ⟨#[]⟩, .string ⟨#[]⟩, .string ⟨#[]⟩] 122) = u2 at *
      generalize hpe1 : u1.heap.size = pb at *
      have hpb := Lib.hid (show wd.heap.size ≤ pb from by first | exact Nat.le_of_eq hpe1 | exact hps1)
      clear hpe1 hps1
      have hB := Lib.hid hB0
      clear hB0
      refine WalkN.two 3 4 (by kernel_rfl) ?_ ?_
      refine ⟨_, (by simp only [gtA, gtS, gtZ]; rfl), by rfl, fun K hK => ?_⟩
      go_simp
      refine (ofG_any ⟨⟨b1, b2, b3⟩, ⟨b4, b5, b6⟩⟩ u2).mono ?_
      rintro e u3 ⟨rfl, hg2⟩
      refine hK.out _ _ (hE.out.next hg2) ?_
      clear hK
      unfold tV
      dsimp only
      have hB := Lib.hid (hB.out.below hg2.below)
      have hE := Lib.hid (hE.out.next hg2)
      clear hg2
      refine WalkN.one 4 (by kernel_rfl) ?_
      refine ⟨_, (by simp only [gtA, gtS, gtZ]; rfl), by rfl, fun K hK => ?_⟩
      go_simp
      refine hK.out _ _ (hE.out.alloc (.cells zr6 122)) ?_
      clear hK
      have hx3 := Ext.alloc u3 (.cells zr6 122)
      have hne := Lib.hid (show u3.heap.size ≠ pb from fun e => Nat.lt_irrefl _ (e ▸ hB.out.lt))
      have hB := Lib.hid (hB.out.below hx3)
      have hA0 := Blk.made u3 zr6 122
      have hps3 := hE.out.below.size
      have hE := Lib.hid (hE.out.alloc (.cells zr6 122))
      clear hx3
      unfold zr6 at *
      generalize u3.alloc (.cells #[.string ⟨#[]⟩, .string ⟨#[]⟩, .string ⟨#[]⟩, .string ⟨#[]⟩, .string ⟨#[]⟩, .string ⟨#[]⟩] 122) = u4 at *
      generalize hpe3 : u3.heap.size = pa at *
      have hpa := Lib.hid (show wd.heap.size ≤ pa from by first | exact Nat.le_of_eq hpe3 | exact hps3)
      clear hpe3 hps3
      have hA := Lib.hid hA0
      clear hA0
      rotate_left
      refine ⟨_, (by simp only [gtA, gtS, gtZ]; rfl), by rfl, fun K hK => ?_⟩
      go_simp
      refine hK.out _ _ (hE.out.alloc (.cells zr6 122)) ?_
      clear hK
      have hx2 := Ext.alloc u2 (.cells zr6 122)
      have hne := Lib.hid (show u2.heap.size ≠ pb from fun e => Nat.lt_irrefl _ (e ▸ hB.out.lt))
      have hB := Lib.hid (hB.out.below hx2)
      have hA0 := Blk.made u2 zr6 122
      have hps2 := hE.out.below.size
      have hE := Lib.hid (hE.out.alloc (.cells zr6 122))
      clear hx2
      unfold zr6 at *
      generalize u2.alloc (.cells #[.string ⟨#[]⟩, .string ⟨#[]⟩, .string ⟨#[]⟩, .string ⟨#[]⟩, .string ⟨#[]⟩, .string ⟨#[]⟩] 122) = u3 at *
      generalize hpe2 : u2.heap.size = pa at *
      have hpa := Lib.hid (show wd.heap.size ≤ pa from by first | exact Nat.le_of_eq hpe2 | exact hps2)
      clear hpe2 hps2
      have hA := Lib.hid hA0
      clear hA0
      refine WalkN.one 3 (by kernel_rfl) ?_
      refine ⟨_, (by simp only [gtA, gtS, gtZ]; rfl), by rfl, fun K hK => ?_⟩
      go_simp
      refine (ofG_any ⟨⟨b1, b2, b3⟩, ⟨b4, b5, b6⟩⟩ u3).mono ?_
      rintro e u4 ⟨rfl, hg3⟩
      refine hK.out _ _ (hE.out.next hg3) ?_
      clear hK
      unfold tV
      dsimp only
      have hA := Lib.hid (hA.out.below hg3.below)
      have hB := Lib.hid (hB.out.below hg3.below)
      have hE := Lib.hid (hE.out.next hg3)
      clear hg3
      rotate_left
      refine ⟨_, (by simp only [gtA, gtS, gtZ]; rfl), by rfl, fun K hK => ?_⟩
      go_simp
      refine hK.out _ _ (hE.out.alloc (.cells zr6 122)) ?_
      clear hK
      have hx0 := Ext.alloc wd (.cells zr6 122)
      have hA0 := Blk.made wd zr6 122
      have hps0 := hE.out.below.size
      have hE := Lib.hid (hE.out.alloc (.cells zr6 122))
      clear hx0
      unfold zr6 at *
      generalize wd.alloc (.cells #[.string ⟨#[]⟩, .string ⟨#[]⟩, .string ⟨#[]⟩, .string ⟨#[]⟩, .string ⟨#[]⟩, .string ⟨#[]⟩] 122) = u1 at *
      generalize hpe0 : wd.heap.size = pa at *
      have hpa := Lib.hid (show wd.heap.size ≤ pa from by first | exact Nat.le_of_eq hpe0 | exact hps0)
      clear hpe0 hps0
      have hA := Lib.hid hA0
      clear hA0
      refine WalkN.two 1 5 (by kernel_rfl) ?_ ?_
      refine ⟨_, (by simp only [gtA, gtS, gtZ]; rfl), by rfl, fun K hK => ?_⟩
      go_simp
      refine (ofG_any ⟨⟨a1, a2, a3⟩, ⟨a4, a5, a6⟩⟩ u1).mono ?_
      rintro e u2 ⟨rfl, hg1⟩
      refine hK.out _ _ (hE.out.next hg1) ?_
      clear hK
      unfold tV
      dsimp only
      have hA := Lib.hid (hA.out.below hg1.below)
      have hE := Lib.hid (hE.out.next hg1)
      clear hg1
      refine WalkN.two 3 5 (by kernel_rfl) ?_ ?_
      refine ⟨_, (by simp only [gtA, gtS, gtZ]; rfl), by rfl, fun K hK => ?_⟩
      go_simp
      refine (ofG_any ⟨⟨b1, b2, b3⟩, ⟨b4, b5, b6⟩⟩ u2).mono ?_
      rintro e u3 ⟨rfl, hg2⟩
      refine hK.out _ _ (hE.out.next hg2) ?_
      clear hK
      unfold tV
      dsimp only
      have hA := Lib.hid (hA.out.below hg2.below)
      have hE := Lib.hid (hE.out.next hg2)
      clear hg2
      refine WalkN.one 5 (by kernel_rfl) ?_
      refine ⟨_, (by simp only [gtA, gtS, gtZ]; rfl), by rfl, fun K hK => ?_⟩
      go_simp
      refine hK.out _ _ (hE.out.alloc (.cells zr6 122)) ?_
      clear hK
      have hx3 := Ext.alloc u3 (.cells zr6 122)
      have hne := Lib.hid (show pa ≠ u3.heap.size from Nat.ne_of_lt hA.out.lt)
      have hA := Lib.hid (hA.out.below hx3)
      have hB0 := Blk.made u3 zr6 122
      have hps3 := hE.out.below.size
      have hE := Lib.hid (hE.out.alloc (.cells zr6 122))
      clear hx3
      unfold zr6 at *
      generalize u3.alloc (.cells #[.string ⟨#[]⟩, .string ⟨#[]⟩, .string ⟨#[]⟩, .string ⟨#[]⟩, .string ⟨#[]⟩, .string ⟨#[]⟩] 122) = u4 at *
      generalize hpe3 : u3.heap.size = pb at *
      have hpb := Lib.hid (show wd.heap.size ≤ pb from by first | exact Nat.le_of_eq hpe3 | exact hps3)
      clear hpe3 hps3
      have hB := Lib.hid hB0
      clear hB0
      rotate_left
      refine ⟨_, (by simp only [gtA, gtS, gtZ]; rfl), by rfl, fun K hK => ?_⟩
      go_simp
      refine hK.out _ _ (hE.out.alloc (.cells zr6 122)) ?_
      clear hK
      have hx2 := Ext.alloc u2 (.cells zr6 122)
      have hne := Lib.hid (show pa ≠ u2.heap.size from Nat.ne_of_lt hA.out.lt)
      have hA := Lib.hid (hA.out.below hx2)
      have hB0 := Blk.made u2 zr6 122
      have hps2 := hE.out.below.size
      have hE := Lib.hid (hE.out.alloc (.cells zr6 122))
      clear hx2
      unfold zr6 at *
      generalize u2.alloc (.cells #[.string ⟨#[]⟩, .string ⟨#[]⟩, .string ⟨#[]⟩, .string ⟨#[]⟩, .string ⟨#[]⟩, .string ⟨#[]⟩] 122) = u3 at *
      generalize hpe2 : u2.heap.size = pb at *
      have hpb := Lib.hid (show wd.heap.size ≤ pb from by first | exact Nat.le_of_eq hpe2 | exact hps2)
      clear hpe2 hps2
      have hB := Lib.hid hB0
      clear hB0
      refine WalkN.one 3 (by kernel_rfl) ?_
      refine ⟨_, (by simp only [gtA, gtS, gtZ]; rfl), by rfl, fun K hK => ?_⟩
      go_simp
      refine (ofG_any ⟨⟨b1, b2, b3⟩, ⟨b4, b5, b6⟩⟩ u3).mono ?_
      rintro e u4 ⟨rfl, hg3⟩
      refine hK.out _ _ (hE.out.next hg3) ?_
      clear hK
      unfold tV
      dsimp only
      have hA := Lib.hid (hA.out.below hg3.below)
      have hB := Lib.hid (hB.out.below hg3.below)
      have hE := Lib.hid (hE.out.next hg3)
      clear hg3
      rotate_left
      refine ⟨_, (by simp only [gtA, gtS, gtZ]; rfl), by rfl, fun K hK => ?_⟩
      go_simp
      refine hK.out _ _ (hE.out.alloc (.cells zr6 122)) ?_
      clear hK
      have hx1 := Ext.alloc u1 (.cells zr6 122)
      have hne := Lib.hid (show pa ≠ u1.heap.size from Nat.ne_of_lt hA.out.lt)
      have hA := Lib.hid (hA.out.below hx1)
      have hB0 := Blk.made u1 zr6 122
      have hps1 := hE.out.below.size
      have hE := Lib.hid (hE.out.alloc (.cells zr6 122))
      clear hx1
      unfold zr6 at *
      generalize u1.alloc (.cells #[.string ⟨#[]⟩, .string ⟨#[]⟩, .string ⟨#[]⟩, .string ⟨#[]⟩, .string ⟨#[]⟩, .string ⟨#[]⟩] 122) = u2 at *
      generalize hpe1 : u1.heap.size = pb at *
      have hpb := Lib.hid (show wd.heap.size ≤ pb from by first | exact Nat.le_of_eq hpe1 | exact hps1)
      clear hpe1 hps1
      have hB := Lib.hid hB0
      clear hB0
      refine WalkN.one 1 (by kernel_rfl) ?_
      refine ⟨_, (by simp only [gtA, gtS, gtZ]; rfl), by rfl, fun K hK => ?_⟩
      go_simp
      refine (ofG_any ⟨⟨a1, a2, a3⟩, ⟨a4, a5, a6⟩⟩ u2).mono ?_
      rintro e u3 ⟨rfl, hg2⟩
      refine hK.out _ _ (hE.out.next hg2) ?_
      clear hK
      unfold tV
      dsimp only
      have hA := Lib.hid (hA.out.below hg2.below)
      have hB := Lib.hid (hB.out.below hg2.below)
      have hE := Lib.hid (hE.out.next hg2)
      clear hg2
      refine WalkN.one 3 (by kernel_rfl) ?_
      refine ⟨_, (by simp only [gtA, gtS, gtZ]; rfl), by rfl, fun K hK => ?_⟩
      go_simp
      refine (ofG_any ⟨⟨b1, b2, b3⟩, ⟨b4, b5, b6⟩⟩ u3).mono ?_
      rintro e u4 ⟨rfl, hg3⟩
      refine hK.out _ _ (hE.out.next hg3) ?_
      clear hK
      unfold tV
      dsimp only
      have hA := Lib.hid (hA.out.below hg3.below)
      have hB := Lib.hid (hB.out.below hg3.below)
      have hE := Lib.hid (hE.out.next hg3)
      clear hg3
      rotate_left
      refine ⟨_, (by simp only [gtA, gtS, gtZ]; rfl), by rfl, fun K hK => ?_⟩
      go_simp
      refine hK.out _ _ (hE.out.alloc (.cells zr6 122)) ?_
      clear hK
      have hx0 := Ext.alloc wd (.cells zr6 122)
      have hB0 := Blk.made wd zr6 122
      have hps0 := hE.out.below.size
      have hE := Lib.hid (hE.out.alloc (.cells zr6 122))
      clear hx0
      unfold zr6 at *
      generalize wd.alloc (.cells #[.string ⟨#[]⟩, .string ⟨#[]⟩, .string ⟨#[]⟩, .string ⟨#[]⟩, .string ⟨#[]⟩, .string ⟨#[]⟩] 122) = u1 at *
      generalize hpe0 : wd.heap.size = pb at *
      have hpb := Lib.hid (show wd.heap.size ≤ pb from by first | exact Nat.le_of_eq hpe0 | exact hps0)
      clear hpe0 hps0
      have hB := Lib.hid hB0
      clear hB0
      refine WalkN.two 1 4 (by kernel_rfl) ?_ ?_
      refine ⟨_, (by simp only [gtA, gtS, gtZ]; rfl), by rfl, fun K hK => ?_⟩
      go_simp
      refine (ofG_any ⟨⟨a1, a2, a3⟩, ⟨a4, a5, a6⟩⟩ u1).mono ?_
      rintro e u2 ⟨rfl, hg1⟩
      refine hK.out _ _ (hE.out.next hg1) ?_
      clear hK
      unfold tV
      dsimp only
      have hB := Lib.hid (hB.out.below hg1.below)
      have hE := Lib.hid (hE.out.next hg1)
      clear hg1
      refine WalkN.two 3 4 (by kernel_rfl) ?_ ?_
      refine ⟨_, (by simp only [gtA, gtS, gtZ]; rfl), by rfl, fun K hK => ?_⟩
      go_simp
      refine (ofG_any ⟨⟨b1, b2, b3⟩, ⟨b4, b5, b6⟩⟩ u2).mono ?_
      rintro e u3 ⟨rfl, hg2⟩
      refine hK.out _ _ (hE.out.next hg2) ?_
      clear hK
      unfold tV
      dsimp only
      have hB := Lib.hid (hB.out.below hg2.below)
      have hE := Lib.hid (hE.out.next hg2)
      clear hg2
      refine WalkN.one 4 (by kernel_rfl) ?_
      refine ⟨_, (by simp only [gtA, gtS, gtZ]; rfl), by rfl, fun K hK => ?_⟩
      go_simp
      refine hK.out _ _ (hE.out.alloc (.cells zr6 122)) ?_
      clear hK
      have hx3 := Ext.alloc u3 (.cells zr6 122)
      have hne := Lib.hid (show u3.heap.size ≠ pb from fun e => Nat.lt_irrefl _ (e ▸ hB.out.lt))
      have hB := Lib.hid (hB.out.below hx3)
      have hA0 := Blk.made u3 zr6 122
      have hps3 := hE.out.below.size
      have hE := Lib.hid (hE.out.alloc (.cells zr6 122))
      clear hx3
      unfold zr6 at *
      generalize u3.alloc (.cells #[.string ⟨#[]⟩, .string ⟨#[]⟩, .string ⟨#[]⟩, .string ⟨#[]⟩, .string ⟨#[]⟩, .string ⟨#[]⟩] 122) = u4 at *
      generalize hpe3 : u3.heap.size = pa at *
      have hpa := Lib.hid (show wd.heap.size ≤ pa from by first | exact Nat.le_of_eq hpe3 | exact hps3)
      clear hpe3 hps3
      have hA := Lib.hid hA0
      clear hA0
      rotate_left
      refine ⟨_, (by simp only [gtA, gtS, gtZ]; rfl), by rfl, fun K hK => ?_⟩
      go_simp
      refine hK.out _ _ (hE.out.alloc (.cells zr6 122)) ?_
      clear hK
      have hx2 := Ext.alloc u2 (.cells zr6 122)
      have hne := Lib.hid (show u2.heap.size ≠ pb from fun e => Nat.lt_irrefl _ (e ▸ hB.out.lt))
      have hB := Lib.hid (hB.out.below hx2)
      have hA0 := Blk.made u2 zr6 122
      have hps2 := hE.out.below.size
      have hE := Lib.hid (hE.out.alloc (.cells zr6 122))
      clear hx2
      unfold zr6 at *
      generalize u2.alloc (.cells #[.string ⟨#[]⟩, .string ⟨#[]⟩, .string ⟨#[]⟩, .string ⟨#[]⟩, .string ⟨#[]⟩, .string ⟨#[]⟩] 122) = u3 at *
      generalize hpe2 : u2.heap.size = pa at *
      have hpa := Lib.hid (show wd.heap.size ≤ pa from by first | exact Nat.le_of_eq hpe2 | exact hps2)
      clear hpe2 hps2
      have hA := Lib.hid hA0
      clear hA0
      refine WalkN.one 3 (by kernel_rfl) ?_
      refine ⟨_, (by simp only [gtA, gtS, gtZ]; rfl), by rfl, fun K hK => ?_⟩
      go_simp
      refine (ofG_any ⟨⟨b1, b2, b3⟩, ⟨b4, b5, b6⟩⟩ u3).mono ?_
      rintro e u4 ⟨rfl, hg3⟩
      refine hK.out _ _ (hE.out.next hg3) ?_
      clear hK
      unfold tV
      dsimp only
      have hA := Lib.hid (hA.out.below hg3.below)
      have hB := Lib.hid (hB.out.below hg3.below)
      have hE := Lib.hid (hE.out.next hg3)
      clear hg3
      rotate_left
      refine ⟨_, (by simp only [gtA, gtS, gtZ]; rfl), by rfl, fun K hK => ?_⟩
      go_simp
      refine hK.out _ _ (hE.out.alloc (.cells zr6 122)) ?_
      clear hK
      have hx1 := Ext.alloc u1 (.cells zr6 122)
      have hne := Lib.hid (show u1.heap.size ≠ pb from fun e => Nat.lt_irrefl _ (e ▸ hB.out.lt))
      have hB := Lib.hid (hB.out.below hx1)
      have hA0 := Blk.made u1 zr6 122
      have hps1 := hE.out.below.size
      have hE := Lib.hid (hE.out.alloc (.cells zr6 122))
      clear hx1
      unfold zr6 at *
      generalize u1.alloc (.cells #[.string ⟨#[]⟩, .string ⟨#[]⟩, .string ⟨#[]⟩, .string ⟨#[]⟩, .string ⟨#[]⟩, .string ⟨#[]⟩] 122) = u2 at *
      generalize hpe1 : u1.heap.size = pa at *
      have hpa := Lib.hid (show wd.heap.size ≤ pa from by first | exact Nat.le_of_eq hpe1 | exact hps1)
      clear hpe1 hps1
      have hA := Lib.hid hA0
      clear hA0
      refine WalkN.one 1 (by kernel_rfl) ?_
      refine ⟨_, (by simp only [gtA, gtS, gtZ]; rfl), by rfl, fun K hK => ?_⟩
      go_simp
      refine (ofG_any ⟨⟨a1, a2, a3⟩, ⟨a4, a5, a6⟩⟩ u2).mono ?_
      rintro e u3 ⟨rfl, hg2⟩
      refine hK.out _ _ (hE.out.next hg2) ?_
      clear hK
      unfold tV
      dsimp only
      have hA := Lib.hid (hA.out.below hg2.below)
      have hB := Lib.hid (hB.out.below hg2.below)
      have hE := Lib.hid (hE.out.next hg2)
      clear hg2
      refine WalkN.one 3 (by kernel_rfl) ?_
      refine ⟨_, (by simp only [gtA, gtS, gtZ]; rfl), by rfl, fun K hK => ?_⟩
      go_simp
      refine (ofG_any ⟨⟨b1, b2, b3⟩, ⟨b4, b5, b6⟩⟩ u3).mono ?_
      rintro e u4 ⟨rfl, hg3⟩
      refine hK.out _ _ (hE.out.next hg3) ?_
      clear hK
      unfold tV
      dsimp only
      have hA := Lib.hid (hA.out.below hg3.below)
      have hB := Lib.hid (hB.out.below hg3.below)
      have hE := Lib.hid (hE.out.next hg3)
      clear hg3
      rotate_left
      all_goals
        refine WalkN.one 6 (by kernel_rfl) ?_
        refine ⟨_, (by simp only [gtA, gtS, gtZ]; rfl), by rfl, fun K hK => ?_⟩
        have hbf := hA.out.cells
        have hbz := hA.out.free
        go_simp
        clear hbf hbz
        refine hK.out _ _ (gr_set6 hE.out hpa.out _ _ _ _ _ _) ?_
        clear hK
        have hE := Lib.hid (gr_set6 hE.out hpa.out (.string a1) (.string a2) (.string a3) (.string a4) (.string a5) (.string a6))
        have hA0 := hA.out.put6 (.string a1) (.string a2) (.string a3) (.string a4) (.string a5) (.string a6)
        have hB0 := hB.out.away6 (B' := pa) (Ne.symm hne.out) (.string a1) (.string a2) (.string a3) (.string a4) (.string a5) (.string a6)
        generalize ((((((u4.setCell ⟨pa, 0, none⟩ (.string a1)).setCell ⟨pa, 1, none⟩ (.string a2)).setCell ⟨pa, 2, none⟩ (.string a3)).setCell ⟨pa, 3, none⟩ (.string a4)).setCell ⟨pa, 4, none⟩ (.string a5)).setCell ⟨pa, 5, none⟩ (.string a6)) = u5 at *
        have hA := Lib.hid hA0
        have hB := Lib.hid hB0
        clear hA0 hB0
        refine WalkN.one 7 (by kernel_rfl) ?_
        refine ⟨_, (by simp only [gtA, gtS, gtZ]; rfl), by rfl, fun K hK => ?_⟩
        have hbf := hB.out.cells
        have hbz := hB.out.free
        go_simp
        clear hbf hbz
        refine hK.out _ _ (gr_set6 hE.out hpb.out _ _ _ _ _ _) ?_
        clear hK
        have hE := Lib.hid (gr_set6 hE.out hpb.out (.string b1) (.string b2) (.string b3) (.string b4) (.string b5) (.string b6))
        have hB0 := hB.out.put6 (.string b1) (.string b2) (.string b3) (.string b4) (.string b5) (.string b6)
        have hA0 := hA.out.away6 (B' := pb) hne.out (.string b1) (.string b2) (.string b3) (.string b4) (.string b5) (.string b6)
        generalize ((((((u5.setCell ⟨pb, 0, none⟩ (.string b1)).setCell ⟨pb, 1, none⟩ (.string b2)).setCell ⟨pb, 2, none⟩ (.string b3)).setCell ⟨pb, 3, none⟩ (.string b4)).setCell ⟨pb, 4, none⟩ (.string b5)).setCell ⟨pb, 5, none⟩ (.string b6)) = u6 at *
        have hA := Lib.hid hA0
        have hB := Lib.hid hB0
        clear hA0 hB0
        refine WalkN.done (by kernel_rfl) ?_
        exact ⟨rfl, pa, pb, rfl, hA.out, hB.out, hE0.out.next hE.out⟩
    · rintro a' W ⟨x, y, rfl, hA, hB, hG⟩
      have HA := Lib.hid hA
      have HB := Lib.hid hB
      have HG := Lib.hid hG
      clear hA hB hG HG1 HA1 HB1
      go_wp2_with fail
      go_loopw [7, 8, 16] (fun _ _ iv wr => ∃ i : Nat, i ≤ 6 ∧ iv = .int .i64 i ∧ (∀ j, j < i → cmpS (ta j) (tb j) = 0) ∧ Blk wr x #[.string a1, .string a2, .string a3, .string a4, .string a5, .string a6] 122 ∧ Blk wr y #[.string b1, .string b2, .string b3, .string b4, .string b5, .string b6] 122 ∧ Gr w wr) (fun _ _ iv _ => 6 - (intOf iv).toNat)
      case atStart => exact ⟨0, Nat.zero_le _, rfl, (fun j h => absurd h (Nat.not_lt_zero j)), HA.out, HB.out, HG.out⟩
      case round =>
        obtain ⟨i, hi, rfl, hall, hA, hB, hG⟩ := hrel
        have HALL := Lib.hid hall
        have RA := Lib.hid hA
        have RB := Lib.hid hB
        have RG := Lib.hid hG
        clear HA HB HG hall hA hB hG
        by_cases hlt : i < 6
        · have HLT := Lib.hid hlt
          have hia := HTA.out i hlt
          have hib := HTB.out i hlt
          have hi6 : (i : Int) < 6 := by omega
          have hi0 : (0 : Int) ≤ (i : Int) := by omega
          have HFI := Lib.hid (HF.out i hlt HALL.out)
          have HNX := Lib.hid (show cmpS (ta i) (tb i) = 0 → ∀ j, j < i + 1 → cmpS (ta j) (tb j) = 0 from fun h0 j hj => by
            rcases Nat.lt_succ_iff_lt_or_eq.1 hj with h | rfl
            · exact HALL.out j h
            · exact h0)
          generalize ta i = sa at *
          generalize tb i = sb at *
          clear hlt hi
          go_wp2_with fail
          obtain ⟨wd, hwd⟩ : ∃ wd : World, wd = wr.drew := ⟨_, rfl⟩
          have DG := Lib.hid (show Gr w wd from by rw [hwd]; exact RG.out.drew)
          have DA := Lib.hid (show Blk wd x _ _ from by rw [hwd]; exact RA.out.drew)
          have DB := Lib.hid (show Blk wd y _ _ from by rw [hwd]; exact RB.out.drew)
          refine region_walkN (Ext wd) (by rw [← hwd]; exact Ext.refl _) (by kernel_rfl) (by kernel_rfl) (fun _ _ d _ _ h => by cases d <;> exact h) ?_
          rw [← hwd]
          clear hwd RA RB RG
          have h1 : ∀ W, Ext wd W → W.cell? ⟨x, i, none⟩ = some (.string sa) := fun W h => ((DA.out.below h).cells i).trans hia
          have h2 : ∀ W, Ext wd W → W.cell? ⟨y, i, none⟩ = some (.string sb) := fun W h => ((DB.out.below h).cells i).trans hib
          (refine WalkN.tk [0, 1, 2, 3, 4, 5] ?_; (iterate 6 ((refine TkN.c _ ?_ (by simp only [gtA, gtS, gtZ]; rfl) (by kernel_rfl) (by kernel_rfl) (by rfl) (fun W hW => ?_) ?_; rotate_left; · (go_simp; try with_reducible rfl)); simp only [Act.put, puA, puZ, puS])); refine TkN.n ?_)
          clear h1 h2 hia hib
          refine WalkN.one 6 (by kernel_rfl) ?_
          refine ⟨_, (by simp only [gtA, gtS, gtZ]; rfl), by rfl, fun K hK => ?_⟩
          go_simp
          refine (compareS_any sa sb wd).mono ?_
          rintro e w2 ⟨rfl, rfl⟩
          rw [cB_cmpS]
          refine hK.out _ _ (Ext.refl _) ?_
          clear hK
          ((refine WalkN.take 7 _ ?_ (by simp only [gtA, gtS, gtZ]; rfl) (by kernel_rfl) (by kernel_rfl) (by rfl) (fun W hW => ?_) ?_; rotate_left; · (go_simp; try with_reducible rfl)); simp only [Act.put, puA, puZ, puS])
          refine WalkN.done (by kernel_rfl) ?_
          by_cases hz : cmpS sa sb = 0
          · have HZ := Lib.hid (HNX.out hz)
            rw [hz]
            clear hz
            go_wp2_with fail
            go_roundw
            case rel => exact ⟨i + 1, HLT.out, by go_num, HZ.out, DA.out, DB.out, DG.out⟩
            case measure => have := HLT.out; simp [intOf]; omega
          · have HZ := Lib.hid (HFI.out hz)
            generalize cmpS sa sb = cz at *
            have hcz : (cz != 0) = true := by simpa using hz
            go_wp2_with fail
            go_ret
            exact ⟨by rw [HZ.out]; rfl, DG.out⟩
        · obtain rfl : i = 6 := by omega
          have HZ := Lib.hid (HN.out HALL.out)
          go_wp2_with fail
          go_ret
          exact ⟨by rw [HZ.out]; rfl, RG.out⟩
end Go.Proofs.Ytjdigpfipmckhaa
