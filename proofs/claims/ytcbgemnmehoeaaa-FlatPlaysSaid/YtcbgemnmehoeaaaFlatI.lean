/- slices.Collect and slices.SortedFunc of a map's keys; look-ups that may meet a nil map. No condition: lemmas. -/
import Derived.Test.YtcbgemnmehoeaaaFlatC
import Derived.Test.YtcbgemnmehoeaaaFlatF
import Derived.Test.YtcbgemnmehoeaaaFlatG
import Derived.Test.YtcbgemnmehoeaaaFlatH
namespace Go.Proofs.Ytcbgemnmehoeaaa
open Go Go.RowKit Go.Maps

/-- The least that some ghost of the state has: a measure of what isn't seen. -/
theorem least_ex {γ : Type} (R : γ → Prop) (m : γ → Nat) (h : ∃ g, R g) : ∃ n, (∃ g, R g ∧ m g = n) ∧ ∀ g, R g → n ≤ m g := by
  obtain ⟨g0, h0⟩ := h
  have key : ∀ k, ∀ g, R g → m g ≤ k → ∃ n, (∃ g, R g ∧ m g = n) ∧ ∀ g, R g → n ≤ m g := by
    intro k
    induction k with
    | zero => exact fun g hg hk => ⟨0, ⟨g, hg, by omega⟩, fun _ _ => Nat.zero_le _⟩
    | succ k ih =>
      intro g hg hk
      by_cases hs : ∃ g', R g' ∧ m g' ≤ k
      · obtain ⟨g', h1, h2⟩ := hs
        exact ih g' h1 h2
      · refine ⟨m g, ⟨g, hg, rfl⟩, fun g' h' => ?_⟩
        have : ¬ m g' ≤ k := fun h2 => hs ⟨g', h', h2⟩
        omega
  exact key _ g0 h0 (Nat.le_refl _)
open Classical in
noncomputable def leastM {γ : Type} (R : γ → Prop) (m : γ → Nat) : Nat := if h : ∃ g, R g then Classical.choose (least_ex R m h) else 0
theorem leastM_get {γ : Type} {R : γ → Prop} (m : γ → Nat) (h : ∃ g, R g) : ∃ g, R g ∧ m g = leastM R m := by
  unfold leastM
  rw [dif_pos h]
  exact (Classical.choose_spec (least_ex R m h)).1
theorem leastM_le {γ : Type} {R : γ → Prop} (m : γ → Nat) {g : γ} (h : R g) : leastM R m ≤ m g := by
  unfold leastM
  rw [dif_pos ⟨g, h⟩]
  exact (Classical.choose_spec (least_ex R m ⟨g, h⟩)).2 g h

section
variable {P : Program} {k t e : TypeId} {κ α : Type} {kv : κ → Value} {ev : α → Value} {w : World}
/-- A map that may be nil. -/
def MpO (P : Program) (k : TypeId) (kv : κ → Value) (ev : α → Value) (w : World) : Option Nat → List (κ × α) → Prop
  | none, l => l = []
  | some b, l => Mp P k kv ev w b l
theorem MpO.nodup {mb : Option Nat} {l : List (κ × α)} (h : MpO P k kv ev w mb l) : (l.map (·.1)).Nodup := by
  cases mb with
  | none => obtain rfl : l = [] := h; simp
  | some b => exact Mp.nodup (show Mp P k kv ev w b l from h)
theorem MpO.keyed {mb : Option Nat} {l : List (κ × α)} (h : MpO P k kv ev w mb l) : ∀ p ∈ l, ∃ q, keyOf P k (kv p.1) = some q := by
  cases mb with
  | none => obtain rfl : l = [] := h; simp
  | some b => obtain ⟨_, _, _, _, _, h⟩ := h; exact h
theorem MpO.below {w' : World} {mb : Option Nat} {l : List (κ × α)} (h : MpO P k kv ev w mb l) (hb : Below w.heap.size w w') : MpO P k kv ev w' mb l := by
  cases mb with
  | none => exact h
  | some b => exact Mp.below (show Mp P k kv ev w b l from h) hb
theorem MpO.same {w' : World} {mb : Option Nat} {l : List (κ × α)} (h : MpO P k kv ev w mb l) (hb : ∀ b, mb = some b → w'.heap[b]? = w.heap[b]?) : MpO P k kv ev w' mb l := by
  cases mb with
  | none => exact h
  | some b => exact Mp.same (show Mp P k kv ev w b l from h) (hb b rfl)
theorem MpO.look [DecidableEq κ] {mb : Option Nat} {l : List (κ × α)} (h : MpO P k kv ev w mb l) (K : Keyed P k) (inj : ∀ a b, kv a = kv b → a = b) (ht : P.underlying t = some (.map k e)) {z : Value} (hz : (zeroValue e).run P w = .ok z w) {a : κ} (hk : ∃ q, keyOf P k (kv a) = some q) :
    (Instr.lookup t (.map mb) (kv a) false).run P w = .ok (match lookA l a with | some x => ev x | none => z) w := by
  cases mb with
  | none =>
    obtain rfl : l = [] := h
    obtain ⟨q, hq⟩ := hk
    have hf : (Instr.findKey k (kv a) []).run P w = .ok none w := by
      rcases K.find w hq [] (by simp) with ⟨h1, _⟩ | ⟨j, e0, _, h2, _⟩
      · exact h1
      · simp at h2
    simp [Instr.lookup, run_underlying ht, K.check w _ hq, hf, hz, Result.andThen, lookA]
  | some b =>
    have := Mp.look (show Mp P k kv ev w b l from h) K inj ht hz false hk
    rw [this]
    cases lookA l a <;> rfl
end

abbrev bl (l : List P3) : List (P3 × Bool) := l.map fun p => (p, true)
theorem bl_keys (l : List P3) : (bl l).map (·.1) = l := by simp [bl, Function.comp_def]
abbrev bV : Bool → Value := fun x => .bool x
theorem look_bl (l : List P3) (a : P3) : lookA (bl l) a = if a ∈ l then some true else none := by
  induction l with
  | nil => rfl
  | cons x r ih =>
    simp only [bl, List.map_cons, lookA] at *
    by_cases h : x = a
    · subst h; simp
    · simp [h, ih, Ne.symm h]
theorem put_bl (l : List P3) (a : P3) (h : a ∉ l) : putA (bl l) a true = bl (l ++ [a]) := by
  rw [put_miss (fun p hp e => h (by obtain ⟨x, hx, rfl⟩ := List.mem_map.1 hp; exact e ▸ hx))]
  simp [bl]
theorem put_bl_in (l : List P3) (a : P3) (h : a ∈ l) : putA (bl l) a true = bl l := by
  induction l with
  | nil => simp at h
  | cons x r ih =>
    simp only [bl, List.map_cons, putA] at *
    by_cases e : x = a
    · subst e; simp
    · rw [if_neg e]
      rw [ih (by simpa [Ne.symm e] using h)]

theorem keysS_seq (F : Fence) (n : Nat) (hf : F.fn 39) (hro : F.round = none) (hn : 1 ≤ n) (Bm : Nat) (mb : Option Nat) (m : List (P3 × Bool)) (w : World) (hBm : Bm < w.heap.size) (hm : w.cell? ⟨Bm, 0, none⟩ = some (.map mb))
    (hM : MpO Try.prog 30 pV bV w mb m) :
    SeqStopsK F n Try.prog 39 #[.pointer (some ⟨Bm, 0, none⟩)] (fun x => #[pV x]) KeepsWalks (fun ss => ss.Perm (m.map (·.1))) (fun _ => True) m.length w := by
  cases mb with
  | none =>
    obtain rfl : m = [] := hM
    have h := keysS_nil F n hf hro Bm w hBm hm
    rwa [show (fun ss : List P3 => ss = []) = (fun ss => ss.Perm (([] : List (P3 × Bool)).map (·.1))) from funext fun ss => propext List.perm_nil.symm] at h
  | some b => exact keysS_stops F n hf hro hn Bm b m w hBm hm hM
theorem keysP_seq (F : Fence) (n : Nat) (hf : F.fn 60) (hro : F.round = none) (hn : 1 ≤ n) (Bm : Nat) (mb : Option Nat) (m : List (P3 × Bool)) (w : World) (hBm : Bm < w.heap.size) (hm : w.cell? ⟨Bm, 0, none⟩ = some (.map mb))
    (hM : MpO Try.prog 37 pV bV w mb m) :
    SeqStopsK F n Try.prog 60 #[.pointer (some ⟨Bm, 0, none⟩)] (fun x => #[pV x]) KeepsWalks (fun ss => ss.Perm (m.map (·.1))) (fun _ => True) m.length w := by
  cases mb with
  | none =>
    obtain rfl : m = [] := hM
    have h := keysP_nil F n hf hro Bm w hBm hm
    rwa [show (fun ss : List P3 => ss = []) = (fun ss => ss.Perm (([] : List (P3 × Bool)).map (·.1))) from funext fun ss => propext List.perm_nil.symm] at h
  | some b => exact keysP_stops F n hf hro hn Bm b m w hBm hm hM

theorem keysS_any (mb : Option Nat) (w : World) : Calls Try.prog 28 #[.map mb] w fun e w' => e = .returned (.func (.func 39) #[] #[.pointer (some ⟨w.heap.size, 0, none⟩)]) ∧ w' = w.alloc (.cells #[.map mb] 63) :=
  callsIn_wide.1 (keysS_in Fence.wide 1 trivial rfl mb w)
theorem keysP_any (mb : Option Nat) (w : World) : Calls Try.prog 46 #[.map mb] w fun e w' => e = .returned (.func (.func 60) #[] #[.pointer (some ⟨w.heap.size, 0, none⟩)]) ∧ w' = w.alloc (.cells #[.map mb] 77) :=
  callsIn_wide.1 (keysP_in Fence.wide 1 trivial rfl mb w)

theorem appS_any (w : World) (B0 : Nat) (hB0 : B0 ≤ w.heap.size) (v : Value) (l : List P3) (Bm : Nat) (mb : Option Nat) (m : List (P3 × Bool)) (hN : l.length + m.length ≤ 549755813888) (hown : Own w B0 30 3 v (pcs l)) (hBm : Bm < w.heap.size) (hm : w.cell? ⟨Bm, 0, none⟩ = some (.map mb)) (hM : MpO Try.prog 30 pV bV w mb m) :
    Calls Try.prog 47 #[v, .func (.func 39) #[] #[.pointer (some ⟨Bm, 0, none⟩)]] w fun e w' => ∃ (v' : Value) (ss : List P3), e = .returned v' ∧ ss.Perm (m.map (·.1)) ∧ Own w' B0 30 3 v' (pcs (l ++ ss)) ∧ Kept (fun b => b < w.heap.size ∧ v.ownBlock ≠ some b) w w' ∧ KeepsFrom 0 w w' :=
  callsIn_wide.1 (appS_in Fence.wide 3 trivial rfl (by omega) 39 _ trivial (enters_of Try.func39 (by kernel_rfl) rfl) _ _ m.length w B0 hB0 v l hN hown (keysS_seq Fence.wide 2 trivial rfl (by omega) Bm mb m w hBm hm hM))
theorem appP_any (w : World) (B0 : Nat) (hB0 : B0 ≤ w.heap.size) (v : Value) (l : List P3) (Bm : Nat) (mb : Option Nat) (m : List (P3 × Bool)) (hN : l.length + m.length ≤ 549755813888) (hown : Own w B0 37 3 v (pcs l)) (hBm : Bm < w.heap.size) (hm : w.cell? ⟨Bm, 0, none⟩ = some (.map mb)) (hM : MpO Try.prog 37 pV bV w mb m) :
    Calls Try.prog 45 #[v, .func (.func 60) #[] #[.pointer (some ⟨Bm, 0, none⟩)]] w fun e w' => ∃ (v' : Value) (ss : List P3), e = .returned v' ∧ ss.Perm (m.map (·.1)) ∧ Own w' B0 37 3 v' (pcs (l ++ ss)) ∧ Kept (fun b => b < w.heap.size ∧ v.ownBlock ≠ some b) w w' ∧ KeepsFrom 0 w w' :=
  callsIn_wide.1 (appP_in Fence.wide 3 trivial rfl (by omega) 60 _ trivial (enters_of Try.func60 (by kernel_rfl) rfl) _ _ m.length w B0 hB0 v l hN hown (keysP_seq Fence.wide 2 trivial rfl (by omega) Bm mb m w hBm hm hM))

set_option maxRecDepth 100000 in
set_option maxHeartbeats 800000 in
theorem collectS_any (w : World) (Bm : Nat) (mb : Option Nat) (m : List (P3 × Bool)) (hN : m.length ≤ 549755813888) (hBm : Bm < w.heap.size) (hm : w.cell? ⟨Bm, 0, none⟩ = some (.map mb)) (hM : MpO Try.prog 30 pV bV w mb m) :
    Calls Try.prog 37 #[.func (.func 39) #[] #[.pointer (some ⟨Bm, 0, none⟩)]] w fun e w' => ∃ (v' : Value) (ss : List P3), e = .returned v' ∧ ss.Perm (m.map (·.1)) ∧ Own w' w.heap.size 30 3 v' (pcs ss) ∧ Below w.heap.size w w' := by
  have HP := Lib.hid (appS_any w w.heap.size (Nat.le_refl _) (.slice none 0 0) [] Bm mb m (by simpa using hN) (Own.nil w _ _ _) hBm hm hM)
  clear hM hm
  go_enter Try.func37, Try.ntmps37
  go_wp2_with fail
  refine HP.out.mono ?_
  rintro e w1 ⟨v, ss, rfl, hp, ho, hk, _⟩
  go_wp2
  go_ret
  exact ⟨v, ss, rfl, hp, ho, hk.below fun b hb => ⟨hb, by simp [Value.ownBlock]⟩⟩

set_option maxRecDepth 100000 in
set_option maxHeartbeats 800000 in
theorem sortedS_any (w : World) (Bm : Nat) (mb : Option Nat) (m : List (P3 × Bool)) (hN : m.length ≤ 549755813888) (hBm : Bm < w.heap.size) (hm : w.cell? ⟨Bm, 0, none⟩ = some (.map mb)) (hM : MpO Try.prog 30 pV bV w mb m) :
    Calls Try.prog 27 #[.func (.func 39) #[] #[.pointer (some ⟨Bm, 0, none⟩)], .func (.func 29) #[] #[]] w fun e w' => ∃ (v' : Value) (ss : List P3), e = .returned v' ∧ ss.Perm (m.map (·.1)) ∧ UpP ss ∧ Own w' w.heap.size 30 3 v' (pcs ss) ∧ Below w.heap.size w w' := by
  have HN := Lib.hid hM.nodup
  have HP := Lib.hid (collectS_any w Bm mb m hN hBm hm hM)
  clear hM hm
  go_enter Try.func27, Try.ntmps27
  go_wp2_with fail
  refine HP.out.mono ?_
  rintro e w1 ⟨v, ss, rfl, hp, ho, hb⟩
  have HP2 := Lib.hid (sortS_any ho (by have := hp.length_eq; simp at this; omega) (hp.nodup_iff.2 HN.out))
  go_wp2_with fail
  refine HP2.out.mono ?_
  rintro e w2 ⟨rfl, l', hp', hu, ho', hk'⟩
  go_wp2
  go_ret
  exact ⟨v, l', rfl, hp'.trans hp, hu, ho', hb.trans (hk'.below fun b hb' => ⟨Nat.lt_of_lt_of_le hb' hb.size, fun e => by have := (ho.block b e).1; omega⟩)⟩

end Go.Proofs.Ytcbgemnmehoeaaa
