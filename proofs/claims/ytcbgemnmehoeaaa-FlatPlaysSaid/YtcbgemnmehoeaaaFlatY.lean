/- Equality of structs; points put into a sorted row; the walk of the document's Less. No condition: lemmas. -/
import Derived.Test.YtcbgemnmehoeaaaFlatX
namespace Go.Proofs.Ytcbgemnmehoeaaa
open Go Go.RowKit Go.Maps

theorem ba_toList (a b : ByteArray) : a.toList = b.toList ↔ a = b := by
  rw [ByteArray.toList_eq, ByteArray.toList_eq]
  exact ⟨fun h => ByteArray.ext (by rw [← Array.toList_inj]; exact h), fun h => by rw [h]⟩
theorem p3_neq (a b : P3) (W : World) : (binOp BinOp.neq 37 (pV a) (pV b)).run Try.prog W = .ok (.bool (decide (a ≠ b))) W := by
  obtain ⟨a1, a2, a3⟩ := a
  obtain ⟨b1, b2, b3⟩ := b
  unfold pV
  dsimp only
  go_simp
  simp only [ba_toList]
  by_cases h1 : a1 = b1 <;> by_cases h2 : a2 = b2 <;> by_cases h3 : a3 = b3 <;> simp [h1, h2, h3]
theorem p3_eql (a b : P3) (W : World) : (binOp BinOp.eql 37 (pV a) (pV b)).run Try.prog W = .ok (.bool (decide (a = b))) W := by
  obtain ⟨a1, a2, a3⟩ := a
  obtain ⟨b1, b2, b3⟩ := b
  unfold pV
  dsimp only
  go_simp
  simp only [ba_toList]
  by_cases h1 : a1 = b1 <;> by_cases h2 : a2 = b2 <;> by_cases h3 : a3 = b3 <;> simp [h1, h2, h3]
theorem sub_eql (a b : P3) (W : World) : (binOp BinOp.eql 30 (pV a) (pV b)).run Try.prog W = .ok (.bool (decide (a = b))) W := by
  obtain ⟨a1, a2, a3⟩ := a
  obtain ⟨b1, b2, b3⟩ := b
  unfold pV
  dsimp only
  go_simp
  simp only [ba_toList]
  by_cases h1 : a1 = b1 <;> by_cases h2 : a2 = b2 <;> by_cases h3 : a3 = b3 <;> simp [h1, h2, h3]
theorem tup_eql (a b : Tup) (W : World) : (binOp BinOp.eql 32 (tV a) (tV b)).run Try.prog W = .ok (.bool (decide (a = b))) W := by
  obtain ⟨⟨a1, a2, a3⟩, ⟨a4, a5, a6⟩⟩ := a
  obtain ⟨⟨b1, b2, b3⟩, ⟨b4, b5, b6⟩⟩ := b
  unfold tV
  dsimp only
  go_simp
  simp only [ba_toList]
  by_cases h1 : a1 = b1
  · by_cases h2 : a2 = b2
    · by_cases h3 : a3 = b3
      · by_cases h4 : a4 = b4
        · by_cases h5 : a5 = b5
          · by_cases h6 : a6 = b6 <;> simp [h1, h2, h3, h4, h5, h6]
          · simp [h1, h2, h3, h4, h5]
        · simp [h1, h2, h3, h4]
      · simp [h1, h2, h3]
    · simp [h1, h2]
  · simp [h1]

/-- A point put into a row in order. -/
def insP (q : List P3) (k : Nat) (p : P3) : List P3 := q.take k ++ [p] ++ q.drop k
theorem insP_mem (q : List P3) (k : Nat) (p x : P3) : x ∈ insP q k p ↔ x ∈ q ∨ x = p := by
  unfold insP
  conv => rhs; rw [← List.take_append_drop k q]
  simp only [List.mem_append, List.mem_singleton]
  constructor
  · rintro ((h | h) | h)
    · exact .inl (.inl h)
    · exact .inr h
    · exact .inl (.inr h)
  · rintro ((h | h) | h)
    · exact .inl (.inl h)
    · exact .inr h
    · exact .inl (.inr h)
theorem insP_up {q : List P3} {k : Nat} {p : P3} (hq : UpP q) (h1 : ∀ j (hj : j < q.length), j < k → ltP q[j] p = true) (h2 : ∀ hk : k < q.length, ltP p q[k] = true) : UpP (insP q k p) := by
  have hq' : (q.take k ++ q.drop k).Pairwise fun a b => ltP a b = true := by rw [List.take_append_drop]; exact hq
  obtain ⟨ha, hb, hab⟩ := List.pairwise_append.1 hq'
  have hlt : ∀ x ∈ q.take k, ltP x p = true := fun x hx => by
    obtain ⟨j, hj, rfl⟩ := List.getElem_of_mem hx
    rw [List.length_take] at hj
    rw [List.getElem_take]
    exact h1 j (by omega) (by omega)
  have hgt : ∀ x ∈ q.drop k, ltP p x = true := fun x hx => by
    obtain ⟨j, hj, rfl⟩ := List.getElem_of_mem hx
    rw [List.length_drop] at hj
    rw [List.getElem_drop]
    have hk : k < q.length := by omega
    rcases Nat.eq_zero_or_pos j with rfl | hj0
    · exact h2 hk
    · exact ltP_trans (h2 hk) ((List.pairwise_iff_getElem.1 hq) k (k + j) hk (by omega) (by omega))
  unfold insP UpP
  rw [List.append_assoc, List.pairwise_append]
  refine ⟨ha, ?_, fun x hx y hy => ?_⟩
  · rw [List.singleton_append, List.pairwise_cons]
    exact ⟨hgt, hb⟩
  · rcases List.mem_append.1 hy with hy | hy
    · obtain rfl : y = p := by simpa using hy
      exact hlt x hx
    · exact hab x hx y hy
theorem insP_length (q : List P3) (k : Nat) (p : P3) : (insP q k p).length = q.length + 1 := by
  unfold insP
  have := congrArg List.length (List.take_append_drop k q)
  simp only [List.length_append, List.length_singleton] at this ⊢
  omega

set_option maxRecDepth 100000 in
set_option maxHeartbeats 1600000 in
theorem less_any (a b : P3) (w : World) : Calls Try.prog 42 #[pV a, pV b] w fun e w' => e = .returned (.bool (ltP a b)) ∧ Below w.heap.size w w' := by
  obtain ⟨at_, ai, ar⟩ := a
  obtain ⟨bt, bi, br⟩ := b
  have hb : Below w.heap.size w ((w.alloc (.cells #[.string at_, .string ai, .string ar] 37)).alloc (.cells #[.string bt, .string bi, .string br] 37)) := ((Below.refl _ _).alloc (Nat.le_refl _) _).alloc (by simp) _
  have hA := ((Blk.made w #[.string at_, .string ai, .string ar] 37).alloc (.cells #[.string bt, .string bi, .string br] 37)).cells
  unfold pV
  dsimp only
  by_cases h1 : at_ = bt
  · subst h1
    by_cases h2 : ai = bi
    · subst h2
      have HV := Lib.hid (show Op.bytesLess ar.toList br.toList = ltP ⟨at_, ai, ar⟩ ⟨at_, ai, br⟩ from by simp [ltP, ltS])
      go_enter Try.func42, Try.ntmps42
      go_wp2_with fail
      go_ret
      exact ⟨congrArg (fun b => Ending.returned (.bool b)) HV.out, hb⟩
    · have HV := Lib.hid (show Op.bytesLess ai.toList bi.toList = ltP ⟨at_, ai, ar⟩ ⟨at_, bi, br⟩ from by simp [ltP, ltS, h2])
      have hn := ba_beq' h2
      rw [← ByteArray.toList_eq, ← ByteArray.toList_eq] at hn
      clear h2
      go_enter Try.func42, Try.ntmps42
      go_wp2_with fail
      go_ret
      exact ⟨congrArg (fun b => Ending.returned (.bool b)) HV.out, hb⟩
  · have HV := Lib.hid (show Op.bytesLess at_.toList bt.toList = ltP ⟨at_, ai, ar⟩ ⟨bt, bi, br⟩ from by simp [ltP, ltS, h1])
    have hn := ba_beq' h1
    rw [← ByteArray.toList_eq, ← ByteArray.toList_eq] at hn
    clear h1
    go_enter Try.func42, Try.ntmps42
    go_wp2_with fail
    go_ret
    exact ⟨congrArg (fun b => Ending.returned (.bool b)) HV.out, hb⟩

end Go.Proofs.Ytcbgemnmehoeaaa
