/- Points, subjects and tuples as keys of maps. No condition: lemmas. -/
import Derived.Test.YtcbgemnmehoeaaaFlatA
import Derived.Test.YtcbgemnmehoeaaaMap
import Derived.Test.YtcbgemnmehoeaaaMapB
import Derived.DeepKeys4
namespace Go.Proofs.Ytcbgemnmehoeaaa
open Go Go.RowKit Go.Maps

theorem laidOut : laidOutB Try.prog = true := by kernel_rfl
theorem pointK : Keyed Try.prog 37 := Keyed.of_law (deep_law_laid laidOut (m := 3) (by decide) (of_decide_eq_true (by kernel_rfl)) (by kernel_rfl) (by kernel_rfl))
theorem subK : Keyed Try.prog 30 := Keyed.of_law (deep_law_laid laidOut (m := 3) (by decide) (of_decide_eq_true (by kernel_rfl)) (by kernel_rfl) (by kernel_rfl))
theorem tupleK : Keyed Try.prog 32 := Keyed.of_law (deep_law_laid laidOut (m := 4) (by decide) (of_decide_eq_true (by kernel_rfl)) (by kernel_rfl) (by kernel_rfl))

/-- A tuple as a value. -/
def tV (t : Tup) : Value := .agg #[.string t.o.t, .string t.o.i, .string t.o.r, .string t.s.t, .string t.s.i, .string t.s.r]
theorem pV_inj (a b : P3) (h : pV a = pV b) : a = b := by
  obtain ⟨a1, a2, a3⟩ := a
  obtain ⟨b1, b2, b3⟩ := b
  simpa [pV] using h
theorem tV_inj (a b : Tup) (h : tV a = tV b) : a = b := by
  obtain ⟨⟨a1, a2, a3⟩, ⟨a4, a5, a6⟩⟩ := a
  obtain ⟨⟨b1, b2, b3⟩, ⟨b4, b5, b6⟩⟩ := b
  simp only [tV, Value.agg.injEq, Array.mk.injEq, List.cons.injEq, Value.string.injEq, and_true] at h
  simp [h]
/-- Texts that a machine can hold. -/
def P3.Ok (p : P3) : Prop := p.t.size ≤ maxLen ∧ p.i.size ≤ maxLen ∧ p.r.size ≤ maxLen

theorem str_lits (d : Nat) (s : ByteArray) (h : s.size ≤ maxLen) : Try.prog.keyLits (d + 1) 9 [.string s] = some [.string s.data.toList] := by
  unfold Program.keyLits
  rw [Try.underlying9]
  simp only [h, if_true]
theorem obj_lits (d : Nat) (s u : ByteArray) (h : s.size ≤ maxLen) (k : u.size ≤ maxLen) : Try.prog.keyLits (d + 1 + 1) 28 [.string s, .string u] = some [.string s.data.toList, .string u.data.toList] := by
  unfold Program.keyLits
  rw [Try.underlying28]
  have e1 := str_lits d s h
  have e2 := str_lits d u k
  have e3 : Try.prog.cellsOf 28 = 2 := by kernel_rfl
  have e4 : Try.prog.cellsOf 9 = 1 := by kernel_rfl
  simp [e1, e2, e3, e4]
theorem types_many : ∃ d, Try.prog.types.size = d + 1 + 1 + 1 := ⟨Try.prog.types.size - 3, by have : 3 ≤ Try.prog.types.size := of_decide_eq_true (by kernel_rfl); omega⟩
theorem point_lits (d : Nat) (p : P3) (h : p.Ok) : Try.prog.keyLits (d + 1 + 1 + 1) 37 [.string p.t, .string p.i, .string p.r] = some [.string p.t.data.toList, .string p.i.data.toList, .string p.r.data.toList] := by
  unfold Program.keyLits
  rw [Try.underlying37]
  have e1 := obj_lits d p.t p.i h.1 h.2.1
  have e2 := str_lits (d + 1) p.r h.2.2
  have e3 : Try.prog.cellsOf 37 = 3 := by kernel_rfl
  have e4 : Try.prog.cellsOf 9 = 1 := by kernel_rfl
  have e5 : Try.prog.cellsOf 28 = 2 := by kernel_rfl
  simp [e1, e2, e3, e4, e5]
theorem point_key (p : P3) (h : p.Ok) : ∃ q, keyOf Try.prog 37 (pV p) = some q := by
  obtain ⟨d, hd⟩ := types_many
  have e := point_lits (d + 1) p h
  have e2 : (Try.prog.keyType 37 && (pV p).formed Try.prog 37) = true := by kernel_rfl
  have hs : Try.prog.types.size + 1 = d + 1 + 1 + 1 + 1 := by omega
  unfold keyOf
  rw [Try.underlying37]
  dsimp only
  rw [if_pos e2, hs]
  rw [show (pV p).cells.toList = [.string p.t, .string p.i, .string p.r] from rfl, e]
  exact ⟨_, rfl⟩
theorem sub_lits (d : Nat) (p : P3) (h : p.Ok) : Try.prog.keyLits (d + 1 + 1 + 1) 30 [.string p.t, .string p.i, .string p.r] = some [.string p.t.data.toList, .string p.i.data.toList, .string p.r.data.toList] := by
  unfold Program.keyLits
  rw [Try.underlying30]
  have e1 := obj_lits d p.t p.i h.1 h.2.1
  have e2 := str_lits (d + 1) p.r h.2.2
  have e3 : Try.prog.cellsOf 30 = 3 := by kernel_rfl
  have e4 : Try.prog.cellsOf 9 = 1 := by kernel_rfl
  have e5 : Try.prog.cellsOf 28 = 2 := by kernel_rfl
  simp [e1, e2, e3, e4, e5]
theorem sub_key (p : P3) (h : p.Ok) : ∃ q, keyOf Try.prog 30 (pV p) = some q := by
  obtain ⟨d, hd⟩ := types_many
  have e := sub_lits (d + 1) p h
  have e2 : (Try.prog.keyType 30 && (pV p).formed Try.prog 30) = true := by kernel_rfl
  have hs : Try.prog.types.size + 1 = d + 1 + 1 + 1 + 1 := by omega
  unfold keyOf
  rw [Try.underlying30]
  dsimp only
  rw [if_pos e2, hs]
  rw [show (pV p).cells.toList = [.string p.t, .string p.i, .string p.r] from rfl, e]
  exact ⟨_, rfl⟩
def Tup.Ok (t : Tup) : Prop := t.o.Ok ∧ t.s.Ok
theorem types_many4 : ∃ d, Try.prog.types.size = d + 1 + 1 + 1 + 1 := ⟨Try.prog.types.size - 4, by have : 4 ≤ Try.prog.types.size := of_decide_eq_true (by kernel_rfl); omega⟩
theorem tuple_lits (d : Nat) (t : Tup) (h : t.Ok) : Try.prog.keyLits (d + 1 + 1 + 1 + 1) 32 [.string t.o.t, .string t.o.i, .string t.o.r, .string t.s.t, .string t.s.i, .string t.s.r] = some [.string t.o.t.data.toList, .string t.o.i.data.toList, .string t.o.r.data.toList, .string t.s.t.data.toList, .string t.s.i.data.toList, .string t.s.r.data.toList] := by
  unfold Program.keyLits
  rw [Try.underlying32]
  have e1 := obj_lits (d + 1) t.o.t t.o.i h.1.1 h.1.2.1
  have e2 := str_lits (d + 1 + 1) t.o.r h.1.2.2
  have e0 := sub_lits d t.s h.2
  have e3 : Try.prog.cellsOf 32 = 6 := by kernel_rfl
  have e4 : Try.prog.cellsOf 9 = 1 := by kernel_rfl
  have e5 : Try.prog.cellsOf 28 = 2 := by kernel_rfl
  have e6 : Try.prog.cellsOf 30 = 3 := by kernel_rfl
  simp [e0, e1, e2, e3, e4, e5, e6]
theorem tuple_key (t : Tup) (h : t.Ok) : ∃ q, keyOf Try.prog 32 (tV t) = some q := by
  obtain ⟨d, hd⟩ := types_many4
  have e := tuple_lits (d + 1) t h
  have e2 : (Try.prog.keyType 32 && (tV t).formed Try.prog 32) = true := by kernel_rfl
  have hs : Try.prog.types.size + 1 = d + 1 + 1 + 1 + 1 + 1 := by omega
  unfold keyOf
  rw [Try.underlying32]
  dsimp only
  rw [if_pos e2, hs]
  rw [show (tV t).cells.toList = [.string t.o.t, .string t.o.i, .string t.o.r, .string t.s.t, .string t.s.i, .string t.s.r] from rfl, e]
  exact ⟨_, rfl⟩

end Go.Proofs.Ytcbgemnmehoeaaa
