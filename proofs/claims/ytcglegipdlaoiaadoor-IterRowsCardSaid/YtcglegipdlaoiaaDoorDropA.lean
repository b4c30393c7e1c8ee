/- Rows of texts and of entries in memory; what an inner key tells. No condition: lemmas. -/
import Derived.Test.YtcglegipdlaoiaaDoorCodecG
import Derived.Test.YtcglegipdlaoiaaDoorCodecH
namespace Go.Proofs.YtcglegipdlaoiaaDoor
open Go Go.RowKit

/-- Texts as cells. -/
def sc (l : List ByteArray) : List Value := l.map Value.string
@[simp] theorem sc_length (l : List ByteArray) : (sc l).length = l.length := by simp [sc]
theorem sc_append (a b : List ByteArray) : sc (a ++ b) = sc a ++ sc b := by simp [sc]
theorem sc_get (l : List ByteArray) (j : Nat) (h : j < l.length) : (sc l)[j]? = some (.string l[j]) := by simp [sc, h]

/-- An entry: its Key, its Rev, whether it is Del. -/
abbrev Ent := ByteArray × Nat × Bool
def eC (x : Ent) : List Value := [.string x.1, .int .u64 x.2.1, .bool x.2.2]
/-- Entries as cells. -/
def ec (l : List Ent) : List Value := l.flatMap eC
theorem ec_append (a b : List Ent) : ec (a ++ b) = ec a ++ ec b := by simp [ec]
theorem ec_length : ∀ l : List Ent, (ec l).length = l.length * 3
  | [] => rfl
  | x :: l => by
    have := ec_length l
    simp only [ec, List.flatMap_cons, List.length_append, List.length_cons] at *
    rw [this]
    simp only [eC, List.length_cons, List.length_nil]
    omega
theorem ec_get : ∀ (l : List Ent) (i : Nat) (h : i < l.length), (ec l)[i * 3]? = some (.string l[i].1) ∧ (ec l)[i * 3 + 1]? = some (.int .u64 l[i].2.1) ∧ (ec l)[i * 3 + 2]? = some (.bool l[i].2.2)
  | x :: l, 0, _ => ⟨rfl, rfl, rfl⟩
  | x :: l, i + 1, h => by
    have ih := ec_get l i (by simpa using h)
    have e : ec (x :: l) = eC x ++ ec l := rfl
    have hl : (eC x).length = 3 := rfl
    rw [e, show (i + 1) * 3 = i * 3 + 3 from by omega]
    refine ⟨?_, ?_, ?_⟩
    · rw [List.getElem?_append_right (by omega), hl, Nat.add_sub_cancel]; exact ih.1
    · rw [List.getElem?_append_right (by omega), hl, show i * 3 + 3 + 1 - 3 = i * 3 + 1 from by omega]; exact ih.2.1
    · rw [List.getElem?_append_right (by omega), hl, show i * 3 + 3 + 2 - 3 = i * 3 + 2 from by omega]; exact ih.2.2

theorem strsT : ElemT Tryd.prog 38 9 1 16 := ElemT.mk' Tryd.underlying38 (show _ = some (some (.string ByteArray.empty), 1, 16) by kernel_rfl) rfl (by decide)
theorem entsT : ElemT Tryd.prog 44 29 3 32 := ElemT.mk' Tryd.underlying44 (show _ = some (some (.agg #[.string ByteArray.empty, .int .u64 0, .bool false]), 3, 32) by kernel_rfl) rfl (by decide)

theorem Sl.strs {S : Nat → Prop} {w : World} {v : Value} {l : List ByteArray} (h : Sl S w 1 v (sc l)) : ∃ ao c, v = .slice ao l.length c ∧ l.length ≤ c ∧ c ≤ 9223372036854775807 ∧
    (0 < l.length → ∃ b off, ao = some ⟨b, off, none⟩ ∧ S b ∧ ∀ j (hj : j < l.length), w.cell? ⟨b, off + j, none⟩ = some (.string l[j])) := by
  obtain ⟨ao, n, c, rfl, h1, h2, h3, h4, h5⟩ := h
  obtain rfl : n = l.length := by simpa using h1.symm
  refine ⟨ao, c, rfl, h2, by unfold maxLen at h3; omega, fun hl => ?_⟩
  obtain ⟨b, off, rfl, hb, hc⟩ := h5 (fun e => by have := congrArg List.length e; rw [sc_length, List.length_nil] at this; omega)
  exact ⟨b, off, rfl, hb, fun j hj => hc j _ (sc_get l j hj)⟩

theorem Sl.ents {S : Nat → Prop} {w : World} {v : Value} {l : List Ent} (h : Sl S w 3 v (ec l)) : ∃ ao c, v = .slice ao l.length c ∧ l.length ≤ c ∧ c ≤ 9223372036854775807 ∧
    (0 < l.length → ∃ b off, ao = some ⟨b, off, none⟩ ∧ S b ∧ ∀ j (hj : j < l.length), w.cell? ⟨b, off + j * 3, none⟩ = some (.string l[j].1) ∧ w.cell? ⟨b, off + j * 3 + 1, none⟩ = some (.int .u64 l[j].2.1) ∧ w.cell? ⟨b, off + j * 3 + 2, none⟩ = some (.bool l[j].2.2)) := by
  obtain ⟨ao, n, c, rfl, h1, h2, h3, h4, h5⟩ := h
  rw [ec_length] at h1
  obtain rfl : n = l.length := by omega
  refine ⟨ao, c, rfl, h2, by unfold maxLen at h3; omega, fun hl => ?_⟩
  obtain ⟨b, off, rfl, hb, hc⟩ := h5 (fun e => by have := congrArg List.length e; rw [ec_length, List.length_nil] at this; omega)
  refine ⟨b, off, rfl, hb, fun j hj => ?_⟩
  obtain ⟨g0, g1, g2⟩ := ec_get l j hj
  exact ⟨hc _ _ g0, hc _ _ g1, hc _ _ g2⟩

/-- What an inner key tells. -/
def deco (s : ByteArray) : Option Ent := (outerS s.data.toList).map fun x => (⟨x.1.toArray⟩, x.2.1, x.2.2)
theorem outV_deco (s : ByteArray) : outV (outerS s.data.toList) = match deco s with | some x => .tuple #[.agg #[.string x.1, .int .u64 x.2.1, .bool x.2.2], .int .i64 0] | none => .tuple #[.agg #[.string ByteArray.empty, .int .u64 0, .bool false], .int .i64 9] := by
  unfold deco
  cases outerS s.data.toList with
  | none => rfl
  | some x => obtain ⟨k, r, d⟩ := x; rfl

/-- Is a text less than another? -/
def ltS (a b : ByteArray) : Bool := Op.bytesLess a.toList b.toList

/-- A row rises. -/
def Rises (l : List ByteArray) : Prop := ∀ i (h : i + 1 < l.length), ltS l[i] l[i + 1] = true

open Classical in
/-- P18.1: is a row one of inner keys, in order? -/
noncomputable def codeOf (l : List ByteArray) : Nat := if ∃ k ∈ l, deco k = none then 9 else if Rises l then 0 else 11

end Go.Proofs.YtcglegipdlaoiaaDoor
