/- The walks of codec.PutText, sentryref02.PutText and codec.GetText. No condition: lemmas. -/
import Derived.Test.YtcglegipdlaoiaaDoorCodecD
namespace Go.Proofs.YtcglegipdlaoiaaDoor
open Go Go.RowKit

theorem bytesInfo : (Tryd.prog.info? 5).map (fun i => (i.zero, i.size, i.bytes)) = some (some (.int .u8 0), 1, 1) := by kernel_rfl

/-- P2.1: a text as bytes: its length, its bytes. -/
def putT (s : List UInt8) : List UInt8 := putB s.length ++ s

theorem size_data (s : ByteArray) : s.data.toList.length = s.size := Array.length_toList

/-- P2.1: the text that bytes begin with: text, length, error. -/
def getT (bs : List UInt8) : List UInt8 × Nat × Nat :=
  if (getG bs 0 0).2.2 ≠ 0 then ([], 0, (getG bs 0 0).2.2)
  else if (getG bs 0 0).1 > bs.length - (getG bs 0 0).2.1 then ([], 0, 7)
  else ((bs.drop (getG bs 0 0).2.1).take (getG bs 0 0).1, (getG bs 0 0).2.1 + (getG bs 0 0).1, 0)

theorem getG_facts : ∀ (bs : List UInt8) (i v : Nat), (getG bs i v).2.2 = 0 ∧ i < (getG bs i v).2.1 ∧ (getG bs i v).2.1 ≤ i + bs.length ∨ (getG bs i v).2.2 = 7 ∨ (getG bs i v).2.2 = 9
  | [], _, _ => by simp [getG]
  | c :: r, i, v => by
    unfold getG
    split
    · simp
    · split
      · simp
      · rcases getG_facts r (i + 1) (v + c.toNat % 128 * 2 ^ (7 * i)) with ⟨h1, h2, h3⟩ | h
        · refine .inl ⟨h1, by omega, ?_⟩
          rw [List.length_cons]
          omega
        · exact .inr h

/-- GetText's answer. -/
def RetGetT (r : List UInt8 × Nat × Nat) (w : World) (e : Ending) (w' : World) : Prop := e = .returned (.tuple #[.string ⟨r.1.toArray⟩, .int .i64 r.2.1, .int .i64 r.2.2]) ∧ w = w'
theorem RetGetT.mk' {s : ByteArray} {b c : Int} {r : List UInt8 × Nat × Nat} {w : World} (x : List UInt8) (y z : Nat) (h : r = (x, y, z)) (h1 : s = ⟨x.toArray⟩) (h2 : b = y) (h3 : c = z) : RetGetT r w (.returned (.tuple #[.string s, .int .i64 b, .int .i64 c])) w := by
  subst h h1 h2 h3
  exact ⟨rfl, rfl⟩

end Go.Proofs.YtcglegipdlaoiaaDoor
