/- The walks of sentrylaw18's few and rows. No condition: lemmas. -/
import Derived.Test.YtcglegipdlaoiaaDoorPut11
import Derived.Test.YtcglegipdlaoiaaDoorDropD
import Derived.Test.YtcglegipdlaoiaaDoorRefDropB
namespace Go.Proofs.YtcglegipdlaoiaaDoor
open Go Go.RowKit

/-- An entry's inner key. -/
def innerA (x : Ent) : ByteArray := ⟨(innerB x.1.data.toList x.2.1 x.2.2).toArray⟩
/-- Entries' inner keys, in order, each once. -/
def rowsL (es : List Ent) : List ByteArray := es.foldl (fun out x => (putS out (innerA x)).1) []

theorem putS_length : ∀ (l : List ByteArray) (k : ByteArray), (putS l k).1.length ≤ l.length + 1
  | [], k => by simp [putS]
  | a :: r, k => by
    have := putS_length r k
    unfold putS
    split
    · simp; omega
    · split <;> simp
theorem rows_length : ∀ (es : List Ent) (l : List ByteArray), (es.foldl (fun out x => (putS out (innerA x)).1) l).length ≤ l.length + es.length
  | [], l => by simp
  | x :: es, l => by
    have h1 := rows_length es (putS l (innerA x)).1
    have h2 := putS_length l (innerA x)
    simp only [List.foldl_cons, List.length_cons]
    omega

/-- Are entries few and short? -/
def fewB (es : List Ent) : Bool := es.all (fun x => decide (x.1.size ≤ 100)) && decide (es.length ≤ 100)

theorem fewB_long {es : List Ent} {i : Nat} (hi : i < es.length) (h : 100 < es[i].1.size) : fewB es = false := by
  unfold fewB
  rw [Bool.and_eq_false_iff]
  left
  rw [List.all_eq_false]
  exact ⟨_, List.getElem_mem hi, by simp; omega⟩
theorem fewB_short {es : List Ent} (h : ∀ i (hi : i < es.length), es[i].1.size ≤ 100) : fewB es = decide (es.length ≤ 100) := by
  unfold fewB
  rw [show es.all (fun x => decide (x.1.size ≤ 100)) = true from by
    rw [List.all_eq_true]
    intro x hx
    obtain ⟨i, hi, rfl⟩ := List.getElem_of_mem hx
    simpa using h i hi]
  rfl

end Go.Proofs.YtcglegipdlaoiaaDoor
