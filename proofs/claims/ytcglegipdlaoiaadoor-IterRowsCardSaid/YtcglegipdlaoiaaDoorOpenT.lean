/- The arguments' types, opened; a world in which the library's tables lie. No condition: lemmas. -/
import Derived.Test.YtcglegipdlaoiaaDoorOpen
import Derived.Test.YtcglegipdlaoiaaDoorCodecD
import GoSem.PinnedTables
import Derived.Deep.DeepHandedRow
import Derived.Lib.SmallJoins
namespace Go.Proofs.YtcglegipdlaoiaaDoor
open Go Go.RowKit Go.ChangeShapes Go.WideShapes Go.ChangeAt
open Go.ChangeMaps (open_string)

section
variable {H : Type} {enc : TypeId × Value → H} {W : World} {base : Nat} {v : Value} {d : DataW H} {ps : List MemPlace}

theorem open_bytesV (hok : Value.okWide Tryd.prog W .any base 63 v) (h : DataW.Trod enc Tryd.prog W 0 (fun _ => true) true 63 v d ps) : ∃ l : List UInt8, Sl (· < W.heap.size) W 1 v (bc l) := by
  obtain ⟨xs, elems, fuel, hs, hl, he, _⟩ := open_sl Tryd.underlying63 (okWide_slice Tryd.underlying63 hok) h
  rw [show Tryd.prog.cellsOf 5 = 1 from by kernel_rfl] at hs hl he
  have hall : ∀ i (hi : i < xs.length), ∃ c : UInt8, xs[i] = .int .u8 c.toNat := by
    intro i hi
    have hie : i < elems.length := by omega
    have := he i elems[i] (by simp [hie])
    rw [Nat.mul_one, show (xs.drop i).take 1 = [xs[i]] from by rw [List.drop_eq_getElem_cons hi]; rfl] at this
    obtain ⟨n, e1, _, hw⟩ := DataW.trod_int Tryd.underlying5 this
    have hb := bounds_u8 hw
    refine ⟨UInt8.ofNat n.toNat, ?_⟩
    have e2 : xs[i] = .int .u8 n := by simpa using e1
    rw [e2]
    congr 1
    have : (UInt8.ofNat n.toNat).toNat = n.toNat := by simp; omega
    rw [this]
    omega
  refine ⟨xs.map fun x => match x with | .int _ n => UInt8.ofNat n.toNat | _ => 0, ?_⟩
  have : bc (xs.map fun x => match x with | .int _ n => UInt8.ofNat n.toNat | _ => 0) = xs := by
    apply List.ext_getElem
    · simp [bc]
    · intro i h1 h2
      obtain ⟨c, hc⟩ := hall i h2
      simp [bc, hc]
  rw [this]
  exact hs

theorem open_u64V (hok : Value.okWide Tryd.prog W .any base 23 v) (h : DataW.Trod enc Tryd.prog W 0 (fun _ => true) true 23 v d ps) : ∃ q : Nat, v = .int .u64 q ∧ U64 q := by
  obtain ⟨x, rfl, _, _, wx⟩ := open_int Tryd.underlying23 hok h
  have hb := bounds_u64 wx
  refine ⟨x.toNat, by congr 1; omega, ?_⟩
  unfold U64
  omega

theorem open_strV (hok : Value.okWide Tryd.prog W .any base 9 v) (h : DataW.Trod enc Tryd.prog W 0 (fun _ => true) true 9 v d ps) : ∃ s : ByteArray, v = .string s ∧ s.size ≤ 9223372036854775807 := by
  obtain ⟨s, rfl, _, _, hs⟩ := open_string Tryd.underlying9 hok h
  exact ⟨s, rfl, by unfold maxLen at hs; omega⟩

theorem open_boolV (hok : Value.okWide Tryd.prog W .any base 4 v) (h : DataW.Trod enc Tryd.prog W 0 (fun _ => true) true 4 v d ps) : ∃ b : Bool, v = .bool b := by
  obtain ⟨b, rfl, _⟩ := open_bool Tryd.underlying4 hok h
  exact ⟨b, rfl⟩

theorem open_entryV (hok : Value.okWide Tryd.prog W .any base 29 v) (h : DataW.Trod enc Tryd.prog W 0 (fun _ => true) true 29 v d ps) : ∃ (k : ByteArray) (r : Nat) (b : Bool), v = entV k r b ∧ U64 r := by
  have hc : Tryd.prog.cellsOf 29 = 3 := by kernel_rfl
  obtain ⟨c0, c1, c2, y0, y1, y2, m, rfl, _, _, h0, h1, h2⟩ := Go.Joins.open_agg3 Tryd.underlying29 (by kernel_rfl) hc hok h
  obtain ⟨k, e0, _⟩ := DataW.trod_string Tryd.underlying9 h0
  obtain ⟨r, e1, _, wr⟩ := DataW.trod_int Tryd.underlying23 h1
  obtain ⟨b, e2, _⟩ := DataW.trod_bool Tryd.underlying4 h2
  have hb := bounds_u64 wr
  simp at e0 e1 e2
  subst e0 e1 e2
  refine ⟨k, r.toNat, b, ?_, by unfold U64; omega⟩
  unfold entV
  rw [show ((r.toNat : Nat) : Int) = r from by omega]
end

theorem own : ownKnob Tryd.prog.godebug = none := by kernel_rfl

def layRow (cs : Array Value) : Obj → Obj
  | .cells _ t frozen => .cells cs t frozen
  | o => o

def acceptRow : Array Value := #[.int .u8 128, .int .u8 191, .int .u8 160, .int .u8 191, .int .u8 128, .int .u8 159, .int .u8 144, .int .u8 191, .int .u8 128, .int .u8 143, .int .u8 0, .int .u8 0, .int .u8 0, .int .u8 0, .int .u8 0, .int .u8 0, .int .u8 0, .int .u8 0, .int .u8 0, .int .u8 0, .int .u8 0, .int .u8 0, .int .u8 0, .int .u8 0, .int .u8 0, .int .u8 0, .int .u8 0, .int .u8 0, .int .u8 0, .int .u8 0, .int .u8 0, .int .u8 0]
def firstRow : Array Value := (Go.Pinned.utf8FirstZ.map fun (n : Nat) => Value.int .u8 n).toArray

/-- The settled world, the library's two tables laid. -/
noncomputable def laidWorld (os : Os) : World :=
  { World.holding Tryd.prog os ⟨#[], #[], []⟩ with heap := ((World.holding Tryd.prog os ⟨#[], #[], []⟩).heap.modify 1 (layRow firstRow)).modify 2 (layRow acceptRow) }

end Go.Proofs.YtcglegipdlaoiaaDoor
