/- The walks of sentrylaw18's few and rows. No condition: lemmas. -/
import Derived.Test.YtkllfdfipkcddaaDoorPut11
import Derived.Test.YtkllfdfipkcddaaDoorDropF
import Derived.Test.YtkllfdfipkcddaaDoorRefDropB
namespace Go.Proofs.YtkllfdfipkcddaaDoor
open Go Go.RowKit

/-- An entry's inner key. -/
def innerA (x : Ent) : ByteArray := ⟨(innerB x.1.data.toList x.2.1 x.2.2).toArray⟩
/-- Entries' inner keys, in order, each once. -/
def rowsL (es : List Ent) : List ByteArray := es.foldl (fun out x => (putS out (innerA x)).1) []

theorem putS_length : ∀ (l : List ByteArray) (k : ByteArray), (putS l k).1.length ≤ l.length + 1
  | [], k => by simp [putS]
  | a :: r, k => by
    have := putS_length r k
    unfold putS
    split
    · simp; omega
    · split <;> simp
theorem rows_length : ∀ (es : List Ent) (l : List ByteArray), (es.foldl (fun out x => (putS out (innerA x)).1) l).length ≤ l.length + es.length
  | [], l => by simp
  | x :: es, l => by
    have h1 := rows_length es (putS l (innerA x)).1
    have h2 := putS_length l (innerA x)
    simp only [List.foldl_cons, List.length_cons]
    omega

/-- Are entries few and short? -/
def fewB (es : List Ent) : Bool := es.all (fun x => decide (x.1.size ≤ 100)) && decide (es.length ≤ 100)

set_option maxRecDepth 100000 in
set_option maxHeartbeats 800000 in
theorem rows_any (x : Value) (es : List Ent) (w : World) (hx : Sl (· < w.heap.size) w 3 x (ec es)) (hl : es.length ≤ 1000) (hu : ∀ e ∈ es, U64 e.2.1) (hk : ∀ e ∈ es, e.1.size ≤ 10000000) :
    Calls Tryd.prog 26 #[x] w (RetS (rowsL es) w) := by
  obtain ⟨ao, c, rfl, hac, hcm, hacell⟩ := hx.ents
  have HAC := Lib.hid hacell
  have HL := Lib.hid hl
  clear hacell hx hl
  go_enter Tryd.func26, Tryd.ntmps26
  go_wp2
  go_loopw [3, 8] (fun vv ii wr => ∃ i : Nat, i ≤ es.length ∧ ii = .int .i64 i ∧ Sl (· < wr.heap.size) wr 1 vv (sc (rowsL (es.take i))) ∧ Below w.heap.size w wr) (fun _ ii _ => es.length - (intOf ii).toNat)
  case atStart => exact ⟨0, by omega, rfl, Sl.nil _ _ _, Below.refl _ _⟩
  case round =>
    obtain ⟨i, hi, rfl, hsl, hbel⟩ := hrel
    by_cases hlt : i < es.length
    · obtain ⟨b, off, rfl, hb, hc⟩ := HAC.out (by omega)
      obtain ⟨c0, c1, c2⟩ := hc i hlt
      have d0 := (hbel.cell (p := ⟨b, off + i * 3, none⟩) hb).trans c0
      have d1 := (hbel.cell (p := ⟨b, off + i * 3 + 1, none⟩) hb).trans c1
      have d2 := (hbel.cell (p := ⟨b, off + i * 3 + 2, none⟩) hb).trans c2
      have hue := hu _ (List.getElem_mem hlt)
      have hke := hk _ (List.getElem_mem hlt)
      have HT := Lib.hid (show rowsL (es.take (i + 1)) = (putS (rowsL (es.take i)) (innerA es[i])).1 from by unfold rowsL; rw [List.take_succ_eq_append_getElem hlt, List.foldl_append]; rfl)
      have hlen : (rowsL (es.take i)).length ≤ 1000000 := by
        have := rows_length (es.take i) []
        have := HL.out
        rw [List.length_take] at *
        simp only [List.length_nil] at *
        unfold rowsL
        omega
      have HLEN := Lib.hid hlen
      clear hc c0 c1 c2 hlen
      generalize rowsL (es.take i) = out at *
      generalize es[i] = y at *
      obtain ⟨yk, yr, yd⟩ := y
      dsimp only at *
      have hbA := hbel.alloc hbel.size (Obj.cells #[Value.string yk, Value.int IntKind.u64 yr, Value.bool yd] 31)
      go_wp2_with fail
      refine (refInner_any yk yr yd _ hue hke).mono ?_
      rintro e w2 ⟨rfl, hb2⟩
      have hb02 := hbA.trans (hb2.mono hbA.size)
      have hsl2 := ((hsl.same (Same.below ((Below.refl _ _).alloc (Nat.le_refl _) (Obj.cells #[Value.string yk, Value.int IntKind.u64 yr, Value.bool yd] 31)))).mono (T := fun x => x < (wr.alloc (Obj.cells #[Value.string yk, Value.int IntKind.u64 yr, Value.bool yd] 31)).heap.size) (fun x h => by simp; omega))
      have hsl3 := (hsl2.same (Same.below hb2)).mono (T := fun x => x < w2.heap.size) (fun x h => Nat.lt_of_lt_of_le h hb2.size)
      go_wp2_with fail
      refine (put11_any _ out (innerA (yk, yr, yd)) w2 hsl3 HLEN.out).mono ?_
      rintro e w3 ⟨v, rfl, hsl4, hb3⟩
      have hb03 := hb02.trans (hb3.mono hb02.size)
      have HS4 := Lib.hid hsl4
      go_wp2
      go_roundw
      case rel => exact ⟨i + 1, by omega, by go_num, by rw [HT.out]; exact HS4.out, hb03⟩
      case measure => simp [intOf]; omega
    · obtain rfl : i = es.length := by omega
      rw [List.take_length] at hsl
      have HS := Lib.hid hsl
      go_wp2
      go_ret
      exact ⟨_, rfl, HS.out, hbel⟩

theorem fewB_long {es : List Ent} {i : Nat} (hi : i < es.length) (h : 100 < es[i].1.size) : fewB es = false := by
  unfold fewB
  rw [Bool.and_eq_false_iff]
  left
  rw [List.all_eq_false]
  exact ⟨_, List.getElem_mem hi, by simp; omega⟩
theorem fewB_short {es : List Ent} (h : ∀ i (hi : i < es.length), es[i].1.size ≤ 100) : fewB es = decide (es.length ≤ 100) := by
  unfold fewB
  rw [show es.all (fun x => decide (x.1.size ≤ 100)) = true from by
    rw [List.all_eq_true]
    intro x hx
    obtain ⟨i, hi, rfl⟩ := List.getElem_of_mem hx
    simpa using h i hi]
  rfl

set_option maxRecDepth 100000 in
set_option maxHeartbeats 800000 in
theorem few_any (x : Value) (es : List Ent) (w : World) (hx : Sl (· < w.heap.size) w 3 x (ec es)) :
    Calls Tryd.prog 25 #[x] w (RetV (.bool (fewB es)) w) := by
  obtain ⟨ao, c, rfl, hac, hcm, hacell⟩ := hx.ents
  have HAC := Lib.hid hacell
  clear hacell hx
  go_enter Tryd.func25, Tryd.ntmps25
  go_wp2
  go_loopw [7] (fun ii wr => ∃ i : Nat, i ≤ es.length ∧ ii = .int .i64 i ∧ (∀ j (hj : j < es.length), j < i → es[j].1.size ≤ 100) ∧ Below w.heap.size w wr) (fun ii _ => es.length - (intOf ii).toNat)
  case atStart => exact ⟨0, by omega, rfl, fun _ _ h => absurd h (by omega), Below.refl _ _⟩
  case round =>
    obtain ⟨i, hi, rfl, hall, hbel⟩ := hrel
    have HALL := Lib.hid hall
    clear hall
    by_cases hlt : i < es.length
    · obtain ⟨b, off, rfl, hb, hc⟩ := HAC.out (by omega)
      obtain ⟨c0, c1, c2⟩ := hc i hlt
      have d0 := (hbel.cell (p := ⟨b, off + i * 3, none⟩) hb).trans c0
      have d1 := (hbel.cell (p := ⟨b, off + i * 3 + 1, none⟩) hb).trans c1
      have d2 := (hbel.cell (p := ⟨b, off + i * 3 + 2, none⟩) hb).trans c2
      have HF := fun h => Lib.hid (fewB_long hlt h)
      have HN := fun (h : es[i].1.size ≤ 100) => Lib.hid (show ∀ j (hj : j < es.length), j < i + 1 → es[j].1.size ≤ 100 from fun j hj h' => (Nat.lt_succ_iff_lt_or_eq.1 h').elim (fun e => HALL.out j hj e) (fun e => by subst e; exact h))
      clear hc c0 c1 c2
      generalize es[i] = y at *
      obtain ⟨yk, yr, yd⟩ := y
      dsimp only at *
      have hbA := hbel.alloc hbel.size (Obj.cells #[Value.string yk, Value.int IntKind.u64 yr, Value.bool yd] 31)
      by_cases hz : 100 < yk.size
      · have hzi : (100 : Int) < yk.size := by omega
        have HR := HF hz
        clear HF HN hz
        go_wp2
        go_ret
        rw [HR.out]
        exact ⟨rfl, hbA⟩
      · have hzi : (yk.size : Int) ≤ 100 := by omega
        have HR := HN (by omega)
        clear HF HN hz
        go_wp2
        go_roundw
        case rel => exact ⟨i + 1, by omega, by go_num, HR.out, hbA⟩
        case measure => simp [intOf]; omega
    · obtain rfl : i = es.length := by omega
      have HR := Lib.hid (fewB_short (es := es) fun j hj => HALL.out j hj hj)
      go_wp2
      go_ret
      rw [HR.out]
      exact ⟨congrArg (fun b => Ending.returned (.bool b)) (by simp; omega), hbel⟩

end Go.Proofs.YtkllfdfipkcddaaDoor
