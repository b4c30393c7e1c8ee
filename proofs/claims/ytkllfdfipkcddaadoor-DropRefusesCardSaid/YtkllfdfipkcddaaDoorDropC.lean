/- The walk of (*drop.first).is. No condition: lemmas. -/
import Derived.Test.YtkllfdfipkcddaaDoorDropB
import Derived.Test.YtkllfdfipkcddaaDoorKept
import Derived.BigQuiet
namespace Go.Proofs.YtkllfdfipkcddaaDoor
open Go Go.RowKit

/-- The first entry of a Key that isn't newer than a revision: the answer, and what is known behind it (the key, was one told, was there a key). -/
def isStep (rev : Nat) (s : ByteArray × Bool × Bool) (x : Ent) : Bool × (ByteArray × Bool × Bool) :=
  let s' := if s.2.2 = false ∨ x.1 ≠ s.1 then (x.1, false, true) else s
  if rev < x.2.1 ∨ s'.2.1 = true then (false, s') else (true, (s'.1, true, s'.2.2))

def firstC (rev : Nat) (s : ByteArray × Bool × Bool) : Array Value := #[.int .u64 rev, .string s.1, .bool s.2.1, .bool s.2.2]

set_option maxRecDepth 100000 in
set_option maxHeartbeats 1600000 in
theorem is_any (F rev : Nat) (s : ByteArray × Bool × Bool) (x : Ent) (w : World) (hB : Blk w F (firstC rev s) 69) :
    Calls Tryd.prog 40 #[.pointer (some ⟨F, 0, none⟩), .agg #[.string x.1, .int .u64 x.2.1, .bool x.2.2]] w fun e w' =>
      e = .returned (.bool (isStep rev s x).1) ∧ Blk w' F (firstC rev (isStep rev s x).2) 69 ∧ Kept (fun b => b < w.heap.size ∧ b ≠ F) w w' := by
  obtain ⟨key, sm, an⟩ := s
  obtain ⟨k, r, d⟩ := x
  have hFl := hB.lt
  have hX := Blk.made w #[Value.string k, Value.int IntKind.u64 r, Value.bool d] 31
  have hF := hB.alloc (Obj.cells #[Value.string k, Value.int IntKind.u64 r, Value.bool d] 31)
  have hk0 : Kept (fun b => b < w.heap.size ∧ b ≠ F) w (w.alloc (Obj.cells #[Value.string k, Value.int IntKind.u64 r, Value.bool d] 31)) := (Kept.refl _ _).alloc (fun b h => h.1) _
  have hcx := hX.cells
  have hcf := hF.cells
  have hff := hF.free
  unfold firstC at hcf
  dsimp only at hcf ⊢
  have e1 := ByteArray.toList_eq k
  have e2 := ByteArray.toList_eq key
  have HB := Lib.hid hF
  have HK := Lib.hid hk0
  have hneq : k ≠ key → (k.data.toList == key.data.toList) = false := fun h => by
    rw [beq_eq_false_iff_ne]
    exact fun e => h (ByteArray.ext (by rw [← Array.toList_inj]; exact e))
  have HN := Lib.hid hneq
  clear hneq hX hF hB hk0
  rcases (show an = false ∨ (an = true ∧ k ≠ key) ∨ (an = true ∧ k = key ∧ sm = false) ∨ (an = true ∧ k = key ∧ sm = true) by cases an <;> cases sm <;> by_cases h : k = key <;> simp [h]) with rfl | ⟨rfl, hk⟩ | ⟨rfl, rfl, rfl⟩ | ⟨rfl, rfl, rfl⟩
  · by_cases hr : rev < r
    · have hri : (rev : Int) < r := by omega
      have HR := Lib.hid (show isStep rev (key, sm, false) (k, r, d) = (false, (k, false, true)) from by simp [isStep, hr])
      clear hr
      go_enter Tryd.func40, Tryd.ntmps40
      go_wp2_with fail
      go_quiet (fail)
      go_wp2_with fail
      go_quiet (fail)
      go_wp2_with fail
      go_ret
      rw [HR.out]
      refine ⟨rfl, ?_, ?_⟩
      · refine Blk.drewN ?_ _
        refine Blk.set_to (cs := firstC rev (k, false, false)) ?_ _ _ rfl
        refine Blk.set_to (cs := firstC rev (k, sm, false)) ?_ _ _ rfl
        refine Blk.set_to (cs := firstC rev (key, sm, false)) ?_ _ _ rfl
        refine Blk.drewN ?_ _
        exact HB.out
      · repeat (first | with_reducible exact HK.out | with_reducible refine Kept.drewN ?_ _ | with_reducible refine Kept.set ?_ (by simp) _)
    · have hri : decide (rev < r) = false := by simpa using hr
      have HR := Lib.hid (show isStep rev (key, sm, false) (k, r, d) = (true, (k, true, true)) from by simp [isStep, hr])
      clear hr
      go_enter Tryd.func40, Tryd.ntmps40
      go_wp2_with fail
      go_quiet (fail)
      go_wp2_with fail
      go_quiet (fail)
      go_wp2_with fail
      go_ret
      rw [HR.out]
      refine ⟨rfl, ?_, ?_⟩
      · refine Blk.set_to (cs := firstC rev (k, false, true)) ?_ _ _ rfl
        refine Blk.drewN ?_ _
        refine Blk.set_to (cs := firstC rev (k, false, false)) ?_ _ _ rfl
        refine Blk.set_to (cs := firstC rev (k, sm, false)) ?_ _ _ rfl
        refine Blk.set_to (cs := firstC rev (key, sm, false)) ?_ _ _ rfl
        refine Blk.drewN ?_ _
        exact HB.out
      · repeat (first | with_reducible exact HK.out | with_reducible refine Kept.drewN ?_ _ | with_reducible refine Kept.set ?_ (by simp) _)
  · have hkb := HN.out hk
    have HKK := Lib.hid hk
    clear hk
    by_cases hr : rev < r
    · have hri : (rev : Int) < r := by omega
      have HR := Lib.hid (show isStep rev (key, sm, true) (k, r, d) = (false, (k, false, true)) from by simp [isStep, hr, HKK.out])
      clear hr
      go_enter Tryd.func40, Tryd.ntmps40
      go_wp2_with fail
      go_quiet (fail)
      go_wp2_with fail
      go_quiet (fail)
      go_wp2_with fail
      go_ret
      rw [HR.out]
      refine ⟨rfl, ?_, ?_⟩
      · refine Blk.drewN ?_ _
        refine Blk.set_to (cs := firstC rev (k, false, true)) ?_ _ _ rfl
        refine Blk.set_to (cs := firstC rev (k, sm, true)) ?_ _ _ rfl
        refine Blk.set_to (cs := firstC rev (key, sm, true)) ?_ _ _ rfl
        refine Blk.drewN ?_ _
        exact HB.out
      · repeat (first | with_reducible exact HK.out | with_reducible refine Kept.drewN ?_ _ | with_reducible refine Kept.set ?_ (by simp) _)
    · have hri : decide (rev < r) = false := by simpa using hr
      have HR := Lib.hid (show isStep rev (key, sm, true) (k, r, d) = (true, (k, true, true)) from by simp [isStep, hr, HKK.out])
      clear hr
      go_enter Tryd.func40, Tryd.ntmps40
      go_wp2_with fail
      go_quiet (fail)
      go_wp2_with fail
      go_quiet (fail)
      go_wp2_with fail
      go_ret
      rw [HR.out]
      refine ⟨rfl, ?_, ?_⟩
      · refine Blk.set_to (cs := firstC rev (k, false, true)) ?_ _ _ rfl
        refine Blk.drewN ?_ _
        refine Blk.set_to (cs := firstC rev (k, false, true)) ?_ _ _ rfl
        refine Blk.set_to (cs := firstC rev (k, sm, true)) ?_ _ _ rfl
        refine Blk.set_to (cs := firstC rev (key, sm, true)) ?_ _ _ rfl
        refine Blk.drewN ?_ _
        exact HB.out
      · repeat (first | with_reducible exact HK.out | with_reducible refine Kept.drewN ?_ _ | with_reducible refine Kept.set ?_ (by simp) _)
  · have hkb : (k.data.toList == k.data.toList) = true := by simp
    by_cases hr : rev < r
    · have hri : (rev : Int) < r := by omega
      have HR := Lib.hid (show isStep rev (k, false, true) (k, r, d) = (false, (k, false, true)) from by simp [isStep, hr])
      clear hr
      go_enter Tryd.func40, Tryd.ntmps40
      go_wp2_with fail
      go_quiet (fail)
      go_wp2_with fail
      go_quiet (fail)
      go_wp2_with fail
      go_ret
      rw [HR.out]
      refine ⟨rfl, ?_, ?_⟩
      · repeat (first | with_reducible exact HB.out | with_reducible refine Blk.drewN ?_ _)
      · repeat (first | with_reducible exact HK.out | with_reducible refine Kept.drewN ?_ _ | with_reducible refine Kept.set ?_ (by simp) _)
    · have hri : decide (rev < r) = false := by simpa using hr
      have HR := Lib.hid (show isStep rev (k, false, true) (k, r, d) = (true, (k, true, true)) from by simp [isStep, hr])
      clear hr
      go_enter Tryd.func40, Tryd.ntmps40
      go_wp2_with fail
      go_quiet (fail)
      go_wp2_with fail
      go_quiet (fail)
      go_wp2_with fail
      go_ret
      rw [HR.out]
      refine ⟨rfl, ?_, ?_⟩
      · refine Blk.set_to (cs := firstC rev (k, false, true)) ?_ _ _ rfl
        repeat (first | with_reducible exact HB.out | with_reducible refine Blk.drewN ?_ _)
      · repeat (first | with_reducible exact HK.out | with_reducible refine Kept.drewN ?_ _ | with_reducible refine Kept.set ?_ (by simp) _)
  · have hkb : (k.data.toList == k.data.toList) = true := by simp
    by_cases hr : rev < r
    · have hri : (rev : Int) < r := by omega
      have HR := Lib.hid (show isStep rev (k, true, true) (k, r, d) = (false, (k, true, true)) from by simp [isStep, hr])
      clear hr
      go_enter Tryd.func40, Tryd.ntmps40
      go_wp2_with fail
      go_quiet (fail)
      go_wp2_with fail
      go_quiet (fail)
      go_wp2_with fail
      go_ret
      rw [HR.out]
      refine ⟨rfl, ?_, ?_⟩
      · repeat (first | with_reducible exact HB.out | with_reducible refine Blk.drewN ?_ _)
      · repeat (first | with_reducible exact HK.out | with_reducible refine Kept.drewN ?_ _ | with_reducible refine Kept.set ?_ (by simp) _)
    · have hri : decide (rev < r) = false := by simpa using hr
      have HR := Lib.hid (show isStep rev (k, true, true) (k, r, d) = (false, (k, true, true)) from by simp [isStep, hr])
      clear hr
      go_enter Tryd.func40, Tryd.ntmps40
      go_wp2_with fail
      go_quiet (fail)
      go_wp2_with fail
      go_quiet (fail)
      go_wp2_with fail
      go_ret
      rw [HR.out]
      refine ⟨rfl, ?_, ?_⟩
      · repeat (first | with_reducible exact HB.out | with_reducible refine Blk.drewN ?_ _)
      · repeat (first | with_reducible exact HK.out | with_reducible refine Kept.drewN ?_ _ | with_reducible refine Kept.set ?_ (by simp) _)

end Go.Proofs.YtkllfdfipkcddaaDoor
