/- What a version becomes has numbers and texts as those of the version and the edit. Plain Lean. No condition: lemmas. -/
import Derived.Test.YtkllfdfipkcddaaEditPR
namespace Go.Proofs.Ytkllfdfipkcddaa
open Go Go.RowKit

theorem i64_max {a b : Int} (h : I64 a) (k : I64 b) : I64 (max a b) := by unfold I64 at *; omega
theorem applyR_Ok {v a : Ver} {x : Edi} {n : Nat} (h : applyR v x = (a, n)) (hv : v.Ok) (hx : x.Ok) : a.Ok ∧ a.tabs.length ≤ v.tabs.length + x.add.length := by
  have hz : zeroVer.Ok ∧ zeroVer.tabs.length ≤ v.tabs.length + x.add.length := ⟨⟨fun t ht => absurd ht (by simp [zeroVer]), by unfold I64 zeroVer; decide, by unfold I64 zeroVer; decide⟩, by simp [zeroVer]⟩
  have fin : ∀ m, applyR v x = (zeroVer, m) → a.Ok ∧ a.tabs.length ≤ v.tabs.length + x.add.length := fun m e => by
    rw [e] at h
    obtain rfl := (Prod.mk.inj h).1
    exact hz
  rcases chkN_cases v with hc | hc
  · cases hr : rightE x with
    | false => exact fin _ (applyR_1 hc hr)
    | true =>
      cases hd : dropAll v.tabs x.drop with
      | none => exact fin _ (applyR_4 hc hr hd)
      | some l =>
        cases ha : addAll insT l x.add with
        | none => exact fin _ (applyR_3 hc hr hd ha)
        | some m =>
          have e := applyR_ok hc hr hd ha
          by_cases h0 : chkN (outOf v x m) ≠ 0
          · rw [if_pos h0] at e; exact fin _ e
          · rw [if_neg h0, h] at e
            obtain rfl := (Prod.mk.inj e).1
            have hp := addAll_isperm ha
            have hs := dropAll_keep _ hd
            refine ⟨⟨fun t ht => ?_, i64_max hv.log hx.log, i64_max hv.next hx.next⟩, ?_⟩
            · have := hp.mem_iff.1 ht
              rcases List.mem_append.1 this with h1 | h1
              · exact hv.tabs t (hs.subset h1)
              · exact hx.add t h1
            · have h1 := hp.length_eq
              have h2 := hs.length_le
              rw [List.length_append] at h1
              show m.length ≤ _
              omega
  · exact fin _ (applyR_9 hc)
theorem both_Ok {x y : Edi} (h : x.Ok) (k : y.Ok) : (bothE x y).Ok :=
  ⟨fun t ht => (List.mem_append.1 ht).elim (h.add t) (k.add t), fun n hn => (List.mem_append.1 hn).elim (h.drop n) (k.drop n), i64_max h.log k.log, i64_max h.next k.next⟩

end Go.Proofs.Ytkllfdfipkcddaa
