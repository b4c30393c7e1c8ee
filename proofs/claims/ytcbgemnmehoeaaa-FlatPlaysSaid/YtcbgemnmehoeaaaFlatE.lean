/- The iterator over a map's keys, at subjects. No condition: lemmas. -/
import Derived.Test.YtcbgemnmehoeaaaFlatD
import Derived.Test.YtcbgemnmehoeaaaMapIn
import Derived.RangeFuncGives
import Derived.RangeFuncNested
import Derived.WalkKit
import Derived.TacticsInMore
import Derived.RegionIn
import Derived.LoopNIn
import Derived.LoopIn
namespace Go.Proofs.Ytcbgemnmehoeaaa
open Go Go.RowKit Go.Maps Go.Sort

theorem Kept.grown {w w' : World} {r : Nat} (h : Kept (· ≠ r) w w') : w.grownBy w' (some r) := ⟨h.os, h.tape, h.output, h.size, fun k _ hk => h.block k fun e => hk (by rw [e])⟩
theorem grown0_of {w w' : World} (h : Below w.heap.size w w') : w.grownBy w' none := ⟨h.os, h.tape, h.output, h.size, fun k hk _ => h.block k hk⟩
theorem Rng.walk {P : Program} {k : TypeId} {κ α : Type} {kv : κ → Value} {ev : α → Value} {w : World} {b r : Nat} {l rem : List (κ × α)} (h : Rng P k kv ev w b r l rem) : ∃ o : Obj, w.heap[r]? = some o ∧ o.isWalk = true := by
  obtain ⟨es, clock, since, seen, c0, _, _, _, _, hr, _⟩ := h
  exact ⟨_, hr, rfl⟩
theorem Rng.walks {P : Program} {k : TypeId} {κ α : Type} {kv : κ → Value} {ev : α → Value} {w w' : World} {b r : Nat} {l rem : List (κ × α)} (h : Rng P k kv ev w b r l rem) (hk : KeepsWalks w w') : Rng P k kv ev w' b r l rem := by
  obtain ⟨es, clock, since, seen, c0, hb, hs, hm, hok, hr, rest⟩ := h
  exact ⟨es, clock, since, seen, c0, hk.same b _ hb rfl, hs, hm, hok, hk.same r _ hr rfl, rest⟩

set_option maxRecDepth 100000 in
set_option maxHeartbeats 1000000 in
theorem keysS_stops (F : Fence) (n : Nat) (h39 : F.fn 39) (hro : F.round = none) (hn : 1 ≤ n) (Bm b : Nat) (m : List (P3 × Bool)) (w : World) (hBm : Bm < w.heap.size)
    (hm : w.cell? ⟨Bm, 0, none⟩ = some (.map (some b))) (hM : Mp Try.prog 30 pV (fun x => .bool x) w b m) :
    SeqStopsK F n Try.prog 39 #[.pointer (some ⟨Bm, 0, none⟩)] (fun x => #[pV x]) KeepsWalks (fun ss => ss.Perm (m.map (·.1))) (fun _ => True) m.length w := fun l J Jx W hW hJ hJx hY h0 => by
  have hMW := hM.below hW
  have hmW := (hW.cell (p := ⟨Bm, 0, none⟩) hBm).trans hm
  clear hM hm hW
  refine callsIn_of_wp Try.func39 rfl h39 ?_ hro
  simp only [Try.ntmps39, List.size_toArray, List.length_cons, List.length_nil, Nat.reduceAdd, Nat.reduceSub, Array.replicate_succ, Array.replicate_zero, List.push_toArray, List.append_toArray, List.nil_append, List.cons_append]
  gi_wp2_with (first
    | (gi_at_range; refine wpListIn_mp_range _ rfl _ 63 rfl Try.underlying63 rfl hMW ?_; intro w0 hrg0 hb0 hs0)
    | gi_in)
  try go_frame
  gi_loopw [3] (fun _ wr => ∃ (rem : List (P3 × Bool)) (ss : List P3), Rng Try.prog 30 pV (fun x => .bool x) wr b W.heap.size m rem ∧ (ss ++ rem.map (·.1)).Perm (m.map (·.1)) ∧ J ss wr)
    (fun _ wr => wr.rangeLeft b W.heap.size)
  case atStart => exact ⟨m, [], hrg0, List.Perm.refl _, hJ [] W w0 none h0 (grown0_of hb0) (fun r e => by cases e)⟩
  case round =>
    obtain ⟨rem, ss, hrg, hp, hJs⟩ := hrel
    have hlen : ss.length + rem.length = m.length := by have := hp.length_eq; simpa using this
    have hrl : ∀ pre (p : P3 × Bool) post, rem = pre ++ p :: post → ss.length < m.length := fun pre p post e => by
      have := congrArg List.length e
      simp at this
      omega
    gi_wp2_with (first
      | (gi_at_next; refine wpListIn_mp_next _ rfl _ rfl rfl hrg ?_ ?_; rotate_left; (rintro pre ⟨⟨xt, xi, xr⟩, c⟩ post w2 hrem hrg2 hk2 hs2 hen; have HREM := Lib.hid hrem; have hJ2 : J ss w2 := hJ ss wr w2 (some W.heap.size) hJs hk2.grown (fun r e => by cases e; exact ⟨Nat.le_refl _, hrg.walk⟩); have hJ3 : J ss (w2.alloc (.cells #[.string xt, .string xi, .string xr] 30)) := hJ ss w2 _ none hJ2 (grown0_of ((Below.refl _ _).alloc (Nat.le_refl _) _)) (fun r e => by cases e); obtain ⟨fn, tmps, assign, body, hy, hR⟩ := hY ss ⟨xt, xi, xr⟩ _ hJ3 (hrl _ _ _ hrem); have HR := Lib.hid hR; have HRG := Lib.hid hrg2; have HJ3 := Lib.hid hJ3; clear hR hrg2 hJ3 hJ2 hrem hs2 hrl hk2; dsimp only [pV] at hy hen); rotate_left; (intro hrem; have HREM0 := Lib.hid hrem; clear hrem hrl))
      | gi_in)
    · go_end0
      refine ⟨⟨_, rfl⟩, .inl ⟨ss, ?_, hJs⟩⟩
      have h1 := hp
      rw [HREM0.out] at h1
      simpa using h1
    · refine HR.out.mono ?_
      rintro e W3 (⟨rfl, hJ4, hk3⟩ | ⟨rfl, hJ4⟩)
      rotate_left
      · gi_wp2
        exact bodyPost_ret (results_none rfl _ _ _) rfl ⟨⟨_, rfl⟩, .inr ⟨_, trivial, hJ4⟩⟩
      have hrg3 := (HRG.out.below ((Below.refl _ _).alloc (Nat.le_refl _) (.cells #[.string xt, .string xi, .string xr] 30))).walks hk3
      gi_wp2
      go_roundw
      case rel =>
        refine ⟨pre ++ post, ss ++ [⟨xt, xi, xr⟩], hrg3, ?_, hJ4⟩
        have h1 := hp
        rw [HREM.out] at h1
        refine List.Perm.trans ?_ h1
        simp only [List.map_append, List.map_cons, List.append_assoc, List.singleton_append]
        exact List.Perm.append_left ss List.perm_middle.symm
      case measure => rw [hrg3.left_eq, hrg.left_eq, HREM.out]; simp

set_option maxRecDepth 100000 in
set_option maxHeartbeats 1000000 in
theorem keysP_stops (F : Fence) (n : Nat) (h60 : F.fn 60) (hro : F.round = none) (hn : 1 ≤ n) (Bm b : Nat) (m : List (P3 × Bool)) (w : World) (hBm : Bm < w.heap.size)
    (hm : w.cell? ⟨Bm, 0, none⟩ = some (.map (some b))) (hM : Mp Try.prog 37 pV (fun x => .bool x) w b m) :
    SeqStopsK F n Try.prog 60 #[.pointer (some ⟨Bm, 0, none⟩)] (fun x => #[pV x]) KeepsWalks (fun ss => ss.Perm (m.map (·.1))) (fun _ => True) m.length w := fun l J Jx W hW hJ hJx hY h0 => by
  have hMW := hM.below hW
  have hmW := (hW.cell (p := ⟨Bm, 0, none⟩) hBm).trans hm
  clear hM hm hW
  refine callsIn_of_wp Try.func60 rfl h60 ?_ hro
  simp only [Try.ntmps60, List.size_toArray, List.length_cons, List.length_nil, Nat.reduceAdd, Nat.reduceSub, Array.replicate_succ, Array.replicate_zero, List.push_toArray, List.append_toArray, List.nil_append, List.cons_append]
  gi_wp2_with (first
    | (gi_at_range; refine wpListIn_mp_range _ rfl _ 77 rfl Try.underlying77 rfl hMW ?_; intro w0 hrg0 hb0 hs0)
    | gi_in)
  try go_frame
  gi_loopw [3] (fun _ wr => ∃ (rem : List (P3 × Bool)) (ss : List P3), Rng Try.prog 37 pV (fun x => .bool x) wr b W.heap.size m rem ∧ (ss ++ rem.map (·.1)).Perm (m.map (·.1)) ∧ J ss wr)
    (fun _ wr => wr.rangeLeft b W.heap.size)
  case atStart => exact ⟨m, [], hrg0, List.Perm.refl _, hJ [] W w0 none h0 (grown0_of hb0) (fun r e => by cases e)⟩
  case round =>
    obtain ⟨rem, ss, hrg, hp, hJs⟩ := hrel
    have hlen : ss.length + rem.length = m.length := by have := hp.length_eq; simpa using this
    have hrl : ∀ pre (p : P3 × Bool) post, rem = pre ++ p :: post → ss.length < m.length := fun pre p post e => by
      have := congrArg List.length e
      simp at this
      omega
    gi_wp2_with (first
      | (gi_at_next; refine wpListIn_mp_next _ rfl _ rfl rfl hrg ?_ ?_; rotate_left; (rintro pre ⟨⟨xt, xi, xr⟩, c⟩ post w2 hrem hrg2 hk2 hs2 hen; have HREM := Lib.hid hrem; have hJ2 : J ss w2 := hJ ss wr w2 (some W.heap.size) hJs hk2.grown (fun r e => by cases e; exact ⟨Nat.le_refl _, hrg.walk⟩); have hJ3 : J ss (w2.alloc (.cells #[.string xt, .string xi, .string xr] 37)) := hJ ss w2 _ none hJ2 (grown0_of ((Below.refl _ _).alloc (Nat.le_refl _) _)) (fun r e => by cases e); obtain ⟨fn, tmps, assign, body, hy, hR⟩ := hY ss ⟨xt, xi, xr⟩ _ hJ3 (hrl _ _ _ hrem); have HR := Lib.hid hR; have HRG := Lib.hid hrg2; have HJ3 := Lib.hid hJ3; clear hR hrg2 hJ3 hJ2 hrem hs2 hrl hk2; dsimp only [pV] at hy hen); rotate_left; (intro hrem; have HREM0 := Lib.hid hrem; clear hrem hrl))
      | gi_in)
    · go_end0
      refine ⟨⟨_, rfl⟩, .inl ⟨ss, ?_, hJs⟩⟩
      have h1 := hp
      rw [HREM0.out] at h1
      simpa using h1
    · refine HR.out.mono ?_
      rintro e W3 (⟨rfl, hJ4, hk3⟩ | ⟨rfl, hJ4⟩)
      rotate_left
      · gi_wp2
        exact bodyPost_ret (results_none rfl _ _ _) rfl ⟨⟨_, rfl⟩, .inr ⟨_, trivial, hJ4⟩⟩
      have hrg3 := (HRG.out.below ((Below.refl _ _).alloc (Nat.le_refl _) (.cells #[.string xt, .string xi, .string xr] 37))).walks hk3
      gi_wp2
      go_roundw
      case rel =>
        refine ⟨pre ++ post, ss ++ [⟨xt, xi, xr⟩], hrg3, ?_, hJ4⟩
        have h1 := hp
        rw [HREM.out] at h1
        refine List.Perm.trans ?_ h1
        simp only [List.map_append, List.map_cons, List.append_assoc, List.singleton_append]
        exact List.Perm.append_left ss List.perm_middle.symm
      case measure => rw [hrg3.left_eq, hrg.left_eq, HREM.out]; simp

set_option maxRecDepth 100000 in
theorem keysS_in (F : Fence) (n : Nat) (h28 : F.fn 28) (hro : F.round = none) (mb : Option Nat) (w : World) :
    CallsIn F n Try.prog 28 #[.map mb] w fun e w' => e = .returned (.func (.func 39) #[] #[.pointer (some ⟨w.heap.size, 0, none⟩)]) ∧ w' = w.alloc (.cells #[.map mb] 63) := by
  have hmf : ∀ (fn : Fn) (first cap : Array Value) (w : World), (Instr.makeFunc fn first cap).run Try.prog w = .ok (.func fn first cap) w := fun _ _ _ _ => rfl
  refine callsIn_of_wp Try.func28 rfl h28 ?_ hro
  simp only [Try.ntmps28, List.size_toArray, List.length_cons, List.length_nil, Nat.reduceAdd, Nat.reduceSub, Array.replicate_succ, Array.replicate_zero, List.push_toArray, List.append_toArray, List.nil_append, List.cons_append]
  gi_wp2
  go_ret
  exact ⟨rfl, rfl⟩

set_option maxRecDepth 100000 in
theorem keysP_in (F : Fence) (n : Nat) (h46 : F.fn 46) (hro : F.round = none) (mb : Option Nat) (w : World) :
    CallsIn F n Try.prog 46 #[.map mb] w fun e w' => e = .returned (.func (.func 60) #[] #[.pointer (some ⟨w.heap.size, 0, none⟩)]) ∧ w' = w.alloc (.cells #[.map mb] 77) := by
  have hmf : ∀ (fn : Fn) (first cap : Array Value) (w : World), (Instr.makeFunc fn first cap).run Try.prog w = .ok (.func fn first cap) w := fun _ _ _ _ => rfl
  refine callsIn_of_wp Try.func46 rfl h46 ?_ hro
  simp only [Try.ntmps46, List.size_toArray, List.length_cons, List.length_nil, Nat.reduceAdd, Nat.reduceSub, Array.replicate_succ, Array.replicate_zero, List.push_toArray, List.append_toArray, List.nil_append, List.cons_append]
  gi_wp2
  go_ret
  exact ⟨rfl, rfl⟩

end Go.Proofs.Ytcbgemnmehoeaaa
