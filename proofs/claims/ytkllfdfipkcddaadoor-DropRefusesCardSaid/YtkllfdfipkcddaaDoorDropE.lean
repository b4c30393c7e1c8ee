/- The walks of drop.At's and drop.Newest's function values. No condition: lemmas. -/
import Derived.Test.YtkllfdfipkcddaaDoorDropD
namespace Go.Proofs.YtkllfdfipkcddaaDoor
open Go Go.RowKit

set_option maxRecDepth 100000 in
set_option maxHeartbeats 1600000 in
theorem at1_any (M bP bF bO rev : Nat) (a : St × List ByteArray) (k : ByteArray) (x : Ent) (w : World)
    (hP : Blk w bP #[.pointer (some ⟨bF, 0, none⟩)] 67) (hF : Blk w bF (firstC rev a.1) 69)
    (hO : ∃ v, Blk w bO #[v] 45 ∧ Own w M 9 1 v (sc a.2)) (hM : M ≤ w.heap.size) (hlt : bP < M ∧ bF < M ∧ bO < M) (hne : bP ≠ bF ∧ bO ≠ bF) (hl : a.2.length ≤ 1000000) :
    Calls Tryd.prog 41 #[.string k, .agg #[.string x.1, .int .u64 x.2.1, .bool x.2.2], .pointer (some ⟨bP, 0, none⟩), .pointer (some ⟨bO, 0, none⟩)] w fun e w' =>
      e = .returned (.tuple #[]) ∧ Left1 M bF bO rev (atF rev a (k, x)) w w' := by
  obtain ⟨s, out⟩ := a
  obtain ⟨xk, r, d⟩ := x
  obtain ⟨v, hO, hown⟩ := hO
  obtain ⟨l3, l4, l5⟩ := hlt
  obtain ⟨n3, n4⟩ := hne
  dsimp only at *
  have hcall := is_any bF rev s (xk, r, d) (w.alloc (Obj.cells #[Value.string xk, Value.int IntKind.u64 r, Value.bool d] 31)) (hF.alloc _)
  obtain ⟨q, hq⟩ : ∃ q, isStep rev s (xk, r, d) = q := ⟨_, rfl⟩
  rw [hq] at hcall
  obtain ⟨qb, s2⟩ := q
  have HQ := Lib.hid hq
  dsimp only at hcall
  clear hq
  generalize ho : Obj.cells #[Value.string xk, Value.int IntKind.u64 r, Value.bool d] 31 = ob
  have hk0 : Kept (fun b => b < M ∧ b ≠ bF ∧ b ≠ bO) w (w.alloc ob) := (Kept.refl _ _).alloc (fun b h => by omega) _
  have hX : Blk (w.alloc ob) w.heap.size #[Value.string xk, Value.int IntKind.u64 r, Value.bool d] 31 := ho ▸ Blk.made w _ _
  have hP1 := (hP.alloc ob).cells
  have hX1 := hX.cells
  go_enter Tryd.func41, Tryd.ntmps41
  subst ho
  go_wp2_with fail
  refine hcall.mono ?_
  rintro e w2 ⟨rfl, hF2, hk2⟩
  clear hcall
  have hsz := (show (w.alloc (Obj.cells #[Value.string xk, Value.int IntKind.u64 r, Value.bool d] 31)).heap.size = w.heap.size + 1 from by simp)
  have hlift : ∀ b cs e, b < w.heap.size → b ≠ bF → Blk w b cs e → Blk w2 b cs e := fun b cs e h1 h2 h => hk2.blk (h.alloc _) ⟨by omega, h2⟩
  have hO2 := hlift _ _ _ (by omega) n4 hO
  have hX2 := hk2.blk hX ⟨by omega, by omega⟩
  have hcO := hO2.cells
  have hcX := hX2.cells
  have hown2 : Own w2 M 9 1 v (sc out) := (hown.below ((Below.refl _ _).alloc (Nat.le_refl _) _)).keep fun b h1 h2 => hk2.block b ⟨h2, by omega⟩
  have hk02 : Kept (fun b => b < M ∧ b ≠ bF ∧ b ≠ bO) w w2 := hk0.trans (hk2.mono fun b h => ⟨by omega, h.2.1⟩)
  have hM2 : M ≤ w2.heap.size := Nat.le_trans hM hk02.size
  clear hlift hO hX hP hF hX2 hP1 hX1
  have HSZ := Lib.hid hsz
  clear hsz
  cases qb
  · have HR := Lib.hid (show atF rev (s, out) (k, xk, r, d) = (s2, out) from by simp [atF, HQ.out])
    go_wp2
    go_end0
    rw [HR.out]
    exact ⟨rfl, hF2, ⟨v, hO2, hown2⟩, hk02⟩
  · cases d
    · have HR := Lib.hid (show atF rev (s, out) (k, xk, r, false) = (s2, out ++ [xk]) from by simp [atF, HQ.out])
      go_wp2_with (at_builtin; go_must (refine wpList_own_lit strsT rfl (.tmp 14) (.tmp 17) rfl rfl hown2 rfl rfl (by simp [Value.oneCell']) (by simp; omega) (by simp; omega) hM2 ?_); intro v3 w3 hown3 hb3 _; obtain ⟨ao3, m3, c3, rfl, _, _⟩ := hown3.sl.len; have hc3 := (hO2.same (Same.below hb3) l5).cells; have hf3 := (hO2.same (Same.below hb3) l5).free)
      go_end0
      rw [HR.out]
      refine ⟨rfl, setAtB (hb3.block _ l4 |>.trans hF2) n4 _, ⟨_, Blk.set_to (cs := #[v]) (hO2.same (Same.below hb3) l5) 0 _ rfl, ?_⟩, (hk02.trans (Below.kept hb3 (fun b h => h.1))).set (by simp) _⟩
      exact own_set (by rw [sc_append]; exact hown3) l5 _
    · have HR := Lib.hid (show atF rev (s, out) (k, xk, r, true) = (s2, out) from by simp [atF, HQ.out])
      go_wp2
      go_end0
      rw [HR.out]
      exact ⟨rfl, hF2, ⟨v, hO2, hown2⟩, hk02⟩

set_option maxRecDepth 100000 in
theorem new1_any (bN n : Nat) (k : ByteArray) (x : Ent) (w : World) (hN : Blk w bN #[.int .u64 n] 23) :
    Calls Tryd.prog 42 #[.string k, .agg #[.string x.1, .int .u64 x.2.1, .bool x.2.2], .pointer (some ⟨bN, 0, none⟩)] w fun e w' =>
      e = .returned (.tuple #[]) ∧ Blk w' bN #[.int .u64 (max n x.2.1 : Nat)] 23 ∧ Kept (fun b => b < w.heap.size ∧ b ≠ bN) w w' := by
  obtain ⟨xk, r, d⟩ := x
  dsimp only at *
  generalize ho : Obj.cells #[Value.string xk, Value.int IntKind.u64 r, Value.bool d] 31 = ob
  have hlt := hN.lt
  have hk0 : Kept (fun b => b < w.heap.size ∧ b ≠ bN) w (w.alloc ob) := (Kept.refl _ _).alloc (fun b h => by omega) _
  have hX : Blk (w.alloc ob) w.heap.size #[Value.string xk, Value.int IntKind.u64 r, Value.bool d] 31 := ho ▸ Blk.made w _ _
  have hN1 := hN.alloc ob
  have hcN := hN1.cells
  have hfN := hN1.free
  have hX1 := hX.cells
  have HX := Lib.hid hN1
  clear hX hN1
  go_enter Tryd.func42, Tryd.ntmps42
  subst ho
  go_wp2
  go_end0
  refine ⟨rfl, Blk.alloc (Blk.set_to hN 0 _ ?_) _, ((Kept.refl _ _).set (by simp) _).alloc (fun b h => by simp; exact h.1) _⟩
  rw [show ((max n r : Nat) : Int) = max (n : Int) r by omega]
  rfl

end Go.Proofs.YtkllfdfipkcddaaDoor
