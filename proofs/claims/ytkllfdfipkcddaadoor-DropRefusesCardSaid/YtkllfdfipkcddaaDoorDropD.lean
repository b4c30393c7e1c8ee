/- The walks of drop.Keep, drop.At and drop.Newest's function values. No condition: lemmas. -/
import Derived.Test.YtkllfdfipkcddaaDoorDropC
namespace Go.Proofs.YtkllfdfipkcddaaDoor
open Go Go.RowKit

abbrev St := ByteArray × Bool × Bool
/-- drop.Keep's round. -/
def keepF (floor : Nat) (bottom : Bool) (a : St × List ByteArray) (y : ByteArray × Ent) : St × List ByteArray :=
  ((isStep floor a.1 y.2).2, if decide (floor < y.2.2.1) || ((isStep floor a.1 y.2).1 && !(y.2.2.2 && bottom)) then a.2 ++ [y.1] else a.2)
/-- drop.At's round. -/
def atF (rev : Nat) (a : St × List ByteArray) (y : ByteArray × Ent) : St × List ByteArray :=
  ((isStep rev a.1 y.2).2, if (isStep rev a.1 y.2).1 && !y.2.2.2 then a.2 ++ [y.2.1] else a.2)

theorem own_set {w : World} {M b : Nat} {e : TypeId} {v : Value} {xs : List Value} (h : Own w M e 1 v xs) (hb : b < M) (u : Value) : Own (w.setCell ⟨b, 0, none⟩ u) M e 1 v xs :=
  h.keep fun x hx _ => Below.heap_setCell w _ u x (show x ≠ b by omega)
theorem setAtB {w : World} {B b : Nat} {cs : Array Value} {e : TypeId} (h : Blk w B cs e) (hne : b ≠ B) (u : Value) : Blk (w.setCell ⟨b, 0, none⟩ u) B cs e := h.other (a := ⟨b, 0, none⟩) (Ne.symm hne) u

/-- Whatever a round of them leaves. -/
structure Left1 (M bF bO : Nat) (rev : Nat) (a : St × List ByteArray) (w w' : World) : Prop where
  first : Blk w' bF (firstC rev a.1) 69
  out : ∃ v, Blk w' bO #[v] 45 ∧ Own w' M 9 1 v (sc a.2)
  kept : Kept (fun b => b < M ∧ b ≠ bF ∧ b ≠ bO) w w'

set_option maxRecDepth 100000 in
set_option maxHeartbeats 1600000 in
theorem keep1_any (M bA bB bP bF bO floor : Nat) (bottom : Bool) (a : St × List ByteArray) (k : ByteArray) (x : Ent) (w : World)
    (hA : Blk w bA #[.int .u64 floor] 23) (hB : Blk w bB #[.bool bottom] 4) (hP : Blk w bP #[.pointer (some ⟨bF, 0, none⟩)] 67) (hF : Blk w bF (firstC floor a.1) 69)
    (hO : ∃ v, Blk w bO #[v] 45 ∧ Own w M 9 1 v (sc a.2)) (hM : M ≤ w.heap.size) (hlt : bA < M ∧ bB < M ∧ bP < M ∧ bF < M ∧ bO < M) (hne : bA ≠ bF ∧ bB ≠ bF ∧ bP ≠ bF ∧ bO ≠ bF ∧ bA ≠ bO ∧ bB ≠ bO) (hl : a.2.length ≤ 1000000) :
    Calls Tryd.prog 39 #[.string k, .agg #[.string x.1, .int .u64 x.2.1, .bool x.2.2], .pointer (some ⟨bP, 0, none⟩), .pointer (some ⟨bA, 0, none⟩), .pointer (some ⟨bB, 0, none⟩), .pointer (some ⟨bO, 0, none⟩)] w fun e w' =>
      e = .returned (.tuple #[]) ∧ Left1 M bF bO floor (keepF floor bottom a (k, x)) w w' := by
  obtain ⟨s, out⟩ := a
  obtain ⟨xk, r, d⟩ := x
  obtain ⟨v, hO, hown⟩ := hO
  obtain ⟨l1, l2, l3, l4, l5⟩ := hlt
  obtain ⟨n1, n2, n3, n4, n5, n6⟩ := hne
  dsimp only at *
  have hcall := is_any bF floor s (xk, r, d) (w.alloc (Obj.cells #[Value.string xk, Value.int IntKind.u64 r, Value.bool d] 31)) (hF.alloc _)
  obtain ⟨q, hq⟩ : ∃ q, isStep floor s (xk, r, d) = q := ⟨_, rfl⟩
  rw [hq] at hcall
  obtain ⟨qb, s2⟩ := q
  have HQ := Lib.hid hq
  dsimp only at hcall
  clear hq
  generalize ho : Obj.cells #[Value.string xk, Value.int IntKind.u64 r, Value.bool d] 31 = ob
  have hk0 : Kept (fun b => b < M ∧ b ≠ bF ∧ b ≠ bO) w (w.alloc ob) := (Kept.refl _ _).alloc (fun b h => by omega) _
  have hX : Blk (w.alloc ob) w.heap.size #[Value.string xk, Value.int IntKind.u64 r, Value.bool d] 31 := ho ▸ Blk.made w _ _
  have hP1 := (hP.alloc ob).cells
  have hX1 := hX.cells
  go_enter Tryd.func39, Tryd.ntmps39
  subst ho
  go_wp2_with fail
  refine hcall.mono ?_
  rintro e w2 ⟨rfl, hF2, hk2⟩
  clear hcall
  have hsz := (show (w.alloc (Obj.cells #[Value.string xk, Value.int IntKind.u64 r, Value.bool d] 31)).heap.size = w.heap.size + 1 from by simp)
  have hlift : ∀ b cs e, b < w.heap.size → b ≠ bF → Blk w b cs e → Blk w2 b cs e := fun b cs e h1 h2 h => hk2.blk (h.alloc _) ⟨by omega, h2⟩
  have hA2 := hlift _ _ _ (by omega) n1 hA
  have hB2 := hlift _ _ _ (by omega) n2 hB
  have hO2 := hlift _ _ _ (by omega) n4 hO
  have hX2 := hk2.blk hX ⟨by omega, by omega⟩
  have hcA := hA2.cells
  have hcB := hB2.cells
  have hcO := hO2.cells
  have hcX := hX2.cells
  have hown2 : Own w2 M 9 1 v (sc out) := (hown.below ((Below.refl _ _).alloc (Nat.le_refl _) _)).keep fun b h1 h2 => hk2.block b ⟨h2, by omega⟩
  have hk02 : Kept (fun b => b < M ∧ b ≠ bF ∧ b ≠ bO) w w2 := hk0.trans (hk2.mono fun b h => ⟨by omega, h.2.1⟩)
  have hM2 : M ≤ w2.heap.size := Nat.le_trans hM hk02.size
  clear hlift hA hB hO hX hP hF hA2 hB2 hX2 hP1 hX1
  have HSZ := Lib.hid hsz
  clear hsz
  by_cases hr : floor < r
  · have hri : (floor : Int) < r := by omega
    have HR := Lib.hid (show keepF floor bottom (s, out) (k, xk, r, d) = (s2, out ++ [k]) from by simp [keepF, HQ.out, hr])
    clear hr
    go_wp2_with (at_builtin; go_must (refine wpList_own_lit strsT rfl (.tmp 27) (.tmp 29) rfl rfl hown2 rfl rfl (by simp [Value.oneCell']) (by simp; omega) (by simp; omega) hM2 ?_); intro v3 w3 hown3 hb3 _; obtain ⟨ao3, m3, c3, rfl, _, _⟩ := hown3.sl.len; have hc3 := (hO2.same (Same.below hb3) l5).cells; have hf3 := (hO2.same (Same.below hb3) l5).free)
    go_end0
    rw [HR.out]
    refine ⟨rfl, setAtB (hb3.block _ l4 |>.trans hF2) n4 _, ⟨_, Blk.set_to (cs := #[v]) (hO2.same (Same.below hb3) l5) 0 _ rfl, ?_⟩, (hk02.trans (Below.kept hb3 (fun b h => h.1))).set (by simp) _⟩
    exact own_set (by rw [sc_append]; exact hown3) l5 _
  · have hri : decide (floor < r) = false := by simpa using hr
    cases qb
    · have HR := Lib.hid (show keepF floor bottom (s, out) (k, xk, r, d) = (s2, out) from by simp [keepF, HQ.out, hr])
      clear hr
      go_wp2
      go_end0
      rw [HR.out]
      exact ⟨rfl, hF2, ⟨v, hO2, hown2⟩, hk02⟩
    · cases d
      · have HR := Lib.hid (show keepF floor bottom (s, out) (k, xk, r, false) = (s2, out ++ [k]) from by simp [keepF, HQ.out, hr])
        clear hr
        go_wp2_with (at_builtin; go_must (refine wpList_own_lit strsT rfl (.tmp 27) (.tmp 29) rfl rfl hown2 rfl rfl (by simp [Value.oneCell']) (by simp; omega) (by simp; omega) hM2 ?_); intro v3 w3 hown3 hb3 _; obtain ⟨ao3, m3, c3, rfl, _, _⟩ := hown3.sl.len; have hc3 := (hO2.same (Same.below hb3) l5).cells; have hf3 := (hO2.same (Same.below hb3) l5).free)
        go_end0
        rw [HR.out]
        refine ⟨rfl, setAtB (hb3.block _ l4 |>.trans hF2) n4 _, ⟨_, Blk.set_to (cs := #[v]) (hO2.same (Same.below hb3) l5) 0 _ rfl, ?_⟩, (hk02.trans (Below.kept hb3 (fun b h => h.1))).set (by simp) _⟩
        exact own_set (by rw [sc_append]; exact hown3) l5 _
      · cases bottom
        · have HR := Lib.hid (show keepF floor false (s, out) (k, xk, r, true) = (s2, out ++ [k]) from by simp [keepF, HQ.out, hr])
          clear hr
          go_wp2_with (at_builtin; go_must (refine wpList_own_lit strsT rfl (.tmp 27) (.tmp 29) rfl rfl hown2 rfl rfl (by simp [Value.oneCell']) (by simp; omega) (by simp; omega) hM2 ?_); intro v3 w3 hown3 hb3 _; obtain ⟨ao3, m3, c3, rfl, _, _⟩ := hown3.sl.len; have hc3 := (hO2.same (Same.below hb3) l5).cells; have hf3 := (hO2.same (Same.below hb3) l5).free)
          go_end0
          rw [HR.out]
          refine ⟨rfl, setAtB (hb3.block _ l4 |>.trans hF2) n4 _, ⟨_, Blk.set_to (cs := #[v]) (hO2.same (Same.below hb3) l5) 0 _ rfl, ?_⟩, (hk02.trans (Below.kept hb3 (fun b h => h.1))).set (by simp) _⟩
          exact own_set (by rw [sc_append]; exact hown3) l5 _
        · have HR := Lib.hid (show keepF floor true (s, out) (k, xk, r, true) = (s2, out) from by simp [keepF, HQ.out, hr])
          clear hr
          go_wp2
          go_end0
          rw [HR.out]
          exact ⟨rfl, hF2, ⟨v, hO2, hown2⟩, hk02⟩

end Go.Proofs.YtkllfdfipkcddaaDoor
