/- The walks of sentryref18's Keep and At. No condition: lemmas. -/
import Derived.Test.YtcglegipdlaoiaaDoorRefDropA
namespace Go.Proofs.YtcglegipdlaoiaaDoor
open Go Go.RowKit

/-- Of the first n numbers those that are chosen, turned to texts. -/
def rk (c : Nat → Bool) (f : Nat → ByteArray) (n : Nat) : List ByteArray := (List.range n).filterMap fun i => if c i then some (f i) else none
theorem rk_hit {c : Nat → Bool} {f : Nat → ByteArray} {n : Nat} (h : c n = true) : rk c f (n + 1) = rk c f n ++ [f n] := by
  unfold rk; rw [List.range_succ, List.filterMap_append]; simp [h]
theorem rk_miss {c : Nat → Bool} {f : Nat → ByteArray} {n : Nat} (h : c n = false) : rk c f (n + 1) = rk c f n := by
  unfold rk; rw [List.range_succ, List.filterMap_append]; simp [h]
theorem rk_length (c : Nat → Bool) (f : Nat → ByteArray) (n : Nat) : (rk c f n).length ≤ n := by
  have := List.length_filterMap_le (fun i => if c i then some (f i) else none) (List.range n)
  rw [List.length_range] at this
  exact this

def keyD (l : List ByteArray) (i : Nat) : ByteArray := l.getD i ByteArray.empty
def eKey (l : List Ent) (i : Nat) : ByteArray := (l.getD i (ByteArray.empty, 0, false)).1
def firstD (l : List Ent) (i rev : Nat) : Bool := if h : i < l.length then firstB l i rev h else false
abbrev entD (l : List Ent) (i : Nat) : Ent := l.getD i (ByteArray.empty, 0, false)
/-- P18.1: does sentryref18.Keep keep number i? -/
def keepC (floor : Nat) (bottom : Bool) (l : List Ent) (i : Nat) : Bool := decide (floor < (entD l i).2.1) || (firstD l i floor && !((entD l i).2.2 && bottom))
def atC (rev : Nat) (l : List Ent) (i : Nat) : Bool := firstD l i rev && !(entD l i).2.2

theorem entD_get {l : List Ent} {i : Nat} (h : i < l.length) : entD l i = l[i] := by unfold entD; rw [List.getD_eq_getElem?_getD, List.getElem?_eq_getElem h]; rfl
theorem firstD_get {l : List Ent} {i rev : Nat} (h : i < l.length) : firstD l i rev = firstB l i rev h := by unfold firstD; rw [dif_pos h]

/-- It returns a row; nothing that was there has turned. -/
def RetS (l : List ByteArray) (w : World) (e : Ending) (w' : World) : Prop := ∃ v, e = .returned v ∧ Sl (· < w'.heap.size) w' 1 v (sc l) ∧ Below w.heap.size w w'

set_option maxRecDepth 100000 in
set_option maxHeartbeats 1600000 in
theorem refAt_any (x : Value) (l : List ByteArray) (rev : Nat) (w : World) (hx : Sl (· < w.heap.size) w 1 x (sc l)) (hl : l.length ≤ 1000000) (hk : ∀ k ∈ l, k.size ≤ 10000000) :
    Calls Tryd.prog 26 #[x, .int .u64 rev] w (RetS (rk (atC rev (l.map decoD)) (eKey (l.map decoD)) l.length) w) := by
  have HE := Lib.hid (refEntries_any x l w hx hl hk)
  obtain ⟨ao, c, rfl, hac, hcm, hacell⟩ := hx.strs
  clear hacell hx
  obtain ⟨ys, hys⟩ : ∃ ys, l.map decoD = ys := ⟨_, rfl⟩
  have hyl : ys.length = l.length := by rw [← hys, List.length_map]
  go_enter Tryd.func26, Tryd.ntmps26
  go_wp2_with fail
  refine HE.out.mono ?_
  rintro e w1 ⟨v, rfl, hown, hb1⟩
  rw [hys] at hown
  have HYS := Lib.hid hys
  have HYL := Lib.hid hyl
  have hs0 : Sl (fun b => b < w1.heap.size) w1 3 v (ec ys) := hown.sl.mono fun x h => h.2
  have HS := Lib.hid hs0
  clear hs0
  obtain ⟨eo, ec', rfl, hec, hem, hecell⟩ := hown.sl.ents
  have HEC := Lib.hid hecell
  have HL := Lib.hid hl
  clear hecell hown hys hl hyl
  go_wp2
  go_loopw [5, 13] (fun vv ii wr => ∃ i : Nat, i ≤ ys.length ∧ ii = .int .i64 i ∧ Own wr w1.heap.size 9 1 vv (sc (rk (atC rev ys) (eKey ys) i)) ∧ Below w1.heap.size w1 wr) (fun _ ii _ => ys.length - (intOf ii).toNat)
  case atStart => exact ⟨0, by omega, rfl, Own.nil _ _ _ _, Below.refl _ _⟩
  case round =>
    obtain ⟨i, hi, rfl, hown, hbel⟩ := hrel
    have hlen := rk_length (atC rev ys) (eKey ys) i
    have hlen2 : (rk (atC rev ys) (eKey ys) i).length ≤ 1000000 := by have := HL.out; have := HYL.out; omega
    clear hlen
    obtain ⟨out, hout⟩ : ∃ out, rk (atC rev ys) (eKey ys) i = out := ⟨_, rfl⟩
    rw [hout] at hown hlen2
    have HOUT := Lib.hid hout
    clear hout
    by_cases hlt : i < ys.length
    · have hil : i < l.length := by have := HYL.out; omega
      obtain ⟨b, off, rfl, ⟨-, hb⟩, hc⟩ := HEC.out (by omega)
      obtain ⟨c0, c1, c2⟩ := hc i hlt
      have d0 := (hbel.cell (p := ⟨b, off + i * 3, none⟩) hb).trans c0
      have d1 := (hbel.cell (p := ⟨b, off + i * 3 + 1, none⟩) hb).trans c1
      have d2 := (hbel.cell (p := ⟨b, off + i * 3 + 2, none⟩) hb).trans c2
      have hkc : atC rev ys i = (firstB ys i rev hlt && !ys[i].2.2) := by unfold atC; rw [entD_get hlt, firstD_get hlt]
      have HK := Lib.hid hkc
      have HG := Lib.hid (show eKey ys i = ys[i].1 from by unfold eKey; exact congrArg Prod.fst (entD_get hlt))
      clear hc c0 c1 c2 hkc
      generalize hy : ys[i] = y at *
      obtain ⟨yk, yr, yd⟩ := y
      dsimp only at *
      have HY := Lib.hid hy
      clear hy
      have hbA := hbel.alloc hbel.size (Obj.cells #[Value.string yk, Value.int IntKind.u64 yr, Value.bool yd] 29)
      have hownA := hown.below ((Below.refl _ _).alloc (Nat.le_refl _) (Obj.cells #[Value.string yk, Value.int IntKind.u64 yr, Value.bool yd] 29))
      have hXB := Blk.made wr #[Value.string yk, Value.int IntKind.u64 yr, Value.bool yd] 29
      have hX := hXB.cells
      have HSA := Lib.hid hbA.size
      have hent := (HS.out.same (Same.below hbA)).mono (T := fun x => x < (wr.alloc (Obj.cells #[Value.string yk, Value.int IntKind.u64 yr, Value.bool yd] 29)).heap.size) (fun x h => Nat.lt_of_lt_of_le h hbA.size)
      have HENT := Lib.hid hent
      clear hent
      go_wp2_with fail
      refine (refFirst_any _ ys i rev hlt _ HENT.out).mono ?_
      rintro e w2 ⟨rfl, hb3⟩
      have hb02 := hbA.trans (hb3.mono HSA.out)
      have hown2 := hownA.below hb3
      have hX2 := (hXB.below hb3).cells
      cases hfb : firstB ys i rev hlt
      · have HR := Lib.hid (show atC rev ys i = false from by rw [HK.out, hfb]; rfl)
        go_wp2
        go_roundw
        case rel => exact ⟨i + 1, by omega, by go_num, by rw [rk_miss HR.out, HOUT.out]; exact hown2, hb02⟩
        case measure => simp [intOf]; omega
      · cases yd
        · have HR := Lib.hid (show atC rev ys i = true from by rw [HK.out, hfb]; rfl)
          go_wp2_with (at_builtin; go_must (refine wpList_own_lit strsT rfl (.tmp 27) (.tmp 30) rfl rfl hown2 rfl rfl (by simp [Value.oneCell']) (by simp; omega) (by simp; omega) hb02.size ?_); intro v3 w3 hown3 hb3 _)
          go_roundw
          case rel =>
            refine ⟨i + 1, by omega, by go_num, ?_, hb02.trans hb3⟩
            rw [rk_hit HR.out, sc_append, HG.out, HOUT.out]
            exact hown3
          case measure => simp [intOf]; omega
        · have HR := Lib.hid (show atC rev ys i = false from by rw [HK.out, hfb]; rfl)
          go_wp2
          go_roundw
          case rel => exact ⟨i + 1, by omega, by go_num, by rw [rk_miss HR.out, HOUT.out]; exact hown2, hb02⟩
          case measure => simp [intOf]; omega
    · obtain rfl : i = ys.length := by omega
      have HO := Lib.hid hown.sl
      go_wp2
      go_ret
      rw [HYS.out, ← HYL.out, HOUT.out]
      exact ⟨_, rfl, HO.out.mono fun x h => h.2, hb1.trans (hbel.mono hb1.size)⟩

end Go.Proofs.YtcglegipdlaoiaaDoor
