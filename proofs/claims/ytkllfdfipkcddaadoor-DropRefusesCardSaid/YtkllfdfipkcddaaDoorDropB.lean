/- The walk of drop.walk, for whatever function it is handed. No condition: lemmas. -/
import Derived.Test.YtkllfdfipkcddaaDoorDropA
import Derived.Test.YtkllfdfipkcddaaDoorOwn
import Derived.Deep.DeepMust
namespace Go.Proofs.YtkllfdfipkcddaaDoor
open Go Go.RowKit

/-- What a round of the handed function may turn: not what lies below B0, nor what lies from Bw to M. -/
def Spares (B0 Bw M : Nat) (w w' : World) : Prop := Below B0 w w' ∧ ∀ b, Bw ≤ b → b < M → w'.heap[b]? = w.heap[b]?
theorem Spares.refl (B0 Bw M : Nat) (w : World) : Spares B0 Bw M w w := ⟨Below.refl _ _, fun _ _ _ => rfl⟩
theorem Spares.trans {B0 Bw M : Nat} {a b c : World} (h : Spares B0 Bw M a b) (k : Spares B0 Bw M b c) : Spares B0 Bw M a c := ⟨h.1.trans k.1, fun x h1 h2 => (k.2 x h1 h2).trans (h.2 x h1 h2)⟩

theorem codeOf_none {l : List ByteArray} {i : Nat} (hi : i < l.length) (h : deco l[i] = none) : codeOf l = 9 := by
  unfold codeOf; rw [if_pos ⟨_, List.getElem_mem hi, h⟩]
theorem codeOf_falls {l : List ByteArray} (ha : ∀ i (hi : i < l.length), deco l[i] ≠ none) {i : Nat} (hi : i + 1 < l.length) (h : ltS l[i] l[i + 1] = false) : codeOf l = 11 := by
  unfold codeOf
  rw [if_neg (by rintro ⟨k, hk, h⟩; obtain ⟨i, hi, rfl⟩ := List.getElem_of_mem hk; exact ha i hi h), if_neg (fun hr => by have := hr i hi; rw [h] at this; cases this)]
theorem codeOf_ok {l : List ByteArray} (ha : ∀ i (hi : i < l.length), deco l[i] ≠ none) (h : Rises l) : codeOf l = 0 := by
  unfold codeOf
  rw [if_neg (by rintro ⟨k, hk, h⟩; obtain ⟨i, hi, rfl⟩ := List.getElem_of_mem hk; exact ha i hi h), if_pos h]

/-- The entries that a row's first inner keys tell. -/
def decos (l : List ByteArray) : List Ent := l.filterMap deco
theorem decos_take (l : List ByteArray) (i : Nat) (hi : i < l.length) (x : Ent) (h : deco l[i] = some x) : decos (l.take (i + 1)) = decos (l.take i) ++ [x] := by
  rw [List.take_succ_eq_append_getElem hi]; simp only [decos, List.filterMap_append, List.filterMap_cons, h, List.filterMap_nil]
theorem decos_length (l : List ByteArray) (h : ∀ i (hi : i < l.length), deco l[i] ≠ none) : (decos l).length = l.length := by
  induction l with
  | nil => rfl
  | cons a l ih =>
    have h0 := h 0 (by simp)
    cases hd : deco a with
    | none => exact absurd hd h0
    | some x =>
      have := ih fun i hi => h (i + 1) (by simpa using hi)
      simp [decos, hd] at this ⊢
      exact this
theorem decos_get (l : List ByteArray) (h : ∀ i (hi : i < l.length), deco l[i] ≠ none) (i : Nat) (hi : i < l.length) : ∃ h', deco l[i] = some ((decos l)[i]'h') := by
  have hl := decos_length l h
  refine ⟨by omega, ?_⟩
  induction l generalizing i with
  | nil => simp at hi
  | cons a l ih =>
    have h0 := h 0 (by simp)
    cases hd : deco a with
    | none => exact absurd hd h0
    | some x =>
      have ht := fun i hi => h (i + 1) (by simpa using hi)
      have e : decos (a :: l) = x :: decos l := by simp [decos, hd]
      cases i with
      | zero => simp [e, hd]
      | succ i => simp only [e, List.getElem_cons_succ]; exact ih ht i (by simpa using hi) (decos_length l ht)
theorem decos_len_le (l : List ByteArray) : (decos l).length ≤ l.length := List.length_filterMap_le _ _

set_option maxRecDepth 100000 in
set_option maxHeartbeats 1600000 in
theorem walk_any (x : Value) (l : List ByteArray) (g : Nat) (cap : Array Value) (w : World) (B0 : Nat) (henv : Env w) (hB0 : B0 ≤ w.heap.size) (hx : Sl (· < B0) w 1 x (sc l)) (hl : l.length ≤ 1000000) (hk : ∀ k ∈ l, k.size ≤ 10000000)
    (hg : ∀ args W, (callFunc g args).run Tryd.prog W = .ok (.enter g args) W) (I : Nat → Nat → World → Prop) (h0 : ∀ W, Below w.heap.size w W → I W.heap.size 0 W)
    (hs : ∀ M n W (hn : n < l.length) (e : Ent), deco l[n] = some e → I M n W → w.heap.size ≤ M → M ≤ W.heap.size → Below B0 w W →
      Calls Tryd.prog g (#[.string l[n], .agg #[.string e.1, .int .u64 e.2.1, .bool e.2.2]] ++ cap) W fun en W' => en = .returned (.tuple #[]) ∧ I M (n + 1) W' ∧ Spares B0 w.heap.size M W W') :
    Calls Tryd.prog 38 #[x, .func (.func g) #[] cap] w fun en W' => en = .returned (.int .i64 (codeOf l)) ∧ Below B0 w W' ∧ (codeOf l = 0 → ∃ M, I M l.length W') ∧ (codeOf l ≠ 0 → Below w.heap.size w W') := by
  obtain ⟨ao, c, rfl, hlc, hcm, hcell⟩ := hx.strs
  have HCELL := Lib.hid hcell
  have HL := Lib.hid hl
  clear hcell hx
  go_enter Tryd.func38, Tryd.ntmps38
  go_wp2
  go_loopw [5, 16] (fun lv ii wr => ∃ i : Nat, i ≤ l.length ∧ ii = .int .i64 i ∧ Own wr w.heap.size 31 3 lv (ec (decos (l.take i))) ∧ (∀ j (hj : j < l.length), j < i → deco l[j] ≠ none) ∧ Below w.heap.size w wr) (fun _ ii _ => l.length - (intOf ii).toNat)
  case atStart => exact ⟨0, by omega, rfl, Own.nil _ _ _ _, fun _ _ h => absurd h (by omega), Below.refl _ _⟩
  case round =>
    obtain ⟨i, hi, rfl, happ, hall, hbel⟩ := hrel
    have HALL := Lib.hid hall
    have hl := HL.out
    have hdl := decos_len_le (l.take i)
    rw [List.length_take] at hdl
    have hel : (ec (decos (l.take i))).length ≤ 3000000 := by rw [ec_length]; omega
    clear hall hdl hl
    by_cases hlt : i < l.length
    · obtain ⟨b, off, rfl, hb, hc⟩ := HCELL.out (by omega)
      have hci := (hbel.cell (p := ⟨b, off + i, none⟩) (by show b < _; omega)).trans (hc i hlt)
      have hkz := hk _ (List.getElem_mem hlt)
      have HOD := Lib.hid (outV_deco l[i])
      have HT := fun x h => Lib.hid (decos_take l i hlt x h)
      have HN := fun h => Lib.hid (codeOf_none hlt h)
      have HS := fun (h : deco l[i] ≠ none) (j : Nat) (hj : j < l.length) (hji : j < i + 1) => (if e : j < i then HALL.out j hj e else by obtain rfl : j = i := by omega
                                                                                                                                          exact h : deco l[j] ≠ none)
      clear hc
      generalize l[i] = k at *
      go_wp2_with fail
      refine (outer_any k _ (henv.below hbel) (by omega)).mono ?_
      rintro e w2 ⟨rfl, hb2⟩
      have hb02 := hbel.trans (hb2.mono hbel.size)
      have happ2 := happ.below hb2
      have hbs := hb02.size
      rw [HOD.out]
      cases hd : deco k with
      | none =>
        dsimp only
        go_wp2_with fail
        go_ret
        exact ⟨by rw [(HN hd).out]; rfl, (hb02.alloc hbs _).mono hB0, fun h => (by rw [(HN hd).out] at h; cases h), fun _ => hb02.alloc hbs _⟩
      | some x =>
        obtain ⟨xk, xr, xd⟩ := x
        have HT2 := HT _ hd
        have HS2 := HS (by rw [hd]; simp)
        clear HT HS HN HOD
        have hbA := hb02.alloc hbs (Obj.cells #[Value.string xk, Value.int IntKind.u64 ↑xr, Value.bool xd] 31)
        have happA := happ2.below ((Below.refl _ _).alloc (Nat.le_refl _) (Obj.cells #[Value.string xk, Value.int IntKind.u64 ↑xr, Value.bool xd] 31))
        have HSZ := Lib.hid (show (w2.alloc (Obj.cells #[Value.string xk, Value.int IntKind.u64 ↑xr, Value.bool xd] 31)).heap.size = w2.heap.size + 1 from by simp)
        dsimp only
        go_wp2_with (at_builtin; go_must (refine wpList_own_lit entsT rfl (.tmp 27) (.tmp 29) rfl rfl happA (by rw [HSZ.out]; rfl) rfl (by simp [Value.oneCell']) (by simp; omega) (by simp; omega) hbA.size ?_); intro v3 w3 happ3 hb3 _)
        go_roundw
        case rel =>
          refine ⟨i + 1, by omega, by go_num, ?_, HS2, hbA.trans hb3⟩
          rw [HT2.out, ec_append]
          exact happ3
        case measure => simp [intOf]; omega
    · obtain rfl : i = l.length := by omega
      have hallf : ∀ j (hj : j < l.length), deco l[j] ≠ none := fun j hj => HALL.out j hj hj
      have HT := Lib.hid (List.take_length (l := l))
      rw [HT.out] at happ
      have hdl := decos_length l hallf
      have HA := Lib.hid hallf
      have HD := Lib.hid (decos_get l hallf)
      have HDL := Lib.hid hdl
      clear HALL hallf hel hdl
      go_wp2_with fail
      go_loop [34] (fun ii => ∃ i : Nat, i ≤ l.length ∧ ii = .int .i64 i ∧ (∀ j (hj : j + 1 < l.length), j + 1 < i → ltS l[j] l[j + 1] = true)) (fun ii => l.length - (intOf ii).toNat)
      case atStart => exact ⟨0, by omega, rfl, fun _ _ h => absurd h (by omega)⟩
      case round =>
        obtain ⟨i, hi, rfl, hup⟩ := hrel
        have HUP := Lib.hid hup
        clear hup
        by_cases hlt : i < l.length
        · obtain ⟨b, off, rfl, hb, hc⟩ := HCELL.out (by omega)
          have hci := (hbel.cell (p := ⟨b, off + i, none⟩) (by show b < _; omega)).trans (hc i hlt)
          cases i with
          | zero =>
            rw [Nat.add_zero] at hci
            go_wp2
            go_round
            case rel => exact ⟨1, by omega, by go_num, fun _ _ h => absurd h (by omega)⟩
            case measure => simp [intOf]; omega
          | succ n =>
            have hcn := (hbel.cell (p := ⟨b, off + n, none⟩) (by show b < _; omega)).trans (hc n (by omega))
            by_cases hg : ltS l[n] l[n + 1] = true
            · have hg2 := hg
              unfold ltS at hg2
              go_wp2
              go_round
              case rel => exact ⟨n + 2, by omega, by go_num, fun j hj h => (if e : j + 1 < n + 1 then HUP.out j hj e else by obtain rfl : j = n := by omega
                                                                                                                             exact hg : ltS l[j] l[j + 1] = true)⟩
              case measure => simp [intOf]; omega
            · have hg1 : ltS l[n] l[n + 1] = false := by simpa using hg
              have hg2 := hg1
              unfold ltS at hg2
              go_wp2
              have HCO := Lib.hid (codeOf_falls HA.out hlt hg1)
              go_ret
              exact ⟨by rw [HCO.out]; rfl, hbel.mono hB0, fun h => (by rw [HCO.out] at h; cases h), fun _ => hbel⟩
        · obtain rfl : i = l.length := by omega
          have hco := codeOf_ok HA.out (fun j hj => HUP.out j hj (by omega))
          have HCO := Lib.hid hco
          clear hco
          have hI := h0 _ hbel
          obtain ⟨wr0, hwr0⟩ : ∃ x, x = wr := ⟨_, rfl⟩
          subst hwr0
          go_wp2
          go_loopw [53] (fun ii wz => ∃ i : Nat, i ≤ l.length ∧ ii = .int .i64 i ∧ I wr0.heap.size i wz ∧ Spares B0 w.heap.size wr0.heap.size wr0 wz) (fun ii _ => l.length - (intOf ii).toNat)
          case atStart => exact ⟨0, by omega, rfl, hI, Spares.refl _ _ _ _⟩
          case round =>
            obtain ⟨i, hi, rfl, hI, hsp⟩ := hrel
            by_cases hlt : i < l.length
            · obtain ⟨b, off, rfl, hb, hc⟩ := HCELL.out (by omega)
              have hblt : b < w.heap.size := by omega
              have hci := (hsp.1.cell (p := ⟨b, off + i, none⟩) hb).trans ((hbel.cell (p := ⟨b, off + i, none⟩) hblt).trans (hc i hlt))
              obtain ⟨h', hde⟩ := HD.out i hlt
              obtain ⟨ao2, c2, rfl, hlc2, hcm2, hcell2⟩ := (happ.sl).ents
              have hdl := HDL.out
              have hi2 : (i : Int) < ((decos l).length : Int) := by omega
              obtain ⟨b2, off2, rfl, ⟨hb2, hb3⟩, hc2⟩ := hcell2 (by omega)
              clear hdl
              obtain ⟨hd0, hd1, hd2⟩ := hc2 i h'
              have hsame := hsp.2 b2 hb2 hb3
              have hd0 := (World.cell?_of_block (a := ⟨b2, off2 + i * 3, none⟩) hsame).trans hd0
              have hd1 := (World.cell?_of_block (a := ⟨b2, off2 + i * 3 + 1, none⟩) hsame).trans hd1
              have hd2 := (World.cell?_of_block (a := ⟨b2, off2 + i * 3 + 2, none⟩) hsame).trans hd2
              have hcall := hs wr0.heap.size i _ hlt _ hde hI hbel.size hsp.1.size ((hbel.mono hB0).trans hsp.1)
              have HCALL := Lib.hid hcall
              clear hcall hsame hc2 hcell2
              go_wp2_with fail
              refine HCALL.out.mono ?_
              rintro e w4 ⟨rfl, hI4, hsp4⟩
              go_wp2
              go_roundw
              case rel => exact ⟨i + 1, by omega, by go_num, hI4, hsp.trans hsp4⟩
              case measure => simp [intOf]; omega
            · obtain rfl : i = l.length := by omega
              go_wp2
              go_ret
              exact ⟨by rw [HCO.out]; rfl, (hbel.mono hB0).trans hsp.1, fun _ => ⟨_, hI⟩, fun h => absurd HCO.out h⟩

end Go.Proofs.YtkllfdfipkcddaaDoor
