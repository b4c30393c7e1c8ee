/- The walk of edit.Decode, of an edit's bytes. No condition: lemmas. -/
import Derived.Test.YtkllfdfipkcddaaDecC
import Derived.Laws.EntriesVeiled
namespace Go.Proofs.Ytkllfdfipkcddaa
open Go Go.RowKit

/-- An edit, and no fault. -/
def RetDec (x : Edi) (w : World) (e : Ending) (w' : World) : Prop := ∃ av dv, e = .returned (.tuple #[eV av dv x, .int .i64 0]) ∧ Sl (· < w'.heap.size) w' 5 av (tcs x.add) ∧ Sl (· < w'.heap.size) w' 1 dv (ic x.drop) ∧ Below w.heap.size w w'

/-- An edit whose numbers are written and whose texts are short. -/
structure EdiR (x : Edi) : Prop where
  add : ∀ t ∈ x.add, TabR t
  drop : ∀ n ∈ x.drop, In62 n
  log : In62 x.log
  next : In62 x.next
  floor : U64 x.floor
  head : U64 x.head
  adds : x.add.length ≤ 40
  drops : x.drop.length ≤ 40

theorem encE_parts (x : Edi) : encE x = putB x.add.length ++ (encA x.add ++ (putB x.drop.length ++ (putsI x.drop ++ (putB x.floor ++ (putB x.head ++ (putB x.log.toNat ++ (putB x.next.toNat ++ []))))))) := by
  unfold encE
  simp [putsI]

theorem DSt.cell {w : World} {B rb eb sb tb : Nat} {add : List Tab} {drop : List Int} {av dv fl hd lg nx fl' hd' lg' nx' : Value} (h : DSt w B rb eb sb tb add drop av dv fl hd lg nx) (hse : sb ≠ eb ∧ tb ≠ eb) (i : Nat) (u : Value)
    (he : (#[av, dv, fl, hd, lg, nx] : Array Value).setIfInBounds i u = #[av, dv, fl', hd', lg', nx']) : DSt (w.setCell ⟨eb, i, none⟩ u) B rb eb sb tb add drop av dv fl' hd' lg' nx' :=
  have hne : ∀ b, b ≠ eb → (w.setCell ⟨eb, i, none⟩ u).heap[b]? = w.heap[b]? := fun b hb => Below.heap_setCell w _ _ b hb
  ⟨Blk.set_to h.edit i u he, (hne sb hse.1).trans h.small, (hne tb hse.2).trans h.text, h.add.keep fun b hb _ => hne b (by have := h.el; omega), h.drop.keep fun b hb _ => hne b (by have := h.el; omega), h.rl, h.el, h.sl, h.tl, by simp; exact h.size⟩
theorem Rd.cell {w : World} {rb eb i : Nat} {ty : TypeId} {bs : List UInt8} {u : Value} (h : Rd w rb ty bs) (hl : rb < eb) : Rd (w.setCell ⟨eb, i, none⟩ u) rb ty bs :=
  h.same fun b hb => Below.heap_setCell w _ _ b (by simp; omega)

set_option maxRecDepth 100000 in
set_option maxHeartbeats 1600000 in
theorem decode_any (v : Value) (x : Edi) (w : World) (hv : Sl (· < w.heap.size) w 1 v (bc (encE x))) (hx : EdiR x) :
    Calls Try.prog 15 #[v] w (RetDec x w) := by
  have hAl := encA_len x.add hx.add
  have hDl := putsI_len x.drop hx.drop
  have ha40 := hx.adds
  have hd40 := hx.drops
  have l1 := U64.len (q := x.floor) hx.floor
  have l2 := U64.len (q := x.head) hx.head
  have l3 := U64.len (q := x.log.toNat) (by have := hx.log; unfold In62 at this; unfold U64; omega)
  have l4 := U64.len (q := x.next.toNat) (by have := hx.next; unfold In62 at this; unfold U64; omega)
  have l5 := U64.len (q := x.drop.length) (by unfold U64; omega)
  have l6 := U64.len (q := x.add.length) (by unfold U64; omega)
  rw [encE_parts] at hv
  obtain ⟨add, drop, fl, hd, lg, nx⟩ := x
  obtain ⟨xadd, xdrop, xlog, xnext, xfloor, xhead, _, _⟩ := hx
  dsimp only at *
  obtain ⟨ao, n, c, rfl, hn, hnc, hc⟩ := hv.len
  have hmf : ∀ (fn : Fn) (first cap : Array Value) (w : World), (Instr.makeFunc fn first cap).run Try.prog w = .ok (.func fn first cap) w := fun _ _ _ _ => rfl
  obtain ⟨wA, hwA⟩ : ∃ wA, wA = ((((w.alloc (.cells #[.slice none 0 0, .slice none 0 0, .int .u64 0, .int .u64 0, .int .i64 0, .int .i64 0] 28)).alloc (.cells #[.slice ao n c, .int .i64 0] 60)).alloc (.cells #[.slice none 0 0, .slice none 0 0, .int .u64 0, .int .u64 0, .int .i64 0, .int .i64 0] 28)).alloc
    (.cells #[.func (.func 31) #[.pointer (some ⟨w.heap.size + 1, 0, none⟩)] #[]] 61)).alloc (.cells #[.func (.func 32) #[.pointer (some ⟨w.heap.size + 1, 0, none⟩)] #[]] 62) := ⟨_, rfl⟩
  have hbA : Below w.heap.size w wA := by rw [hwA]; exact (((((Below.refl _ _).alloc (Nat.le_refl _) _).alloc (by simp) _).alloc (by simp; omega) _).alloc (by simp; omega) _).alloc (by simp; omega) _
  have hOA : Blk wA w.heap.size #[.slice none 0 0, .slice none 0 0, .int .u64 0, .int .u64 0, .int .i64 0, .int .i64 0] 28 := by rw [hwA]; exact ((((Blk.made _ _ _).alloc _).alloc _).alloc _).alloc _
  have hRA : Rd wA (w.heap.size + 1) 60 (putB add.length ++ (encA add ++ (putB drop.length ++ (putsI drop ++ (putB fl ++ (putB hd ++ (putB lg.toNat ++ (putB nx.toNat ++ [])))))))) :=
    ⟨_, by rw [hwA]; exact (((Blk.made' (by simp) _ _).alloc _).alloc _).alloc _, (hv.same (Same.below hbA)).mono fun b hb => by omega⟩
  have hst0 : DSt wA (w.heap.size + 1 + 1 + 1 + 1 + 1) (w.heap.size + 1) (w.heap.size + 1 + 1) (w.heap.size + 1 + 1 + 1) (w.heap.size + 1 + 1 + 1 + 1) [] [] (.slice none 0 0) (.slice none 0 0) (.int .u64 0) (.int .u64 0) (.int .i64 0) (.int .i64 0) := by
    rw [hwA]
    exact ⟨((Blk.made' (by simp) _ _).alloc _).alloc _, (Blk.made' (by simp) _ _).alloc _, Blk.made' (by simp) _ _, Own.nil _ _ _ _, Own.nil _ _ _ _, by omega, by omega, ⟨by omega, by omega⟩, ⟨by omega, by omega⟩, by simp⟩
  have hse : w.heap.size + 1 + 1 + 1 ≠ w.heap.size + 1 + 1 ∧ w.heap.size + 1 + 1 + 1 + 1 ≠ w.heap.size + 1 + 1 := ⟨by omega, by omega⟩
  have HP1 := Lib.hid (times1_any _ _ _ _ _ add [] _ _ _ _ _ _ _ wA hst0 hRA xadd (by omega) (by simp only [List.length_append, List.length_nil]; omega) hse)
  have HOA := Lib.hid hOA
  have HBA := Lib.hid hbA
  have HWA := Lib.hid hwA
  have HSE := Lib.hid hse
  clear hOA hbA hwA hv hn hRA hst0 hse
  go_enter Try.func15, Try.ntmps15
  go_wp2_with fail
  rw [← HWA.out]
  refine HP1.out.mono ?_
  rintro e w1 ⟨rfl, av1, hst1, hR1, hk1⟩
  have HP2 := Lib.hid (times2_any _ _ _ _ _ add drop _ _ _ _ _ _ _ w1 hst1 hR1 xdrop (by omega) (by simp only [List.length_append, List.length_nil]; omega) HSE.out)
  clear HP1 hst1 hR1
  go_wp2_with fail
  refine HP2.out.mono ?_
  rintro e w2 ⟨rfl, dv1, hst2, hR2, hk2⟩
  have hk2 := hk1.trans hk2
  have HP3 := Lib.hid (number_any _ fl _ w2 hR2 xfloor (by simp only [List.length_append, List.length_nil]; omega))
  clear HP2 hk1
  go_wp2_with fail
  refine HP3.out.mono ?_
  rintro e w3 ⟨rfl, hR3, hk3⟩
  have hst3 := hst2.kept hk3
  have hK3 : Kept (fun b => b < w.heap.size + 1) wA w3 := (hk2.mono fun b hb => by omega).trans (hk3.mono fun b hb => by have : b < w.heap.size + 1 := hb; omega)
  have hc3 := hst3.edit.cells
  have hf3 := hst3.edit.free
  have hst4 := hst3.cell (fl' := .int .u64 fl) (hd' := .int .u64 0) (lg' := .int .i64 0) (nx' := .int .i64 0) HSE.out 2 (.int .u64 fl) rfl
  have hR4 := hR3.cell (i := 2) (u := .int .u64 fl) hst3.rl
  have hK4 := hK3.set (a := ⟨w.heap.size + 1 + 1, 2, none⟩) (by simp) (.int .u64 fl)
  have HP4 := Lib.hid (number_any _ hd _ _ hR4 xhead (by simp only [List.length_append, List.length_nil]; omega))
  clear HP3 hst2 hk2 hR2 hst3 hR3 hk3 hK3
  go_wp2_with fail
  clear hc3 hf3
  generalize w3.setCell ⟨w.heap.size + 1 + 1, 2, none⟩ (.int .u64 fl) = w4 at *
  refine HP4.out.mono ?_
  rintro e w5 ⟨rfl, hR5, hk5⟩
  have hst5 := hst4.kept hk5
  have hK5 : Kept (fun b => b < w.heap.size + 1) wA w5 := hK4.trans (hk5.mono fun b hb => by have : b < w.heap.size + 1 := hb; omega)
  have hc5 := hst5.edit.cells
  have hf5 := hst5.edit.free
  have hst6 := hst5.cell (fl' := .int .u64 fl) (hd' := .int .u64 hd) (lg' := .int .i64 0) (nx' := .int .i64 0) HSE.out 3 (.int .u64 hd) rfl
  have hR6 := hR5.cell (i := 3) (u := .int .u64 hd) hst5.rl
  have hK6 := hK5.set (a := ⟨w.heap.size + 1 + 1, 3, none⟩) (by simp) (.int .u64 hd)
  have hs6 := hst6.small.cells
  have HP6 := Lib.hid (small_any _ lg _ _ hR6 xlog (by simp only [List.length_append, List.length_nil]; omega))
  clear HP4 hst4 hR4 hK4 hst5 hR5 hk5 hK5
  go_wp2_with fail
  clear hc5 hf5 hs6
  generalize w5.setCell ⟨w.heap.size + 1 + 1, 3, none⟩ (.int .u64 hd) = w6 at *
  refine HP6.out.mono ?_
  rintro e w7 ⟨rfl, hR7, hk7⟩
  have hst7 := hst6.kept hk7
  have hK7 : Kept (fun b => b < w.heap.size + 1) wA w7 := hK6.trans (hk7.mono fun b hb => by have : b < w.heap.size + 1 := hb; omega)
  have hc7 := hst7.edit.cells
  have hf7 := hst7.edit.free
  have hst8 := hst7.cell (fl' := .int .u64 fl) (hd' := .int .u64 hd) (lg' := .int .i64 lg) (nx' := .int .i64 0) HSE.out 4 (.int .i64 lg) rfl
  have hR8 := hR7.cell (i := 4) (u := .int .i64 lg) hst7.rl
  have hK8 := hK7.set (a := ⟨w.heap.size + 1 + 1, 4, none⟩) (by simp) (.int .i64 lg)
  have hs8 := hst8.small.cells
  have HP8 := Lib.hid (small_any _ nx _ _ hR8 xnext (by simp only [List.length_append, List.length_nil]; omega))
  clear HP6 hst6 hR6 hK6 hst7 hR7 hk7 hK7
  go_wp2_with fail
  clear hc7 hf7 hs8
  generalize w7.setCell ⟨w.heap.size + 1 + 1, 4, none⟩ (.int .i64 lg) = w8 at *
  refine HP8.out.mono ?_
  rintro e w9 ⟨rfl, hR9, hk9⟩
  have hst9 := hst8.kept hk9
  have hK9 : Kept (fun b => b < w.heap.size + 1) wA w9 := hK8.trans (hk9.mono fun b hb => by have : b < w.heap.size + 1 := hb; omega)
  have hc9 := hst9.edit.cells
  have hf9 := hst9.edit.free
  have hst10 := hst9.cell (fl' := .int .u64 fl) (hd' := .int .u64 hd) (lg' := .int .i64 lg) (nx' := .int .i64 nx) HSE.out 5 (.int .i64 nx) rfl
  have hR10 := hR9.cell (i := 5) (u := .int .i64 nx) hst9.rl
  have hK10 := hK9.set (a := ⟨w.heap.size + 1 + 1, 5, none⟩) (by simp) (.int .i64 nx)
  have hO10 := hK10.blk HOA.out (by simp)
  have ho10 := hO10.cells
  have hof := hO10.free
  have hc10 := hst10.edit.cells
  obtain ⟨v10, hB10, hS10⟩ := hR10
  obtain ⟨ao10, n10, c10, rfl, hn10, _, _⟩ := hS10.len
  obtain rfl : n10 = 0 := by simp [bc] at hn10; omega
  have hr10 := hB10.cells
  obtain ⟨aa, an, ac, rfl, _, _, _⟩ := hst10.add.sl.len
  obtain ⟨da, dn, dc, rfl, _, _, _⟩ := hst10.drop.sl.len
  clear HP8 hst8 hR8 hK8 hst9 hR9 hk9 hK9
  go_wp2_with fail
  have hF := blk_set6 (b0 := .slice aa an ac) (b1 := .slice da dn dc) (b2 := .int .u64 fl) (b3 := .int .u64 hd) (b4 := .int .i64 lg) (b5 := .int .i64 nx) hO10
  have hFc := hF.cells
  have hA := own_set6 (b0 := .slice aa an ac) (b1 := .slice da dn dc) (b2 := .int .u64 fl) (b3 := .int .u64 hd) (b4 := .int .i64 lg) (b5 := .int .i64 nx) hst10.add hO10 (by decide)
  have hD := own_set6 (b0 := .slice aa an ac) (b1 := .slice da dn dc) (b2 := .int .u64 fl) (b3 := .int .u64 hd) (b4 := .int .i64 lg) (b5 := .int .i64 nx) hst10.drop hO10 (by decide)
  have hB := below_set6 (b0 := .slice aa an ac) (b1 := .slice da dn dc) (b2 := .int .u64 fl) (b3 := .int .u64 hd) (b4 := .int .i64 lg) (b5 := .int .i64 nx) (HBA.out.trans (hK10.below (B := w.heap.size) fun b hb => by omega)) (Nat.le_refl _)
  clear hc10 hr10 hof ho10 hf9 hc9 hB10 hS10 hst10 hO10 hK10
  refine bodyPost_ret (v := .tuple #[eV (.slice aa an ac) (.slice da dn dc) ⟨add, drop, fl, hd, lg, nx⟩, .int .i64 0]) (by simp [results, Try.results15, go_sem, hFc, eV]) rfl ⟨_, _, rfl, ?_, ?_, hB⟩
  · exact hA.sl.mono fun b hb => hb.2
  · exact hD.sl.mono fun b hb => hb.2

end Go.Proofs.Ytkllfdfipkcddaa
