/- The walks of edit.Decode's closures. No condition: lemmas. -/
import Derived.Test.YtkllfdfipkcddaaDecA
import Derived.Test.YtkllfdfipkcddaaRowkC
namespace Go.Proofs.Ytkllfdfipkcddaa
open Go Go.RowKit

/-- What edit.Decode has made, beside the reader: the edit, and its two calls. -/
structure DSt (w : World) (B rb eb sb tb : Nat) (add : List Tab) (drop : List Int) (av dv fl hd lg nx : Value) : Prop where
  edit : Blk w eb #[av, dv, fl, hd, lg, nx] 28
  small : Blk w sb #[.func (.func 31) #[.pointer (some ⟨rb, 0, none⟩)] #[]] 61
  text : Blk w tb #[.func (.func 32) #[.pointer (some ⟨rb, 0, none⟩)] #[]] 62
  add : Own w B 38 5 av (tcs add)
  drop : Own w B 3 1 dv (ic drop)
  rl : rb < eb
  el : eb < B
  sl : rb < sb ∧ sb < B
  tl : rb < tb ∧ tb < B
  size : B ≤ w.heap.size

theorem DSt.kept {w w' : World} {B rb eb sb tb : Nat} {add : List Tab} {drop : List Int} {av dv fl hd lg nx : Value} (h : DSt w B rb eb sb tb add drop av dv fl hd lg nx) (hk : Kept (· ≠ rb) w w') : DSt w' B rb eb sb tb add drop av dv fl hd lg nx where
  edit := hk.blk h.edit (by have := h.rl; simp only [ne_eq]; omega)
  small := hk.blk h.small (by have := h.sl; simp only [ne_eq]; omega)
  text := hk.blk h.text (by have := h.tl; simp only [ne_eq]; omega)
  add := h.add.keep fun b hb _ => hk.block b (by have := h.rl; have := h.el; simp only [ne_eq]; omega)
  drop := h.drop.keep fun b hb _ => hk.block b (by have := h.rl; have := h.el; simp only [ne_eq]; omega)
  rl := h.rl
  el := h.el
  sl := h.sl
  tl := h.tl
  size := Nat.le_trans h.size hk.size

set_option maxRecDepth 100000 in
set_option maxHeartbeats 1600000 in
theorem dec1_any (B rb eb sb tb : Nat) (add : List Tab) (drop : List Int) (t : Tab) (rest : List UInt8) (av dv fl hd lg nx : Value) (w : World) (h : DSt w B rb eb sb tb add drop av dv fl hd lg nx)
    (hR : Rd w rb 60 (encT t ++ rest)) (ht : TabR t) (hl : (encT t ++ rest).length ≤ 1000000) (hn : add.length ≤ 1000) (hse : sb ≠ eb ∧ tb ≠ eb) :
    Calls Try.prog 34 #[.pointer (some ⟨eb, 0, none⟩), .pointer (some ⟨sb, 0, none⟩), .pointer (some ⟨tb, 0, none⟩)] w
      (fun e w' => e = .returned (.tuple #[]) ∧ ∃ av', DSt w' B rb eb sb tb (add ++ [t]) drop av' dv fl hd lg nx ∧ Rd w' rb 60 rest ∧ Kept (fun b => b < B ∧ b ≠ rb ∧ b ≠ eb) w w') := by
  obtain ⟨tn, tl, ts, tf, tla⟩ := t
  have hX : encT ⟨tn, tl, ts, tf, tla⟩ ++ rest = putB tn.toNat ++ (putB tl.toNat ++ (putB ts.toNat ++ (putT tf.data.toList ++ (putT tla.data.toList ++ rest)))) := by simp [encT, putsI]
  rw [hX] at hR hl
  have hnum := ht.num
  have hlvl := ht.lvl
  have hsize := ht.size
  simp only [List.length_append] at hl
  dsimp only at hnum hlvl hsize
  obtain ⟨ao, m, c, rfl, hm, hmc, hcm⟩ := h.add.sl.len
  rw [tcs_length] at hm
  go_enter Try.func34, Try.ntmps34
  go_wp2_with fail
  obtain ⟨wd, hwd⟩ : ∃ wd, wd = w.drew := ⟨_, rfl⟩
  have hd0 : DSt wd B rb eb sb tb add drop (.slice ao m c) dv fl hd lg nx := by rw [hwd]; exact h.kept ((Kept.refl _ _).drew)
  have hR0 := (show Rd w.drew rb _ _ from hR)
  rw [← hwd] at hR0
  have hk0 : Kept (fun b => b < B ∧ b ≠ rb ∧ b ≠ eb) w wd := by rw [hwd]; exact (Kept.refl _ _).drew
  refine region_walkL 16 (Kept (fun b => b < B ∧ b ≠ rb) wd) (by rw [← hwd]; exact Kept.refl _ _) (by kernel_rfl) (by kernel_rfl) (fun _ _ d _ _ h => by cases d <;> exact h) ?_
  rw [← hwd]
  clear hwd h hR
  have h1 : ∀ W, Kept (fun b => b < B ∧ b ≠ rb) wd W → ∀ i, W.cell? ⟨eb, i, none⟩ = (#[.slice ao m c, dv, fl, hd, lg, nx] : Array Value)[i]? := fun W h => (h.blk hd0.edit ⟨hd0.el, by have := hd0.rl; omega⟩).cells
  have h2 : ∀ W, Kept (fun b => b < B ∧ b ≠ rb) wd W → ∀ i, W.cell? ⟨sb, i, none⟩ = (#[.func (.func 31) #[.pointer (some ⟨rb, 0, none⟩)] #[]] : Array Value)[i]? := fun W h => (h.blk hd0.small ⟨hd0.sl.2, by have := hd0.sl; omega⟩).cells
  have h3 : ∀ W, Kept (fun b => b < B ∧ b ≠ rb) wd W → ∀ i, W.cell? ⟨tb, i, none⟩ = (#[.func (.func 32) #[.pointer (some ⟨rb, 0, none⟩)] #[]] : Array Value)[i]? := fun W h => (h.blk hd0.text ⟨hd0.tl.2, by have := hd0.tl; omega⟩).cells
  ((refine WalkL.take 0 _ ?_ (by simp only [List.getElem?_toArray, List.getElem?_cons_zero]; rfl) (by kernel_rfl) (by kernel_rfl) (by kernel_rfl) (by rfl) (fun W hW => ?_) ?_; rotate_left; · (go_simp; try with_reducible rfl)); simp only [Act.put, List.setIfInBounds_toArray, List.set_cons_zero, List.set_cons_succ]); ((refine WalkL.take 1 _ ?_ (by simp only [List.getElem?_toArray, List.getElem?_cons_succ, List.getElem?_cons_zero]; rfl) (by kernel_rfl) (by kernel_rfl) (by kernel_rfl) (by rfl) (fun W hW => ?_) ?_; rotate_left; · (go_simp; try with_reducible rfl)); simp only [Act.put, List.setIfInBounds_toArray, List.set_cons_zero, List.set_cons_succ]); ((refine WalkL.take 2 _ ?_ (by simp only [List.getElem?_toArray, List.getElem?_cons_succ, List.getElem?_cons_zero]; rfl) (by kernel_rfl) (by kernel_rfl) (by kernel_rfl) (by rfl) (fun W hW => ?_) ?_; rotate_left; · (go_simp; try with_reducible rfl)); simp only [Act.put, List.setIfInBounds_toArray, List.set_cons_zero, List.set_cons_succ]); ((refine WalkL.take 4 _ ?_ (by simp only [List.getElem?_toArray, List.getElem?_cons_succ, List.getElem?_cons_zero]; rfl) (by kernel_rfl) (by kernel_rfl) (by kernel_rfl) (by rfl) (fun W hW => ?_) ?_; rotate_left; · (go_simp; try with_reducible rfl)); simp only [Act.put, List.setIfInBounds_toArray, List.set_cons_zero, List.set_cons_succ]); ((refine WalkL.take 6 _ ?_ (by simp only [List.getElem?_toArray, List.getElem?_cons_succ, List.getElem?_cons_zero]; rfl) (by kernel_rfl) (by kernel_rfl) (by kernel_rfl) (by rfl) (fun W hW => ?_) ?_; rotate_left; · (go_simp; try with_reducible rfl)); simp only [Act.put, List.setIfInBounds_toArray, List.set_cons_zero, List.set_cons_succ]); ((refine WalkL.take 8 _ ?_ (by simp only [List.getElem?_toArray, List.getElem?_cons_succ, List.getElem?_cons_zero]; rfl) (by kernel_rfl) (by kernel_rfl) (by kernel_rfl) (by rfl) (fun W hW => ?_) ?_; rotate_left; · (go_simp; try with_reducible rfl)); simp only [Act.put, List.setIfInBounds_toArray, List.set_cons_zero, List.set_cons_succ]); ((refine WalkL.take 10 _ ?_ (by simp only [List.getElem?_toArray, List.getElem?_cons_succ, List.getElem?_cons_zero]; rfl) (by kernel_rfl) (by kernel_rfl) (by kernel_rfl) (by rfl) (fun W hW => ?_) ?_; rotate_left; · (go_simp; try with_reducible rfl)); simp only [Act.put, List.setIfInBounds_toArray, List.set_cons_zero, List.set_cons_succ])
  clear h1 h2 h3
  have HP1 := Lib.hid (small_any rb tn _ wd hR0 hnum (by simp only [List.length_append]; omega))
  refine WalkL.one 3 (by kernel_rfl) ?_
  refine ⟨_, (by simp only [List.getElem?_toArray, List.getElem?_cons_succ, List.getElem?_cons_zero]; rfl), by rfl, fun K hK => ?_⟩
  go_simp
  refine HP1.out.mono ?_
  rintro e w1 ⟨rfl, hR1, hk1⟩
  have hd1 := hd0.kept hk1
  refine hK.out _ _ (hk1.mono fun b hb => hb.2) ?_
  clear hK HP1
  have HP2 := Lib.hid (small_any rb tl _ w1 hR1 hlvl (by simp only [List.length_append]; omega))
  refine WalkL.one 5 (by kernel_rfl) ?_
  refine ⟨_, (by simp only [List.getElem?_toArray, List.getElem?_cons_succ, List.getElem?_cons_zero]; rfl), by rfl, fun K hK => ?_⟩
  go_simp
  refine HP2.out.mono ?_
  rintro e w2 ⟨rfl, hR2, hk2'⟩
  have hk2 := hk1.trans hk2'
  refine hK.out _ _ (hk2.mono fun b hb => hb.2) ?_
  clear hK HP2
  have HP3 := Lib.hid (small_any rb ts _ w2 hR2 hsize (by simp only [List.length_append]; omega))
  refine WalkL.one 7 (by kernel_rfl) ?_
  refine ⟨_, (by simp only [List.getElem?_toArray, List.getElem?_cons_succ, List.getElem?_cons_zero]; rfl), by rfl, fun K hK => ?_⟩
  go_simp
  refine HP3.out.mono ?_
  rintro e w3 ⟨rfl, hR3, hk3'⟩
  have hk3 := hk2.trans hk3'
  refine hK.out _ _ (hk3.mono fun b hb => hb.2) ?_
  clear hK HP3
  have HP4 := Lib.hid (text_any rb tf _ w3 hR3 (by simp only [List.length_append]; omega))
  refine WalkL.one 9 (by kernel_rfl) ?_
  refine ⟨_, (by simp only [List.getElem?_toArray, List.getElem?_cons_succ, List.getElem?_cons_zero]; rfl), by rfl, fun K hK => ?_⟩
  go_simp
  refine HP4.out.mono ?_
  rintro e w4 ⟨rfl, hR4, hk4'⟩
  have hk4 := hk3.trans hk4'
  refine hK.out _ _ (hk4.mono fun b hb => hb.2) ?_
  clear hK HP4
  have HP5 := Lib.hid (text_any rb tla _ w4 hR4 (by simp only [List.length_append]; omega))
  refine WalkL.one 11 (by kernel_rfl) ?_
  refine ⟨_, (by simp only [List.getElem?_toArray, List.getElem?_cons_succ, List.getElem?_cons_zero]; rfl), by rfl, fun K hK => ?_⟩
  go_simp
  refine HP5.out.mono ?_
  rintro e w5 ⟨rfl, hR5, hk5'⟩
  have hk5 := hk4.trans hk5'
  refine hK.out _ _ (hk5.mono fun b hb => hb.2) ?_
  clear hK HP5
  ((refine WalkL.take 12 _ ?_ (by simp only [List.getElem?_toArray, List.getElem?_cons_succ, List.getElem?_cons_zero]; rfl) (by kernel_rfl) (by kernel_rfl) (by kernel_rfl) (by rfl) (fun W hW => ?_) ?_; rotate_left; · (go_simp; try with_reducible rfl)); simp only [Act.put, List.setIfInBounds_toArray, List.set_cons_zero, List.set_cons_succ])
  refine WalkL.one 13 (by kernel_rfl) ?_
  refine ⟨_, (by simp only [List.getElem?_toArray, List.getElem?_cons_succ, List.getElem?_cons_zero]; rfl), by rfl, fun K hK => ?_⟩
  go_simp
  have hd5 := hd0.kept hk5
  have hsz5 := hd5.size
  have hEa : Kept (fun b => b < B ∧ b ≠ rb) wd (w5.alloc (.cells #[.int .i64 tn, .int .i64 tl, .int .i64 ts, .string tf, .string tla] 38)) := (hk5.mono fun b hb => hb.2).alloc (fun b hb => by omega) _
  have hla : Sl (fun b => b = w5.heap.size) (w5.alloc (.cells #[.int .i64 tn, .int .i64 tl, .int .i64 ts, .string tf, .string tla] 38)) 5 (.slice (some ⟨w5.heap.size, 0, none⟩) 1 1) (tcs [⟨tn, tl, ts, tf, tla⟩]) := Sl.made w5 _ 5 1 38 _ rfl (by decide) rfl
  have hba : Below w5.heap.size w5 (w5.alloc (.cells #[.int .i64 tn, .int .i64 tl, .int .i64 ts, .string tf, .string tla] 38)) := (Below.refl _ _).alloc (Nat.le_refl _) _
  have hoa := hd5.add.below hba
  refine hK.out _ _ hEa ?_
  clear hK
  refine WalkL.one 14 (by kernel_rfl) ?_
  refine ⟨_, (by simp only [List.getElem?_toArray, List.getElem?_cons_succ, List.getElem?_cons_zero]; rfl), by rfl, fun K hK => ?_⟩
  refine wp_own tabsT (.tmp 4) (.tmp 16) rfl rfl hoa rfl hla (tcs_one _) (by simp only [tcs_length, List.length_cons, List.length_nil]; omega) (by simp only [tcs_length, List.length_cons, List.length_nil]; omega) (by simp; omega) (fun v6 w6 hown6 hb6 hg6 => ?_)
  have hb56 : Below B w5 w6 := (hba.mono hsz5).trans hb6
  have hdr6 := (hd5.drop.below hba).aside hoa (by decide) hg6
  refine hK.out _ _ ((hk5.mono fun b hb => hb.2).trans (Below.kept hb56 fun b hb => hb.1)) ?_
  clear hK
  simp only [Act.put, List.setIfInBounds_toArray, List.set_cons_zero, List.set_cons_succ]
  ((refine WalkL.take 15 _ ?_ (by simp only [List.getElem?_toArray, List.getElem?_cons_succ, List.getElem?_cons_zero]; rfl) (by kernel_rfl) (by kernel_rfl) (by kernel_rfl) (by rfl) (fun W hW => ?_) ?_; rotate_left; · (go_simp; try with_reducible rfl)); simp only [Act.put, List.setIfInBounds_toArray, List.set_cons_zero, List.set_cons_succ])
  obtain ⟨ao6, m6, c6, rfl, _, _⟩ := hown6.sl.len
  have hE6 : Blk w6 eb _ _ := (hb56.block eb hd5.el).trans hd5.edit
  have hc6 := hE6.cells
  have hf6 := hE6.free
  refine WalkL.last (by kernel_rfl) (by kernel_rfl) ?_
  refine ⟨_, (by simp only [List.getElem?_toArray, List.getElem?_cons_succ, List.getElem?_cons_zero]; rfl), by rfl, fun K hK => ?_⟩
  go_simp
  refine hK.out _ _ ?_
  clear hK
  go_end0
  refine ⟨rfl, .slice ao6 m6 c6, ?_, ?_, ?_⟩
  · have hne : ∀ b, b ≠ eb → (w6.setCell ⟨eb, 0, none⟩ (.slice ao6 m6 c6)).heap[b]? = w6.heap[b]? := fun b hb => Below.heap_setCell w6 _ _ b hb
    have hE7 := Blk.set_to hE6 0 (.slice ao6 m6 c6) rfl
    exact ⟨hE7, (hne sb hse.1).trans ((hb56.block sb hd5.sl.2).trans hd5.small), (hne tb hse.2).trans ((hb56.block tb hd5.tl.2).trans hd5.text),
      by rw [tcs_append]; exact hown6.keep fun b hb _ => hne b (by have := hd5.el; omega), hdr6.keep fun b hb _ => hne b (by have := hd5.el; omega), hd5.rl, hd5.el, hd5.sl, hd5.tl, by simp; exact Nat.le_trans hd5.size hb56.size⟩
  · refine hR5.same fun b hb => ?_
    rw [Below.heap_setCell w6 _ _ b (by have := hd5.rl; simp; omega)]
    exact hb56.block b (by have := hd5.rl; have := hd5.el; omega)
  · exact ((hk0.trans (hk5.mono fun b hb => hb.2.1)).trans (Below.kept hb56 fun b hb => hb.1)).set (by simp) _

set_option maxRecDepth 100000 in
set_option maxHeartbeats 1600000 in
theorem dec2_any (B rb eb sb tb : Nat) (add : List Tab) (drop : List Int) (n : Int) (rest : List UInt8) (av dv fl hd lg nx : Value) (w : World) (h : DSt w B rb eb sb tb add drop av dv fl hd lg nx)
    (hR : Rd w rb 60 (putB n.toNat ++ rest)) (hn : In62 n) (hl : (putB n.toNat ++ rest).length ≤ 1000000) (hln : drop.length ≤ 1000) (hse : sb ≠ eb ∧ tb ≠ eb) :
    Calls Try.prog 35 #[.pointer (some ⟨eb, 0, none⟩), .pointer (some ⟨sb, 0, none⟩)] w
      (fun e w' => e = .returned (.tuple #[]) ∧ ∃ dv', DSt w' B rb eb sb tb add (drop ++ [n]) av dv' fl hd lg nx ∧ Rd w' rb 60 rest ∧ Kept (fun b => b < B ∧ b ≠ rb ∧ b ≠ eb) w w') := by
  obtain ⟨ao, m, c, rfl, hm, hmc, hcm⟩ := h.drop.sl.len
  rw [ic_length] at hm
  go_enter Try.func35, Try.ntmps35
  go_wp2_with fail
  obtain ⟨wd, hwd⟩ : ∃ wd, wd = w.drew := ⟨_, rfl⟩
  have hd0 : DSt wd B rb eb sb tb add drop av (.slice ao m c) fl hd lg nx := by rw [hwd]; exact h.kept ((Kept.refl _ _).drew)
  have hR0 := (show Rd w.drew rb _ _ from hR)
  rw [← hwd] at hR0
  have hk0 : Kept (fun b => b < B ∧ b ≠ rb ∧ b ≠ eb) w wd := by rw [hwd]; exact (Kept.refl _ _).drew
  refine region_walkL 7 (Kept (fun b => b < B ∧ b ≠ rb) wd) (by rw [← hwd]; exact Kept.refl _ _) (by kernel_rfl) (by kernel_rfl) (fun _ _ d _ _ h => by cases d <;> exact h) ?_
  rw [← hwd]
  clear hwd h hR
  have h1 : ∀ W, Kept (fun b => b < B ∧ b ≠ rb) wd W → ∀ i, W.cell? ⟨eb, i, none⟩ = (#[av, .slice ao m c, fl, hd, lg, nx] : Array Value)[i]? := fun W h => (h.blk hd0.edit ⟨hd0.el, by have := hd0.rl; omega⟩).cells
  have h2 : ∀ W, Kept (fun b => b < B ∧ b ≠ rb) wd W → ∀ i, W.cell? ⟨sb, i, none⟩ = (#[.func (.func 31) #[.pointer (some ⟨rb, 0, none⟩)] #[]] : Array Value)[i]? := fun W h => (h.blk hd0.small ⟨hd0.sl.2, by have := hd0.sl; omega⟩).cells
  ((refine WalkL.take 0 _ ?_ (by simp only [List.getElem?_toArray, List.getElem?_cons_zero]; rfl) (by kernel_rfl) (by kernel_rfl) (by kernel_rfl) (by rfl) (fun W hW => ?_) ?_; rotate_left; · (go_simp; try with_reducible rfl)); simp only [Act.put, List.setIfInBounds_toArray, List.set_cons_zero, List.set_cons_succ]); ((refine WalkL.take 1 _ ?_ (by simp only [List.getElem?_toArray, List.getElem?_cons_succ, List.getElem?_cons_zero]; rfl) (by kernel_rfl) (by kernel_rfl) (by kernel_rfl) (by rfl) (fun W hW => ?_) ?_; rotate_left; · (go_simp; try with_reducible rfl)); simp only [Act.put, List.setIfInBounds_toArray, List.set_cons_zero, List.set_cons_succ]); ((refine WalkL.take 2 _ ?_ (by simp only [List.getElem?_toArray, List.getElem?_cons_succ, List.getElem?_cons_zero]; rfl) (by kernel_rfl) (by kernel_rfl) (by kernel_rfl) (by rfl) (fun W hW => ?_) ?_; rotate_left; · (go_simp; try with_reducible rfl)); simp only [Act.put, List.setIfInBounds_toArray, List.set_cons_zero, List.set_cons_succ])
  clear h1 h2
  have HP1 := Lib.hid (small_any rb n _ wd hR0 hn hl)
  refine WalkL.one 3 (by kernel_rfl) ?_
  refine ⟨_, (by simp only [List.getElem?_toArray, List.getElem?_cons_succ, List.getElem?_cons_zero]; rfl), by rfl, fun K hK => ?_⟩
  go_simp
  refine HP1.out.mono ?_
  rintro e w5 ⟨rfl, hR5, hk5⟩
  refine hK.out _ _ (hk5.mono fun b hb => hb.2) ?_
  clear hK HP1
  refine WalkL.one 4 (by kernel_rfl) ?_
  refine ⟨_, (by simp only [List.getElem?_toArray, List.getElem?_cons_succ, List.getElem?_cons_zero]; rfl), by rfl, fun K hK => ?_⟩
  go_simp
  have hd5 := hd0.kept hk5
  have hsz5 := hd5.size
  have hEa : Kept (fun b => b < B ∧ b ≠ rb) wd (w5.alloc (.cells #[.int .i64 n] 3)) := (hk5.mono fun b hb => hb.2).alloc (fun b hb => by omega) _
  have hla : Sl (fun b => b = w5.heap.size) (w5.alloc (.cells #[.int .i64 n] 3)) 1 (.slice (some ⟨w5.heap.size, 0, none⟩) 1 1) (ic [n]) := Sl.made w5 _ 1 1 3 _ rfl (by decide) rfl
  have hba : Below w5.heap.size w5 (w5.alloc (.cells #[.int .i64 n] 3)) := (Below.refl _ _).alloc (Nat.le_refl _) _
  have hoa := hd5.drop.below hba
  refine hK.out _ _ hEa ?_
  clear hK
  refine WalkL.one 5 (by kernel_rfl) ?_
  refine ⟨_, (by simp only [List.getElem?_toArray, List.getElem?_cons_succ, List.getElem?_cons_zero]; rfl), by rfl, fun K hK => ?_⟩
  refine wp_own intsT (.tmp 3) (.tmp 6) rfl rfl hoa rfl hla (ic_one _) (by simp only [ic_length, List.length_cons, List.length_nil]; omega) (by simp only [ic_length, List.length_cons, List.length_nil]; omega) (by simp; omega) (fun v6 w6 hown6 hb6 hg6 => ?_)
  have hb56 : Below B w5 w6 := (hba.mono hsz5).trans hb6
  have hdr6 := (hd5.add.below hba).aside hoa (by decide) hg6
  refine hK.out _ _ ((hk5.mono fun b hb => hb.2).trans (Below.kept hb56 fun b hb => hb.1)) ?_
  clear hK
  simp only [Act.put, List.setIfInBounds_toArray, List.set_cons_zero, List.set_cons_succ]
  ((refine WalkL.take 6 _ ?_ (by simp only [List.getElem?_toArray, List.getElem?_cons_succ, List.getElem?_cons_zero]; rfl) (by kernel_rfl) (by kernel_rfl) (by kernel_rfl) (by rfl) (fun W hW => ?_) ?_; rotate_left; · (go_simp; try with_reducible rfl)); simp only [Act.put, List.setIfInBounds_toArray, List.set_cons_zero, List.set_cons_succ])
  obtain ⟨ao6, m6, c6, rfl, _, _⟩ := hown6.sl.len
  have hE6 : Blk w6 eb _ _ := (hb56.block eb hd5.el).trans hd5.edit
  have hc6 := hE6.cells
  have hf6 := hE6.free
  refine WalkL.last (by kernel_rfl) (by kernel_rfl) ?_
  refine ⟨_, (by simp only [List.getElem?_toArray, List.getElem?_cons_succ, List.getElem?_cons_zero]; rfl), by rfl, fun K hK => ?_⟩
  go_simp
  refine hK.out _ _ ?_
  clear hK
  go_end0
  refine ⟨rfl, .slice ao6 m6 c6, ?_, ?_, ?_⟩
  · have hne : ∀ b, b ≠ eb → (w6.setCell ⟨eb, 1, none⟩ (.slice ao6 m6 c6)).heap[b]? = w6.heap[b]? := fun b hb => Below.heap_setCell w6 _ _ b hb
    have hE7 := Blk.set_to hE6 1 (.slice ao6 m6 c6) rfl
    exact ⟨hE7, (hne sb hse.1).trans ((hb56.block sb hd5.sl.2).trans hd5.small), (hne tb hse.2).trans ((hb56.block tb hd5.tl.2).trans hd5.text),
      hdr6.keep fun b hb _ => hne b (by have := hd5.el; omega), by rw [ic_append]; exact hown6.keep fun b hb _ => hne b (by have := hd5.el; omega), hd5.rl, hd5.el, hd5.sl, hd5.tl, by simp; exact Nat.le_trans hd5.size hb56.size⟩
  · refine hR5.same fun b hb => ?_
    rw [Below.heap_setCell w6 _ _ b (by have := hd5.rl; simp; omega)]
    exact hb56.block b (by have := hd5.rl; have := hd5.el; omega)
  · exact ((hk0.trans (hk5.mono fun b hb => hb.2.1)).trans (Below.kept hb56 fun b hb => hb.1)).set (by simp) _

end Go.Proofs.Ytkllfdfipkcddaa
