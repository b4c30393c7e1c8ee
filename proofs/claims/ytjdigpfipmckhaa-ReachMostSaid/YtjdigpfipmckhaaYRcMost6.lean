/- Lemmas for the claim, no condition. -/
import Derived.Test.YtjdigpfipmckhaaYRcMost5
import Derived.Test.YtjdigpfipmckhaaYRcMost3
import Derived.Test.YtjdigpfipmckhaaYRcMost2
import Derived.Test.YtjdigpfipmckhaaYRcMost0
namespace Go.Proofs.Ytjdigpfipmckhaa
open Go Go.RowKit Go.Maps
def NoPt (w : World) (b : Nat) : Prop := ∀ cs, w.heap[b]? ≠ some (.cells cs 36 (0, 0))
def FS (lo : Nat) (w : World) (b : Nat) : Prop := lo ≤ b ∧ b < w.heap.size ∧ NoPt w b
abbrev PKept (M : Nat → Prop) (B : Nat) (w w' : World) : Prop := QKept 36 M B w w'
section
variable {w w' w'' : World} {M : Nat → Prop} {B lo : Nat}
theorem FS.same (h : PKept M B w w') (hM : ∀ x, M x → x < lo) : Same (FS lo w) w w' := fun b hb => h.block b (.inr ⟨fun hm => by have := hM b hm; have := hb.1; omega, hb.2.1, hb.2.2⟩)
theorem FS.keep (h : PKept M B w w') (hM : ∀ x, M x → x < lo) {b : Nat} (hb : FS lo w b) : FS lo w' b :=
  ⟨hb.1, Nat.lt_of_lt_of_le hb.2.1 h.size, fun cs => by rw [FS.same h hM b hb]; exact hb.2.2 cs⟩
theorem FS.mono {lo' : Nat} (h : lo ≤ lo') {b : Nat} (hb : FS lo' w b) : FS lo w b := ⟨Nat.le_trans h hb.1, hb.2⟩
theorem FS.ext (h : Ext w w') {b : Nat} (hb : FS lo w b) : FS lo w' b := ⟨hb.1, Nat.lt_of_lt_of_le hb.2.1 h.size, fun cs => by rw [h.block b hb.2.1]; exact hb.2.2 cs⟩
theorem Own.fs {e : TypeId} {sz : Nat} {v : Value} {xs : List Value} (h : Own w lo e sz v xs) (he : e ≠ 36) : Sl (FS lo w) w sz v xs := by
  obtain ⟨n, ho⟩ := h
  refine ownsRow_sl ho _ fun g hg => ⟨(ho.lt g hg).1, (ho.lt g hg).2, fun cs hc => ?_⟩
  obtain ⟨cur, h2⟩ := (show Own w lo e sz v xs from ⟨n, ho⟩).typed hg
  rw [hc] at h2
  injection h2 with h2
  injection h2 with _ h2 _
  exact he h2.symm
end
structure FRow (lo : Nat) (w : World) (q : List (FT × FV3)) (pv : Value) : Prop where
  row : Own w lo 51 4 pv (q.flatMap fC)
  parts : ∀ x ∈ q, FTAt (fun b => FS lo w b ∧ pv.ownBlock ≠ some b) w x.1 x.2
section
variable {w w' w1 w3 : World} {M : Nat → Prop} {B lo n0 : Nat} {q : List (FT × FV3)} {pv v' : Value} {x : FT × FV3}
theorem FRow.nil (lo : Nat) (w : World) : FRow lo w [] (.slice none 0 0) := ⟨Own.nil _ _ _ _, fun x hx => by cases hx⟩
theorem FRow.keep (h : FRow lo w q pv) (hk : PKept M B w w') (hM : ∀ x, M x → x < lo) : FRow lo w' q pv :=
  ⟨h.row.keepOwn fun g hg => FS.same hk hM g ⟨(h.row.block g hg).1, (h.row.block g hg).2, fun cs hc => by
      obtain ⟨cur, h2⟩ := h.row.typed hg
      rw [hc] at h2
      injection h2 with h2
      injection h2 with _ h2 _
      exact absurd h2 (by decide)⟩,
    fun x hx => ((h.parts x hx).same fun b hb => FS.same hk hM b hb.1).mono fun b hb => ⟨FS.keep hk hM hb.1, hb.2⟩⟩
theorem FRow.ext (h : FRow lo w q pv) (hx : Ext w w') : FRow lo w' q pv :=
  ⟨h.row.below hx, fun x hm => ((h.parts x hm).same fun b hb => hx.block b hb.1.2.1).mono fun b hb => ⟨hb.1.ext hx, hb.2⟩⟩
theorem FRow.above (h : FRow lo w q pv) (hs : ∀ b, lo ≤ b → b < w.heap.size → w'.heap[b]? = w.heap[b]?) (hz : w.heap.size ≤ w'.heap.size) : FRow lo w' q pv :=
  ⟨h.row.keepOwn fun g hg => hs g (h.row.block g hg).1 (h.row.block g hg).2, fun x hx => ((h.parts x hx).same fun b hb => hs b hb.1.1 hb.1.2.1).mono fun b hb => ⟨⟨hb.1.1, Nat.lt_of_lt_of_le hb.1.2.1 hz, fun cs => by rw [hs b hb.1.1 hb.1.2.1]; exact hb.1.2.2 cs⟩, hb.2⟩⟩
theorem FRow.add (h : FRow lo w1 q pv) (hk : ∀ b, b < w1.heap.size → pv.ownBlock ≠ some b → w3.heap[b]? = w1.heap[b]?) (hz : w1.heap.size ≤ w3.heap.size) (ho : Own w3 lo 51 4 v' (q.flatMap fC ++ fC x))
    (hb : ∀ g, v'.ownBlock = some g → pv.ownBlock = some g ∨ w1.heap.size ≤ g) (hx : FTAt (FS n0 w1) w1 x.1 x.2) (hn0 : lo ≤ n0) (hpv : ∀ g, pv.ownBlock = some g → g < n0) : FRow lo w3 (q ++ [x]) v' := by
  have hm : ∀ b, (FS lo w1 b ∧ pv.ownBlock ≠ some b) → (FS lo w3 b ∧ v'.ownBlock ≠ some b) := fun b hb' => ⟨⟨hb'.1.1, Nat.lt_of_lt_of_le hb'.1.2.1 hz, fun cs => by rw [hk b hb'.1.2.1 hb'.2]; exact hb'.1.2.2 cs⟩, fun e => by
    rcases hb b e with e2 | e2
    · exact hb'.2 e2
    · have := hb'.1.2.1; omega⟩
  refine ⟨by rw [List.flatMap_append]; simpa using ho, fun y hy => ?_⟩
  rcases List.mem_append.1 hy with hy | hy
  · exact ((h.parts y hy).same fun b hb' => hk b hb'.1.2.1 hb'.2).mono hm
  · obtain rfl := List.mem_singleton.1 hy
    have h2 : ∀ b, FS n0 w1 b → (FS lo w1 b ∧ pv.ownBlock ≠ some b) := fun b hb' => ⟨hb'.mono hn0, fun e => by have := hpv b e; have := hb'.1; omega⟩
    exact ((hx.mono h2).same fun b hb' => hk b hb'.1.2.1 hb'.2).mono hm
theorem FRow.forms (h : FRow lo w q pv) : ∃ p : List (FT × FV3), p.map (·.1) = q.map (·.1) ∧ (∀ x ∈ p, FTAt (FS lo w) w x.1 x.2) ∧ Sl (FS lo w) w 4 pv (p.flatMap fC) :=
  ⟨q, rfl, fun x hx => (h.parts x hx).mono fun b hb => hb.1, h.row.fs (by decide)⟩
end
def GrAt (S : Nat → Prop) (w : World) (ps : List P3) (fs : List FT) (pv fv : Value) : Prop :=
  Sl S w 3 pv (pcs ps) ∧ ∃ q : List (FT × FV3), q.map (·.1) = fs ∧ (∀ x ∈ q, FTAt S w x.1 x.2) ∧ Sl S w 4 fv (q.flatMap fC)
theorem GrAt.same {S : Nat → Prop} {w w' : World} {ps : List P3} {fs : List FT} {pv fv : Value} (h : GrAt S w ps fs pv fv) (hs : Same S w w') : GrAt S w' ps fs pv fv := by
  obtain ⟨h1, q, h2, h3, h4⟩ := h
  exact ⟨h1.same hs, q, h2, fun x hx => (h3 x hx).same hs, h4.same hs⟩
theorem GrAt.mono {S T : Nat → Prop} {w : World} {ps : List P3} {fs : List FT} {pv fv : Value} (h : GrAt S w ps fs pv fv) (hs : ∀ b, S b → T b) : GrAt T w ps fs pv fv := by
  obtain ⟨h1, q, h2, h3, h4⟩ := h
  exact ⟨h1.mono hs, q, h2, fun x hx => (h3 x hx).mono hs, h4.mono hs⟩
abbrev nuV : Nat → Value := fun n => .int .i64 n
theorem look_zip (p : P3) : ∀ (ps : List P3) (k : Nat), lookA (ps.zipIdx k) p = if p ∈ ps then some (k + numD ps p) else none
  | [], _ => rfl
  | x :: ps, k => by
    rw [List.zipIdx_cons]
    unfold lookA
    by_cases h : x = p
    · subst h
      simp [numD, List.findIdx_cons]
    · rw [if_neg h, look_zip p ps (k + 1)]
      have hp : ¬ p = x := fun e => h e.symm
      simp only [List.mem_cons, hp, false_or, numD, List.findIdx_cons, h, decide_false, cond_false]
      split
      · congr 1; omega
      · rfl
theorem put_zip (p : P3) (ps : List P3) (h : p ∉ ps) : putA (ps.zipIdx 0) p ps.length = (ps ++ [p]).zipIdx 0 := by
  rw [put_miss (fun x hx e => h (by
    have := List.mem_map_of_mem (f := Prod.fst) hx
    rw [List.zipIdx_map_fst] at this
    rw [← e]
    exact this)), List.zipIdx_append]
  simp
theorem numD_new (ps : List P3) (p : P3) (h : p ∉ ps) : numD ps p = ps.length := by
  unfold numD
  rw [List.findIdx_eq_length]
  intro x hx
  simp only [decide_eq_false_iff_not]
  exact fun e => h (e ▸ hx)
structure WkAt (w : World) (wp am B : Nat) (tv fi sm : Value) (ps : List P3) (pv fv : Value) : Prop where
  box : Blk w wp #[tv, fi, sm, .map (some am), pv, fv, .int .i64 0] 80
  num : Mp Try.prog 36 pV nuV w am (ps.zipIdx 0)
  pts : Own w B 36 3 pv (pcs ps)
abbrev WM (wp am : Nat) : Nat → Prop := fun x => x = wp ∨ x = am
section
variable {w w' : World} {wp am B : Nat} {tv fi sm pv fv pv' fv' : Value} {ps : List P3} {p : P3}
theorem WkAt.ext (h : WkAt w wp am B tv fi sm ps pv fv) (hx : Ext w w') : WkAt w' wp am B tv fi sm ps pv fv := ⟨h.box.below hx, h.num.below hx, h.pts.below hx⟩
theorem WkAt.same (h : WkAt w wp am B tv fi sm ps pv fv) (h1 : w'.heap[wp]? = w.heap[wp]?) (h2 : w'.heap[am]? = w.heap[am]?) (h3 : ∀ g, pv.ownBlock = some g → w'.heap[g]? = w.heap[g]?) : WkAt w' wp am B tv fi sm ps pv fv := ⟨h1.trans h.box, h.num.same h2, h.pts.keepOwn h3⟩
theorem WkAt.ne (h : WkAt w wp am B tv fi sm ps pv fv) : wp ≠ am := fun e => h.num.notCells _ _ _ (e ▸ h.box)
theorem WkAt.ptNe (h : WkAt w wp am B tv fi sm ps pv fv) : ∀ g, pv.ownBlock = some g → g ≠ wp ∧ g ≠ am := fun g hg => by
  obtain ⟨cur, h2⟩ := h.pts.typed hg
  refine ⟨fun e => ?_, fun e => ?_⟩
  · subst e
    rw [show w.heap[g]? = _ from h.box] at h2
    injection h2 with h2
    injection h2 with _ h2 _
    exact absurd h2 (by decide)
  · subst e
    exact h.num.notCells _ _ _ h2
end
abbrev KX (wp am : Nat) (w : World) (pv : Value) (x : Nat) : Prop := x < w.heap.size ∧ x ≠ wp ∧ x ≠ am ∧ pv.ownBlock ≠ some x
structure Fine (wp am : Nat) (w w' : World) (pv pv' : Value) : Prop where
  kept : Kept (KX wp am w pv) w w'
  wher : ∀ g, pv'.ownBlock = some g → pv.ownBlock = some g ∨ w.heap.size ≤ g
section
variable {w w' w'' w0 : World} {wp am B B' : Nat} {tv fi sm pv fv pv' pv'' v : Value} {ps : List P3} {e : TypeId} {sz : Nat} {xs : List Value}
theorem Fine.of (wp am : Nat) (pv : Value) (h : Ext w w') : Fine wp am w w' pv pv := ⟨Below.kept h fun _ hx => hx.1, fun _ hg => .inl hg⟩
theorem Fine.trans (h : Fine wp am w w' pv pv') (k : Fine wp am w' w'' pv' pv'') : Fine wp am w w'' pv pv'' :=
  ⟨h.kept.trans (k.kept.mono fun x (hx : KX wp am w pv x) => ⟨Nat.lt_of_lt_of_le hx.1 h.kept.size, hx.2.1, hx.2.2.1, fun e => by
      rcases h.wher x e with e2 | e2
      · exact hx.2.2.2 e2
      · have := hx.1; omega⟩),
    fun g hg => by
      rcases k.wher g hg with e | e
      · exact h.wher g e
      · exact .inr (Nat.le_trans h.kept.size e)⟩
theorem Fine.size (h : Fine wp am w w' pv pv') : w.heap.size ≤ w'.heap.size := h.kept.size
theorem Fine.own (h : Fine wp am w0 w pv pv') (ho : Own w w0.heap.size e sz v xs) (hg : w.grownBy w' v.ownBlock) : Fine wp am w0 w' pv pv' :=
  ⟨⟨hg.os.trans h.kept.os, hg.tape.trans h.kept.tape, hg.output.trans h.kept.output, Nat.le_trans h.kept.size hg.size, fun x hx => (hg.block x (Nat.lt_of_lt_of_le hx.1 h.kept.size) fun e => by have := (ho.block x e.symm).1; have := hx.1; omega).trans (h.kept.block x hx)⟩, h.wher⟩
theorem Fine.set (h : Fine wp am w0 w pv pv') {x i : Nat} (hx : w0.heap.size ≤ x) (u : Value) : Fine wp am w0 (w.setCell ⟨x, i, none⟩ u) pv pv' :=
  ⟨h.kept.set (fun hk => by have h1 : x < w0.heap.size := hk.1; omega) _, h.wher⟩
theorem Fine.pk (h : Fine wp am w w' pv pv') (hw : WkAt w wp am B tv fi sm ps pv fv) (hB : B ≤ wp ∧ B ≤ am) : PKept (WM wp am) B w w' := h.kept.mono fun x hx => by
  rcases hx with hx | ⟨h1, h2, h3⟩
  · exact ⟨by have := hw.box.lt; omega, by omega, by omega, fun e => by have := (hw.pts.block x e).1; omega⟩
  · refine ⟨h2, fun e => h1 (.inl e), fun e => h1 (.inr e), fun e => ?_⟩
    obtain ⟨c, hc⟩ := hw.pts.typed e
    exact h3 c hc
theorem WkAt.un (h : WkAt w wp am B tv fi sm ps pv fv) {x : Nat} {cs : Array Value} {fr : Nat × Nat} (hx : w.heap[x]? = some (.cells cs e fr)) (he : e ≠ 36) (he2 : e ≠ 80) : KX wp am w pv x := by
  refine ⟨(Array.getElem?_eq_some_iff.1 hx).1, fun e => ?_, fun e => ?_, fun e => ?_⟩
  · subst e
    rw [show w.heap[x]? = _ from h.box] at hx
    injection hx with hx
    injection hx with _ hx _
    exact he2 hx.symm
  · subst e
    exact h.num.notCells _ _ _ hx
  · obtain ⟨c, hc⟩ := h.pts.typed e
    rw [hc] at hx
    injection hx with hx
    injection hx with _ hx _
    exact he hx.symm
theorem Fine.blk (h : Fine wp am w w' pv pv') (hw : WkAt w wp am B tv fi sm ps pv fv) {x : Nat} {cs : Array Value} (hx : Blk w x cs e) (he : e ≠ 36) (he2 : e ≠ 80) : Blk w' x cs e := (h.kept.block x (hw.un hx he he2)).trans hx
theorem Fine.row (h : Fine wp am w w' pv pv') (hw : WkAt w wp am B tv fi sm ps pv fv) (ho : Own w B' e sz v xs) (he : e ≠ 36) (he2 : e ≠ 80) : Own w' B' e sz v xs := ho.keepOwn fun g hg => by
  obtain ⟨c, hc⟩ := ho.typed hg
  exact h.kept.block g (hw.un hc he he2)
theorem WkAt.sl (hw : WkAt w wp am B tv fi sm ps pv fv) (ho : Own w B' e sz v xs) (he : e ≠ 36) (he2 : e ≠ 80) : Sl (KX wp am w pv) w sz v xs := by
  obtain ⟨n, h⟩ := ho
  refine ownsRow_sl h _ fun g hg => ?_
  obtain ⟨c, hc⟩ := (show Own w B' e sz v xs from ⟨n, h⟩).typed hg
  exact hw.un hc he he2
theorem WkAt.grown (h : WkAt w wp am B tv fi sm ps pv fv) (ho : Own w B' e sz v xs) (he : e ≠ 36) (he2 : e ≠ 80) (hg : w.grownBy w' v.ownBlock) : WkAt w' wp am B tv fi sm ps pv fv := by
  refine h.same (hg.block wp h.box.lt fun e => ?_) (hg.block am h.num.lt fun e => ?_) fun g hgp => hg.block g (h.pts.block g hgp).2 fun e => ?_
  · obtain ⟨c, hc⟩ := ho.typed e.symm
    exact (h.un hc he he2).2.1 rfl
  · exact ho.notMap h.num.notCells am e.symm rfl
  · obtain ⟨c, hc⟩ := ho.typed e.symm
    exact (h.un hc he he2).2.2.2 hgp
theorem WkAt.setBox (h : WkAt w wp am B tv fi sm ps pv fv) {x i : Nat} {cs : Array Value} (hx : Blk w x cs e) (he : e ≠ 36) (he2 : e ≠ 80) (u : Value) : WkAt (w.setCell ⟨x, i, none⟩ u) wp am B tv fi sm ps pv fv := by
  have hu := h.un hx he he2
  exact h.same (Below.heap_setCell _ _ _ _ fun e => hu.2.1 e.symm) (Below.heap_setCell _ _ _ _ fun e => hu.2.2.1 e.symm) fun g hg => Below.heap_setCell _ _ _ _ fun e => hu.2.2.2 (by rw [hg, show g = x from e])
theorem Own.setBox (ho : Own w B' e sz v xs) {x i : Nat} {cs : Array Value} {e2 : TypeId} (hx : Blk w x cs e2) (he : e ≠ e2) (u : Value) : Own (w.setCell ⟨x, i, none⟩ u) B' e sz v xs := ho.keepOwn fun g hg => Below.heap_setCell _ _ _ _ fun e3 => by
  obtain ⟨c, hc⟩ := ho.typed hg
  rw [show g = x from e3, show w.heap[x]? = _ from hx] at hc
  injection hc with hc
  injection hc with _ hc _
  exact he hc.symm
end
end Go.Proofs.Ytjdigpfipmckhaa
namespace Go.Proofs.Ytjdigpfipmckhaa
open Go Go.RowKit Go.Maps
set_option maxRecDepth 100000 in
set_option maxHeartbeats 400000 in
theorem indexI_any {S : Nat → Prop} (v : Value) (l : List Int) (k : Int) (w : World) (h : Sl S w 1 v (ic l)) :
    Calls Try.prog 64 #[v, .int .i64 k] w fun e w' => (∃ i : Int, e = .returned (.int .i64 i) ∧ (0 ≤ i ↔ k ∈ l)) ∧ w' = w := by
  obtain ⟨ao, c, rfl, hlc, hcm, hc⟩ := h.ints
  have HC := Lib.hid hc
  clear hc h
  go_enter Try.func64, Try.ntmps64
  go_wp2_with fail
  go_loopw [5, 8] (fun _ iv wr => ∃ i : Nat, i ≤ l.length ∧ iv = .int .i64 i ∧ (∀ j (hj : j < l.length), j < i → l[j] ≠ k) ∧ wr = w) (fun _ iv _ => l.length - (intOf iv).toNat)
  case atStart => exact ⟨0, Nat.zero_le _, rfl, (fun _ _ h => absurd h (Nat.not_lt_zero _)), rfl⟩
  case round =>
    obtain ⟨i, hi, rfl, hall, rfl⟩ := hrel
    have HALL := Lib.hid hall
    clear hall
    by_cases hlt : i < l.length
    · obtain ⟨b, off, rfl, -, hcl⟩ := HC.out i hlt
      by_cases he : l[i] = k
      · have HM := Lib.hid (show k ∈ l from he ▸ List.getElem_mem hlt)
        rw [he] at hcl
        clear he
        go_wp2_with fail
        go_ret
        exact ⟨⟨_, rfl, ⟨fun _ => HM.out, fun _ => by omega⟩⟩, rfl⟩
      · have HN := Lib.hid (show ∀ j (hj : j < l.length), j < i + 1 → l[j] ≠ k from fun j hj h => (Nat.lt_succ_iff_lt_or_eq.1 h).elim (fun e => HALL.out j hj e) (fun e => by subst e; exact he))
        generalize l[i] = x at *
        have hne : ¬ (k = x) := fun e => he e.symm
        have hnb : (k == x) = false := by simpa using hne
        have HIL := Lib.hid hlt
        clear he
        go_wp2_with fail
        go_roundw
        case rel => exact ⟨i + 1, HIL.out, by go_num, HN.out, trivial⟩
        case measure => have := HIL.out; simp [intOf]; omega
    · obtain rfl : i = l.length := by omega
      have HN := Lib.hid (show k ∉ l from fun hk => by obtain ⟨j, hj, e⟩ := List.getElem_of_mem hk; exact HALL.out j hj hj e)
      go_wp2_with fail
      go_ret
      exact ⟨⟨_, rfl, ⟨fun h => absurd h (by decide), fun h => absurd h HN.out⟩⟩, rfl⟩
set_option maxRecDepth 100000 in
theorem containsI_any {S : Nat → Prop} (v : Value) (l : List Int) (k : Int) (w : World) (h : Sl S w 1 v (ic l)) :
    Calls Try.prog 56 #[v, .int .i64 k] w fun e w' => e = .returned (.bool (decide (k ∈ l))) ∧ w' = w := by
  have HI := Lib.hid (indexI_any v l k w h)
  obtain ⟨ao, c, rfl, -, -, -⟩ := h.ints
  clear h
  go_enter Try.func56, Try.ntmps56
  go_wp2_with fail
  refine HI.out.mono ?_
  rintro e w1 ⟨⟨i, rfl, hi⟩, rfl⟩
  by_cases hk : k ∈ l
  · have h0 := hi.2 hk
    clear hi
    go_wp2_with fail
    go_ret
    exact ⟨by rw [decide_eq_true hk]; rfl, rfl⟩
  · have h0 : ¬ (0 ≤ i) := fun h => hk (hi.1 h)
    have hd : decide (0 ≤ i) = false := decide_eq_false h0
    clear hi h0
    go_wp2_with fail
    go_ret
    exact ⟨by rw [decide_eq_false hk]; rfl, rfl⟩
end Go.Proofs.Ytjdigpfipmckhaa
namespace Go.Proofs.Ytjdigpfipmckhaa
open Go Go.RowKit
theorem pointsT : ElemT Try.prog 38 36 3 48 := ElemT.mk' Try.underlying38 (show _ = some (some (.agg #[.string ByteArray.empty, .string ByteArray.empty, .string ByteArray.empty]), 3, 48) by kernel_rfl) rfl (by decide)
theorem subsT : ElemT Try.prog 48 53 3 48 := ElemT.mk' Try.underlying48 (show _ = some (some (.agg #[.string ByteArray.empty, .string ByteArray.empty, .string ByteArray.empty]), 3, 48) by kernel_rfl) rfl (by decide)
theorem pcs_length (l : List P3) : (pcs l).length = 3 * l.length := by
  unfold pcs
  induction l with
  | nil => rfl
  | cons a r ih => rw [List.flatMap_cons, List.length_append, ih, pC_length, List.length_cons]; omega
theorem pcs_one (l : List P3) : ∀ u ∈ pcs l, u.oneCell' = true := by
  intro u hu
  obtain ⟨a, _, ha⟩ := List.mem_flatMap.1 hu
  exact pC_one a u ha
theorem pcs_append (a b : List P3) : pcs (a ++ b) = pcs a ++ pcs b := List.flatMap_append
theorem pcs_single (a : P3) : pcs [a] = pC a := by simp [pcs]
end Go.Proofs.Ytjdigpfipmckhaa
namespace Go.Proofs.Ytjdigpfipmckhaa
open Go Go.RowKit
def ahead (ops : Array Oper) : Nat → Nat → Nat → Bool
  | 0, _, _ => false
  | f + 1, i, j => match ops[j]? with
    | some o => o.after.any fun e => Region.binds .any e && (e.on == i || ahead ops f i e.on)
    | none => false
def Closed (ops : Array Oper) (l : Array Bool) : Prop :=
  ∀ j o, ops[j]? = some o → l.getD j false = true → ∀ e ∈ o.after, Region.binds .any e = true → l.getD e.on false = true
theorem ahead_listed {ops : Array Oper} {l : Array Bool} (hc : Closed ops l) : ∀ (f i j : Nat), ahead ops f i j = true →
    (∀ o, ops[j]? = some o → ∀ e ∈ o.after, Region.binds .any e = true → l.getD e.on false = true) → l.getD i false = true
  | 0, _, _, h, _ => by simp [ahead] at h
  | f + 1, i, j, h, hl => by
    unfold ahead at h
    cases ho : ops[j]? with
    | none => rw [ho] at h; simp at h
    | some o =>
      rw [ho] at h
      simp only [Array.any_eq_true', Bool.and_eq_true, Bool.or_eq_true, beq_iff_eq] at h
      obtain ⟨e, he, hb, h⟩ := h
      have h1 := hl o ho e he hb
      rcases h with h | h
      · exact h ▸ h1
      · exact ahead_listed hc f i e.on h fun o' ho' e' he' hb' => hc _ o' ho' h1 e' he' hb'
theorem Closed.set {ops : Array Oper} {l : Array Bool} (hc : Closed ops l) {j : Nat} (hj : j ∈ Region.ready .any ops l) : Closed ops (l.setIfInBounds j true) := by
  intro k o ho hk e he hb
  refine getD_set_true ?_
  by_cases hkj : k = j
  · subst hkj
    obtain ⟨_, o', ho', hall⟩ := mem_ready.1 hj
    rw [ho] at ho'
    cases ho'
    exact hall e he hb
  · rw [getD_set_ne false (Ne.symm hkj)] at hk
    exact hc k o ho hk e he hb
theorem Closed.start (ops : Array Oper) (n : Nat) : Closed ops (Array.replicate n false) := by
  intro j o _ hj
  simp only [Array.getD_eq_getD_getElem?, Array.getElem?_replicate] at hj
  split at hj <;> simp at hj
section
variable {P : Program} {ops : Array Oper} {Q : Exit → Act → World → Prop} {S : World → Prop} {L : Nat}
def wpAnyL (P : Program) (ops : Array Oper) (Q : Exit → Act → World → Prop) (S : World → Prop) (L : Nat) : Nat → Array Bool → Act → World → Prop
  | 0, l, a, w => Region.ready .any ops l = [] ∧ Q .normal a w
  | f + 1, l, a, w => (Region.ready .any ops l = [] → Q .normal a w) ∧
      ∀ i ∈ Region.ready .any ops l, wpOp P ops Q i (fun a' w' => (i ≠ L → S w') ∧ wpAnyL P ops Q S L f (l.setIfInBounds i true) a' w') a w
theorem wpAnyL_any : ∀ (f : Nat) (l : Array Bool) (a : Act) (w : World), wpAnyL P ops Q S L f l a w → wpAny P .any ops Q f l a w
  | 0, _, _, _, h => h
  | f + 1, _, _, _, h => ⟨h.1, fun i hi => wpOp_mono (fun a' w' k => wpAnyL_any f _ a' w' k.2) (h.2 i hi)⟩
theorem wpAnyL_done {l : Array Bool} {a : Act} {w : World} (hr : Region.ready .any ops l = []) (h : Q .normal a w) : ∀ f, wpAnyL P ops Q S L f l a w
  | 0 => ⟨hr, h⟩
  | _ + 1 => ⟨fun _ => h, by rw [hr]; simp⟩
theorem unlisted {l : Array Bool} {i : Nat} (h : l.getD i true = false) (k : l.getD i false = true) : False := by
  rcases Nat.lt_or_ge i l.size with h' | h'
  · simp [h'] at h k
    rw [h] at k
    cases k
  · simp [Array.getElem?_eq_none h'] at k
theorem wpAnyL_take {i : Nat} {oi : Oper} {v : Value} (hi : ops[i]? = some oi) (hsel : Region.noSelect ops = true)
    (hQ : ∀ c a w, Q (.panic c) (Act.put a oi.dst v) w → Q (.panic c) a w) {n : Nat} (hL : ahead ops n i L = true) :
    ∀ (f : Nat) (l : Array Bool) (a : Act) (w : World), Closed ops l →
      (∀ j oj, ops[j]? = some oj → j ≠ i → l.getD j true = false → (∀ e ∈ oj.after, Region.binds .any e = true → e.on ≠ i) → oi.apart ops oj = true) →
      i ∈ Region.ready .any ops l → YieldsIf P ops S oi v a → S w → wpAnyL P ops Q S L f (l.setIfInBounds i true) (a.put oi.dst v) w → wpAnyL P ops Q S L (f + 1) l a w := by
  intro f
  induction f with
  | zero =>
    intro l a w _ _ hr hy hS H
    refine ⟨fun h => (by rw [h] at hr; cases hr), fun j hj => ?_⟩
    by_cases hji : j = i
    · subst hji
      exact hy.wpOp hi hS ⟨fun _ => hS, H⟩
    · have := ready_mono hj hji
      rw [H.1] at this
      cases this
  | succ f ih =>
    intro l a w hc hfree hr hy hS H
    refine ⟨fun h => (by rw [h] at hr; cases hr), fun j hj => ?_⟩
    by_cases hji : j = i
    · subst hji
      exact hy.wpOp hi hS ⟨fun _ => hS, H⟩
    · obtain ⟨hjun, oj, hoj, hall⟩ := mem_ready.1 hj
      have hiun := (mem_ready.1 hr).1
      have hjL : j ≠ L := by
        intro e
        subst e
        exact unlisted hiun (ahead_listed hc n i j hL fun o ho e he hb => by rw [hoj] at ho; cases ho; exact hall e he hb)
      have hnot : ∀ e ∈ oj.after, Region.binds .any e = true → e.on ≠ i := fun e he hb heq => unlisted hiun (heq ▸ hall e he hb)
      have h2 := wpOp_putIf hoj (hfree j oj hoj hji hjun hnot) (fun cs b => Region.noSelect_spec hsel i oi cs b hi) (fun cs b => Region.noSelect_spec hsel j oj cs b hoj) hQ hy (H.2 j (ready_mono hj hji))
      refine wpOp_mono (fun a' w' k => ⟨k.2.1, ih (l.setIfInBounds j true) a' w' (hc.set hj) (fun m om hom hmi hun hno => ?_) (ready_mono hr (Ne.symm hji)) k.1 (k.2.1 hjL) ?_⟩) h2
      · refine hfree m om hom hmi ?_ hno
        by_cases hjm : j = m
        · exact hjm ▸ hjun
        · rwa [getD_set_ne true hjm] at hun
      · rw [Array.setIfInBounds_comm _ _ hji]
        exact k.2.2
def WalkL (P : Program) (ops : Array Oper) (Q : Exit → Act → World → Prop) (S : World → Prop) (L : Nat) : Nat → Array Bool → Act → World → Prop
  | 0, l, a, w => Region.ready .any ops l = [] ∧ Q .normal a w
  | f + 1, l, a, w => (Region.ready .any ops l = [] ∧ Q .normal a w) ∨
      (∃ i o v, ops[i]? = some o ∧ Region.free .any ops l i = true ∧ (Region.ready .any ops l).contains i = true ∧ ahead ops ops.size i L = true ∧ YieldsIf P ops S o v a ∧ WalkL P ops Q S L f (l.setIfInBounds i true) (a.put o.dst v) w) ∨
      (Region.ready .any ops l ≠ [] ∧ ∀ i ∈ Region.ready .any ops l, ∃ o, ops[i]? = some o ∧ ∀ K' : Act → World → Prop, Shut (∀ a' w', S w' → WalkL P ops Q S L f (l.setIfInBounds i true) a' w' → K' a' w') →
        if Region.wanted o (yielded ops a.tmps) = true then Oper.wp P o a w K' Q else K' (a.put o.dst undef) w) ∨
      (Region.ready .any ops l = [L] ∧ Region.ready .any ops (l.setIfInBounds L true) = [] ∧ ∃ o, ops[L]? = some o ∧ Region.wanted o (yielded ops a.tmps) = true ∧ ∀ K' : Act → World → Prop, Shut (∀ a' w', Q .normal a' w' → K' a' w') → Oper.wp P o a w K' Q)
theorem walkL_sound (hns : Region.noSelect ops = true) (hQ : ∀ c a d v w, Q (.panic c) (Act.put a d v) w → Q (.panic c) a w) :
    ∀ (f : Nat) (l : Array Bool) (a : Act) (w : World), Closed ops l → S w → WalkL P ops Q S L f l a w → wpAnyL P ops Q S L f l a w
  | 0, _, _, _, _, _, h => h
  | f + 1, l, a, w, hc, hs, h => by
    rcases h with ⟨h1, h2⟩ | ⟨i, o, v, ho, hf, hr, hL, hy, h⟩ | ⟨hne, h⟩ | ⟨h1, h2, o, ho, hw, h⟩
    · exact wpAnyL_done h1 h2 _
    · exact wpAnyL_take ho hns (fun c a w => hQ c a _ _ w) hL f l a w hc (Region.free_spec ho hf) (by simpa using hr) hy hs (walkL_sound hns hQ f _ _ w (hc.set (by simpa using hr)) hs h)
    · refine ⟨fun e => absurd e hne, fun i hi => ?_⟩
      obtain ⟨o, ho, hst⟩ := h i hi
      exact wpOp_step ho (fun K' hK => hst K' (fun a' w' he hw => hK a' w' ⟨fun _ => he, walkL_sound hns hQ f _ a' w' (hc.set hi) he hw⟩))
    · refine ⟨fun e => (by rw [e] at h1; exact absurd h1.symm (List.cons_ne_nil _ _)), fun i hi => ?_⟩
      rw [h1] at hi
      obtain rfl : i = L := by simpa using hi
      exact wpOp_step ho (fun K' hK => by rw [if_pos hw]; exact h K' (fun a' w' hq => hK a' w' ⟨fun e => absurd rfl e, wpAnyL_done h2 hq _⟩))
theorem region_walkL {id : Nat} {a : Act} {w : World} (L : Nat) (S : World → Prop) (hS : S w.drew) (hm : P.follows .mixedOrders = true) (hns : Region.noSelect ops = true) (hQ : ∀ c a d v w, Q (.panic c) (Act.put a d v) w → Q (.panic c) a w)
    (h : WalkL P ops Q S L ops.size (Array.replicate ops.size false) a w.drew) : (Code.region id ops true).wp P Q a w :=
  wp_region_any hm (wpAnyL_any _ _ _ _ (walkL_sound hns hQ _ _ a w.drew (Closed.start _ _) hS h))
theorem WalkL.take {f : Nat} {l : Array Bool} {a : Act} {w : World} (i : Nat) (o : Oper) (v : Value) (ho : ops[i]? = some o) (hf : Region.free .any ops l i = true) (hr : (Region.ready .any ops l).contains i = true) (hL : ahead ops ops.size i L = true)
    (hw : Region.wanted o (yielded ops a.tmps) = true) (hy : ∀ W, S W → (execOp a.eval o).run P W = .ok (.value v) W) (h : WalkL P ops Q S L f (l.setIfInBounds i true) (a.put o.dst v) w) : WalkL P ops Q S L (f + 1) l a w :=
  .inr (.inl ⟨i, o, v, ho, hf, hr, hL, .inl ⟨hw, hy⟩, h⟩)
def TkL (P : Program) (ops : Array Oper) (Q : Exit → Act → World → Prop) (S : World → Prop) (L : Nat) : List Nat → Nat → Array Bool → Act → World → Prop
  | [], f, l, a, w => WalkL P ops Q S L f l a w
  | i :: is, f, l, a, w => ∃ g, f = g + 1 ∧ ∃ o v, ops[i]? = some o ∧ Region.free .any ops l i = true ∧ (Region.ready .any ops l).contains i = true ∧ ahead ops ops.size i L = true ∧ Region.wanted o (yielded ops a.tmps) = true ∧ (∀ W, S W → (execOp a.eval o).run P W = .ok (.value v) W) ∧ TkL P ops Q S L is g (l.setIfInBounds i true) (a.put o.dst v) w
theorem WalkL.tk (is : List Nat) : ∀ {f : Nat} {l : Array Bool} {a : Act} {w : World}, TkL P ops Q S L is f l a w → WalkL P ops Q S L f l a w := by
  induction is with
  | nil => exact fun h => h
  | cons i is ih =>
    rintro f l a w ⟨g, rfl, o, v, ho, hf, hr, hL, hw, hy, h⟩
    exact WalkL.take i o v ho hf hr hL hw hy (ih h)
theorem TkL.c {f : Nat} {l : Array Bool} {a : Act} {w : World} {i : Nat} {is : List Nat} (o : Oper) (v : Value) (ho : ops[i]? = some o) (hf : Region.free .any ops l i = true) (hr : (Region.ready .any ops l).contains i = true) (hL : ahead ops ops.size i L = true)
    (hw : Region.wanted o (yielded ops a.tmps) = true) (hy : ∀ W, S W → (execOp a.eval o).run P W = .ok (.value v) W) (h : TkL P ops Q S L is f (l.setIfInBounds i true) (a.put o.dst v) w) : TkL P ops Q S L (i :: is) (f + 1) l a w :=
  ⟨f, rfl, o, v, ho, hf, hr, hL, hw, hy, h⟩
theorem TkL.n {f : Nat} {l : Array Bool} {a : Act} {w : World} (h : WalkL P ops Q S L f l a w) : TkL P ops Q S L [] f l a w := h
def MadeL (P : Program) (ops : Array Oper) (Q : Exit → Act → World → Prop) (S : World → Prop) (L f : Nat) (l : Array Bool) (a : Act) (w : World) (i : Nat) : Prop :=
  ∃ o, ops[i]? = some o ∧ Region.wanted o (yielded ops a.tmps) = true ∧ ∀ K' : Act → World → Prop, Shut (∀ a' w', S w' → WalkL P ops Q S L f (l.setIfInBounds i true) a' w' → K' a' w') → Oper.wp P o a w K' Q
theorem WalkL.one {f : Nat} {l : Array Bool} {a : Act} {w : World} (i : Nat) (hr : Region.ready .any ops l = [i]) (h : MadeL P ops Q S L f l a w i) : WalkL P ops Q S L (f + 1) l a w := by
  refine .inr (.inr (.inl ⟨by rw [hr]; simp, fun j hj => ?_⟩))
  rw [hr] at hj
  obtain rfl : j = i := by simpa using hj
  obtain ⟨o, ho, hw, h⟩ := h
  exact ⟨o, ho, fun K hK => by rw [if_pos hw]; exact h K hK⟩
theorem WalkL.last {f : Nat} {l : Array Bool} {a : Act} {w : World} (hr : Region.ready .any ops l = [L]) (hr' : Region.ready .any ops (l.setIfInBounds L true) = [])
    (h : ∃ o, ops[L]? = some o ∧ Region.wanted o (yielded ops a.tmps) = true ∧ ∀ K' : Act → World → Prop, Shut (∀ a' w', Q .normal a' w' → K' a' w') → Oper.wp P o a w K' Q) : WalkL P ops Q S L (f + 1) l a w :=
  .inr (.inr (.inr ⟨hr, hr', h⟩))
end
end Go.Proofs.Ytjdigpfipmckhaa
