/- Append to a row of the call's own, and where its result lies. table's writer: how it lies; its end. table's writer: its end. No condition: lemmas. -/
import Derived.Test.YtmmeofiocbfamaaGreatDoorZ1
import Derived.Test.YtmmeofiocbfamaaGreatDoorZ3
import Derived.Test.YtmmeofiocbfamaaGreatDoorZ15
namespace Go.Proofs.YtmmeofiocbfamaaGreatDoor
open Go Go.RowKit

/-- Where append's result lies: where the row lay, or in a new block. -/
theorem append_where {P : Program} {w : World} (base : Nat) (t ty e : TypeId) (i : TypeInfo) (z : Value) (ht : P.underlying t = some (.slice e)) (hi : P.info? e = some i) (hz : i.zero = some z)
    (v : Value) (n : Nat) (xs : List Value) (hown : w.ownsRow base e i.size v n xs)
    (a : Addr) (m c : Nat) (news : List Value) (hl : news.length = m * i.size) (hnews : ∀ j u, news[j]? = some u → w.cell? (a.add j) = some u) (h1 : ∀ u ∈ news, u.oneCell' = true)
    (h63 : n + m ≤ maxLen) (hbytes : (n + m) * i.bytes ≤ 140737488355328) {v' : Value} {w' : World} (hrun : (Builtin.append_ #[t, t] ty #[v, .slice (some a) m c]).run P w = .ok v' w') :
    ∀ g, v'.ownBlock = some g → v.ownBlock = some g ∨ w.heap.size ≤ g := by
  have hsmall : n + m ≤ 9223372036854775807 := by simp only [maxLen] at h63; omega
  rcases hown.2 with ⟨rfl, rfl⟩ | ⟨g, cap, cur, rfl, hbg, hg, hnc, hcm, hcs, htake⟩
  · have hx : xs = [] := List.eq_nil_of_length_eq_zero (by simpa using hown.1)
    subst hx
    by_cases hm : m = 0
    · subst hm
      have hn : news = [] := List.eq_nil_of_length_eq_zero (by simpa using hl)
      subst hn
      have : (Builtin.append_ #[t, t] ty #[.slice none 0 0, .slice (some a) 0 c]).run P w = .ok (.slice none 0 0) w := by
        simp [Builtin.append_, run_underlying ht, sizeOf, typeInfo, hi, Builtin.lenOf, Builtin.firstCells, loadCells, loadCellsFrom]
      rw [hrun] at this
      injection this with h1 h2
      subst h1
      intro g hg
      cases hg
    · have hr := run_append_nil (P := P) w t ty e i z ht hi hz a m c news hl hnews (by omega) (by omega) (by have hb := hbytes; simp only [Nat.zero_add] at hb; omega)
      rw [hrun] at hr
      injection hr with h1 h2
      subst h1
      intro g hg
      simp only [Value.ownBlock, Option.some.injEq] at hg
      exact .inr (Nat.le_of_eq hg)
  · by_cases hroom : n + m ≤ cap
    · have hfit : n * i.size + news.length ≤ cur.size := by rw [hl, hcs, ← Nat.add_mul]; exact Nat.mul_le_mul_right _ hroom
      have hr := run_append_room (P := P) w t ty e i ht hi g n cap cur hg a m c news hl hnews h1 hroom hfit
      rw [hrun] at hr
      injection hr with h1 h2
      subst h1
      intro g' hg'
      exact .inl hg'
    · have holds : ∀ j u, xs[j]? = some u → w.cell? ((⟨g, 0, none⟩ : Addr).add j) = some u := hown.cells (g := g) rfl
      have hr := run_append_grow (P := P) w t ty e i z ht hi hz ⟨g, 0, none⟩ n cap xs hown.1 holds a m c news hl hnews (by omega) (by omega) (growslice_fits (by omega) hbytes)
      rw [hrun] at hr
      injection hr with h1 h2
      subst h1
      intro g hg
      simp only [Value.ownBlock, Option.some.injEq] at hg
      exact .inr (Nat.le_of_eq hg)
/-- The law of append to a row of the call's own in a drawn region; where its result lies. -/
theorem wp_ownw {P : Program} {w : World} {o : Oper} {a : Act} {K : Act → World → Prop} {Q : Exit → Act → World → Prop} {t e : TypeId} {size bytes : Nat} (E : ElemT P t e size bytes)
    (s x : Operand) (hop : o.op = Op.call { callee := Callee.builtin Builtin.append, args := #[s, x], argTypes := #[t, t] })
    {B : Nat} {v : Value} {xs : List Value} (hs : a.eval s = v) (hown : Own w B e size v xs) {ad : Addr} {m c : Nat} {news : List Value} (hx : a.eval x = .slice (some ad) m c) (hn : news.length = m * size)
    (hc : ∀ j u, news[j]? = some u → w.cell? (ad.add j) = some u) (h1 : ∀ u ∈ news, u.oneCell' = true)
    (hlen : xs.length + news.length ≤ 9223372036854775807) (hbytes : (xs.length + news.length) * bytes ≤ 140737488355328) (hB : B ≤ w.heap.size)
    (h : ∀ v' w', Own w' B e size v' (xs ++ news) → (∀ g, v'.ownBlock = some g → v.ownBlock = some g ∨ w.heap.size ≤ g) → w.grownBy w' v.ownBlock → K (a.put o.dst v') w') : o.wp P a w K Q := by
  obtain ⟨hund, ⟨i, z, hi, hz, h4, h5, h6⟩, hpos⟩ := E
  obtain ⟨k, hown⟩ := hown
  have e1 : ∀ k l : Nat, k ≤ l * size → l * size ≤ k → l ≤ k := fun k l _ hb => Nat.le_trans (Nat.le_mul_of_pos_right l hpos) hb
  have hnl : k ≤ xs.length := e1 _ _ (Nat.le_of_eq hown.1) (Nat.le_of_eq hown.1.symm)
  have hml : m ≤ news.length := e1 _ _ (Nat.le_of_eq hn) (Nat.le_of_eq hn.symm)
  have hb47 : (k + m) * bytes ≤ 140737488355328 := Nat.le_trans (Nat.mul_le_mul_right _ (by omega)) hbytes
  subst h4
  subst h5
  obtain ⟨v', w', hrun, r1, r2, _⟩ := run_append_own (P := P) w B t o.type e i z i.size i.bytes hund hi hz rfl rfl h6 hpos v k xs hown ad m c news hn hc h1 (by unfold maxLen; omega) hb47 hB
  have r3 := append_where B t o.type e i z hund hi hz v k xs hown ad m c news hn hc h1 (by unfold maxLen; omega) hb47 hrun
  unfold Oper.wp
  simp [execOp, hop, resolve, invoke, builtin, hs, hx, hrun, Result.andThen]
  exact h v' w' ⟨_, r1⟩ r3 r2
/-- The law of append to a row of the call's own; where its result lies. -/
theorem wpList_ownw {P : Program} {w : World} {ops : Array Oper} {rest : List Oper} {o : Oper} {a : Act} {Q : Exit → Act → World → Prop} {t e : TypeId} {size bytes : Nat} (E : ElemT P t e size bytes)
    (hg : o.guard = none) (s x : Operand) (hop : o.op = Op.call { callee := Callee.builtin Builtin.append, args := #[s, x], argTypes := #[t, t] })
    {B : Nat} {v : Value} {xs : List Value} (hs : a.eval s = v) (hown : Own w B e size v xs) {ad : Addr} {m c : Nat} {news : List Value} (hx : a.eval x = .slice (some ad) m c) (hn : news.length = m * size)
    (hc : ∀ j u, news[j]? = some u → w.cell? (ad.add j) = some u) (h1 : ∀ u ∈ news, u.oneCell' = true)
    (hlen : xs.length + news.length ≤ 9223372036854775807) (hbytes : (xs.length + news.length) * bytes ≤ 140737488355328) (hB : B ≤ w.heap.size)
    (K : ∀ v' w', Own w' B e size v' (xs ++ news) → (∀ g, v'.ownBlock = some g → v.ownBlock = some g ∨ w.heap.size ≤ g) → w.grownBy w' v.ownBlock → wpList P ops Q rest (a.put o.dst v') w') : wpList P ops Q (o :: rest) a w :=
  wpList_plain hg fun K' hK' => wp_ownw E s x hop hs hown hx hn hc h1 hlen hbytes hB fun v' w' h2 h3 h4 => hK' _ _ (K v' w' h2 h3 h4)
/-- Rows of unlike elements lie apart. -/
theorem Own.apart {w : World} {B B' sz sz' : Nat} {e e' : TypeId} {v v' : Value} {xs xs' : List Value} (h : Own w B e sz v xs) (k : Own w B' e' sz' v' xs') (hne : e ≠ e') {g : Nat} (hg : v.ownBlock = some g) : v'.ownBlock ≠ some g := fun hv => by
  obtain ⟨c1, h1⟩ := h.typed hg
  obtain ⟨c2, h2⟩ := k.typed hv
  rw [h1] at h2
  exact hne (by injection Option.some.inj h2)
theorem Own.slFo {w : World} {B sz : Nat} {e : TypeId} {v : Value} {xs : List Value} (h : Own w B e sz v xs) {S : Nat → Prop} (hS : ∀ g, v.ownBlock = some g → S g) : Sl S w sz v xs := by
  obtain ⟨n, h⟩ := h
  exact ownsRow_sl h _ hS
theorem Own.set1 {w : World} {B : Nat} {e : TypeId} {g n c : Nat} {xs : List Value} (h : Own w B e 1 (.slice (some ⟨g, 0, none⟩) n c) xs) (i : Nat) (u : Value) : Own (w.setCell ⟨g, i, none⟩ u) B e 1 (.slice (some ⟨g, 0, none⟩) n c) (xs.set i u) := by
  obtain ⟨m, h⟩ := h
  rcases h.2 with ⟨hv, rfl⟩ | ⟨g', cap, cur, hv, hbg, hg, hnc, hcm, hcs, htake⟩
  · cases hv
  · cases hv
    have hl := h.1
    refine ⟨n, by rw [List.length_set]; exact hl, .inr ⟨g, c, cur.setIfInBounds i u, rfl, hbg, heap_setCell_same w g i cur e u hg, hnc, hcm, by simpa using hcs, ?_⟩⟩
    rw [Array.toList_setIfInBounds, ← htake, List.take_set]
/-- The cells of an own row. -/
theorem Own.lay {w : World} {B : Nat} {e : TypeId} {v : Value} {xs : List Value} (h : Own w B e 1 v xs) (hx : xs ≠ []) : ∃ g c cs, v = .slice (some ⟨g, 0, none⟩) xs.length c ∧ B ≤ g ∧ Blk w g cs e ∧ xs.length ≤ c ∧ c ≤ maxLen ∧ (∀ i (hi : i < xs.length), cs[i]? = some xs[i]) := by
  obtain ⟨m, h⟩ := h
  rcases h.2 with ⟨hv, he⟩ | ⟨g', cap, cur, hv, hbg, hg, hnc, hcm, hcs, htake⟩
  · exact absurd (List.length_eq_zero_iff.1 (by have := h.1; rw [he] at this; simpa using this)) hx
  · have hl := h.1
    rw [Nat.mul_one] at hl htake
    subst hl
    refine ⟨g', cap, cur, hv, hbg, hg, hnc, hcm, fun i hi => ?_⟩
    have h1 := congrArg (fun l : List Value => l[i]?) htake
    rw [List.getElem?_take_of_lt hi, List.getElem?_eq_getElem hi] at h1
    simpa using h1

end Go.Proofs.YtmmeofiocbfamaaGreatDoor
namespace Go.Proofs.YtmmeofiocbfamaaGreatDoor
open Go Go.RowKit

theorem wpList_ownw_lit {P : Program} {w : World} {ops : Array Oper} {rest : List Oper} {o : Oper} {a : Act} {Q : Exit → Act → World → Prop} {t e : TypeId} {size bytes : Nat} (E : ElemT P t e size bytes)
    (hg : o.guard = none) (s x : Operand) (hop : o.op = Op.call { callee := Callee.builtin Builtin.append, args := #[s, x], argTypes := #[t, t] })
    {B : Nat} {v : Value} {xs : List Value} (hs : a.eval s = v) (hown : Own w B e size v xs) {cs : Array Value} {m : Nat} (hx : a.eval x = .slice (some ⟨w.heap.size, 0, none⟩) m m) (hm : cs.size = m * size) (h1 : ∀ u ∈ cs.toList, u.oneCell' = true)
    (hlen : xs.length + cs.size ≤ 9223372036854775807) (hbytes : (xs.length + cs.size) * bytes ≤ 140737488355328) (hB : B ≤ w.heap.size)
    (K : ∀ v' w', Own w' B e size v' (xs ++ cs.toList) → (∀ g, v'.ownBlock = some g → v.ownBlock = some g ∨ w.heap.size ≤ g) → w.grownBy w' v.ownBlock → wpList P ops Q rest (a.put o.dst v') w') : wpList P ops Q (o :: rest) a (w.alloc (.cells cs e)) :=
  wpList_ownw E hg s x hop hs (hown.below (Ext.alloc w _)) hx (by simpa using hm) (fun j u hu => by
    rw [Addr.add_lit, cell_of_row _ w.heap.size (0 + j) cs e (0, 0) (heap_alloc_new w _)]
    simpa using hu) h1 (by simpa using hlen) (by simpa using hbytes) (by simp; omega) fun v' w' k1 k2 k3 => K v' w' k1 (fun g hg => (k2 g hg).imp id fun h => by simp at h; omega) (grownBy_of_alloc k3)

theorem placeT : ElemT Tryz.prog 61 82 3 32 := ElemT.mk' Tryz.underlying61 (show _ = some (some (.agg #[.string ByteArray.empty, .int .i64 0, .int .i64 0]), 3, 32) by kernel_rfl) rfl (by decide)

/-- A table that grows. -/
structure WS where
  idx : List Plc
  out : List UInt8
  keys : List ByteArray
  size : Nat
  stems : List ByteArray
def WS.ended (s : WS) : WS := ⟨s.idx ++ [⟨s.keys.headD ⟨#[]⟩, s.out.length, (sealB (blkF (dl s.keys))).length⟩], s.out ++ sealB (blkF (dl s.keys)), [], 0, s.stems⟩
/-- The writer lies at wb. -/
structure WrAt (wb : Nat) (w : World) (s : WS) (xv ov kv sv : Value) : Prop where
  box : Blk w wb #[xv, ov, kv, .int .i64 s.size, sv] 63
  xo : Own w (wb + 1) 82 3 xv (plcs s.idx)
  oo : Own w (wb + 1) 5 1 ov (bc s.out)
  ko : Own w (wb + 1) 9 1 kv (sc s.keys)
  so : Own w (wb + 1) 9 1 sv (sc s.stems)
  ap : ∀ g, kv.ownBlock = some g → sv.ownBlock ≠ some g
section
variable {wb : Nat} {w w' : World} {s : WS} {xv ov kv sv : Value}
theorem WrAt.keep (h : WrAt wb w s xv ov kv sv) (hx : Ext w w') : WrAt wb w' s xv ov kv sv :=
  ⟨h.box.below hx, h.xo.below hx, h.oo.below hx, h.ko.below hx, h.so.below hx, h.ap⟩
theorem WrAt.drew (h : WrAt wb w s xv ov kv sv) : WrAt wb w.drew s xv ov kv sv := h.keep (Ext.drew w)
theorem Own.cellApart {B sz : Nat} {e : TypeId} {v : Value} {xs : List Value} (h : Own w (wb + 1) e sz v xs) (i : Nat) (u : Value) : Own (w.setCell ⟨wb, i, none⟩ u) (wb + 1) e sz v xs :=
  h.keepOwn fun g hg => Below.heap_setCell _ _ _ _ (by have := (h.block g hg).1; show g ≠ wb; omega)
theorem Blk.grownB {r : Option Nat} {cs : Array Value} {e : TypeId} (h : Blk w wb cs e) (hg : w.grownBy w' r) (hr : ∀ g, r = some g → wb < g) : Blk w' wb cs e :=
  (hg.block wb h.lt fun e => by have := hr wb e.symm; omega).trans h
/-- The index grew. -/
theorem WrAt.setIdx (h : WrAt wb w s xv ov kv sv) {xv' : Value} {idx : List Plc} (hg : w.grownBy w' xv.ownBlock) (ho : Own w' (wb + 1) 82 3 xv' (plcs idx)) :
    WrAt wb (w'.setCell ⟨wb, 0, none⟩ xv') { s with idx := idx } xv' ov kv sv :=
  ⟨(h.box.grownB hg fun g e => by have := (h.xo.block g e).1; omega).set_to 0 _ rfl, ho.cellApart (B := 0) 0 _, (h.oo.aside h.xo (by decide) hg).cellApart (B := 0) 0 _, (h.ko.aside h.xo (by decide) hg).cellApart (B := 0) 0 _, (h.so.aside h.xo (by decide) hg).cellApart (B := 0) 0 _, h.ap⟩
theorem WrAt.setOut (h : WrAt wb w s xv ov kv sv) {ov' : Value} {out : List UInt8} (hg : w.grownBy w' ov.ownBlock) (ho : Own w' (wb + 1) 5 1 ov' (bc out)) :
    WrAt wb (w'.setCell ⟨wb, 1, none⟩ ov') { s with out := out } xv ov' kv sv :=
  ⟨(h.box.grownB hg fun g e => by have := (h.oo.block g e).1; omega).set_to 1 _ rfl, (h.xo.aside h.oo (by decide) hg).cellApart (B := 0) 1 _, ho.cellApart (B := 0) 1 _, (h.ko.aside h.oo (by decide) hg).cellApart (B := 0) 1 _, (h.so.aside h.oo (by decide) hg).cellApart (B := 0) 1 _, h.ap⟩
theorem WrAt.setKeys (h : WrAt wb w s xv ov kv sv) {kv' : Value} {keys : List ByteArray} (hg : w.grownBy w' kv.ownBlock) (ho : Own w' (wb + 1) 9 1 kv' (sc keys)) (hw : ∀ g, kv'.ownBlock = some g → kv.ownBlock = some g ∨ w.heap.size ≤ g) :
    WrAt wb (w'.setCell ⟨wb, 2, none⟩ kv') { s with keys := keys } xv ov kv' sv :=
  ⟨(h.box.grownB hg fun g e => by have := (h.ko.block g e).1; omega).set_to 2 _ rfl, (h.xo.aside h.ko (by decide) hg).cellApart (B := 0) 2 _, (h.oo.aside h.ko (by decide) hg).cellApart (B := 0) 2 _, ho.cellApart (B := 0) 2 _,
    (h.so.keepOwn fun g e => hg.block g (h.so.block g e).2 fun e2 => h.ap g e2.symm e).cellApart (B := 0) 2 _, fun g e e2 => by
      rcases hw g e with e3 | e3
      · exact h.ap g e3 e2
      · have := (h.so.block g e2).2; omega⟩
theorem WrAt.setStems (h : WrAt wb w s xv ov kv sv) {sv' : Value} {stems : List ByteArray} (hg : w.grownBy w' sv.ownBlock) (ho : Own w' (wb + 1) 9 1 sv' (sc stems)) (hw : ∀ g, sv'.ownBlock = some g → sv.ownBlock = some g ∨ w.heap.size ≤ g) :
    WrAt wb (w'.setCell ⟨wb, 4, none⟩ sv') { s with stems := stems } xv ov kv sv' :=
  ⟨(h.box.grownB hg fun g e => by have := (h.so.block g e).1; omega).set_to 4 _ rfl, (h.xo.aside h.so (by decide) hg).cellApart (B := 0) 4 _, (h.oo.aside h.so (by decide) hg).cellApart (B := 0) 4 _,
    (h.ko.keepOwn fun g e => hg.block g (h.ko.block g e).2 fun e2 => h.ap g e e2.symm).cellApart (B := 0) 4 _, ho.cellApart (B := 0) 4 _, fun g e e2 => by
      rcases hw g e2 with e3 | e3
      · exact h.ap g e e3
      · have := (h.ko.block g e).2; omega⟩
theorem WrAt.setSize (h : WrAt wb w s xv ov kv sv) (n : Nat) : WrAt wb (w.setCell ⟨wb, 3, none⟩ (.int .i64 n)) { s with size := n } xv ov kv sv :=
  ⟨h.box.set_to 3 _ rfl, h.xo.cellApart (B := 0) 3 _, h.oo.cellApart (B := 0) 3 _, h.ko.cellApart (B := 0) 3 _, h.so.cellApart (B := 0) 3 _, h.ap⟩
theorem WrAt.dropKeys (h : WrAt wb w s xv ov kv sv) : WrAt wb (w.setCell ⟨wb, 2, none⟩ (.slice none 0 0)) { s with keys := [] } xv ov (.slice none 0 0) sv :=
  ⟨h.box.set_to 2 _ rfl, h.xo.cellApart (B := 0) 2 _, h.oo.cellApart (B := 0) 2 _, Own.nil _ _ _ _, h.so.cellApart (B := 0) 2 _, fun g e => by cases e⟩
end
theorem blkF_len (kl : List (List UInt8)) : (blkF kl).length ≤ (blkL 0 [] kl).length + 4 * kl.length + 4 := by
  have he := endsL_len 0 0 [] kl
  unfold blkF
  rw [List.length_append, List.length_append, fours_len, four_length]
  omega

end Go.Proofs.YtmmeofiocbfamaaGreatDoor
namespace Go.Proofs.YtmmeofiocbfamaaGreatDoor
open Go Go.RowKit

set_option maxRecDepth 100000 in
set_option maxHeartbeats 600000 in
theorem end_any (wb : Nat) (s : WS) (xv ov kv sv : Value) (w : World) (h : WrAt wb w s xv ov kv sv) (hne : s.keys ≠ []) (hu : UpK s.keys) (hk : ∀ k ∈ s.keys, k.size ≤ 1000) (hkl : s.keys.length ≤ 1000) (hol : s.out.length ≤ 100000000) (hil : s.idx.length ≤ 100000) :
    Calls Tryz.prog 29 #[.pointer (some ⟨wb, 0, none⟩)] w fun e w' => e = .returned (.tuple #[]) ∧ (∃ xv' ov', WrAt wb w' s.ended xv' ov' (.slice none 0 0) sv) ∧ Below wb w w' := by
  have H := Lib.hid h
  have HOL := Lib.hid hol
  have HWB := Lib.hid h.box.lt
  have HIL := Lib.hid hil
  have HU := Lib.hid hu
  have HBL := Lib.hid (show (blkF (dl s.keys)).length ≤ 2000000 from by
    have h1 := blkF_len (dl s.keys)
    have h2 := blkL_bound 1000 (by decide) 0 [] (dl s.keys) (Nat.zero_le _) fun x hx => by
      obtain ⟨y, hy, rfl⟩ := List.mem_map.1 hx
      rw [show y.data.toList.length = y.size from Array.length_toList]
      exact hk y hy
    have h3 : (dl s.keys).length = s.keys.length := List.length_map _
    have h4 : (dl s.keys).length * (1000 + 20) ≤ 1000 * 1020 := Nat.mul_le_mul (by omega) (Nat.le_refl _)
    omega)
  have HBU := Lib.hid (build_any (S := fun b => wb + 1 ≤ b ∧ b < w.heap.size) kv s.keys w (fun b hb => hb.2) h.ko.sl (by omega) (fun k hk' => by have := hk k hk'; omega) (by
    have h1 : (blkL 0 [] (dl s.keys)).length ≤ (blkF (dl s.keys)).length := by unfold blkF; rw [List.length_append, List.length_append]; omega
    have := HBL.out
    exact (show (blkL 0 [] (dl s.keys)).length ≤ 4000000000 by omega)))
  have HEN := Lib.hid (show s.ended = ⟨s.idx ++ [⟨s.keys.headD ⟨#[]⟩, s.out.length, (sealB (blkF (dl s.keys))).length⟩], s.out ++ sealB (blkF (dl s.keys)), [], 0, s.stems⟩ from rfl)
  rw [show (s.keys.map fun k => k.data.toList) = dl s.keys from rfl] at HBU
  have HSL := Lib.hid (sealB_length (blkF (dl s.keys)))
  generalize blkF (dl s.keys) = bf at *
  obtain ⟨k0, ks, hks⟩ : ∃ k0 ks, s.keys = k0 :: ks := by
    cases e : s.keys with
    | nil => exact absurd e hne
    | cons a b => exact ⟨a, b, rfl⟩
  have HKS := Lib.hid hks
  have hcells := h.box.cells
  obtain ⟨g, gc, gs, hkv, hgB, hgb, hgc, hgm, hg0⟩ := h.ko.lay (by rw [hks]; simp [sc])
  have HG := Lib.hid (show Blk w g gs 9 from hgb)
  have HG0 := Lib.hid (show gs[0]? = some (.string k0) from by
    have := hg0 0 (by rw [hks]; simp [sc])
    rw [this]
    simp [hks, sc])
  rw [sc_len2] at hkv hgc
  subst hkv
  clear hne hu hk hkl hol hil h hgb hgm hg0 hks
  obtain ⟨xo, xn, xc, rfl, hxl, hxc, hxm⟩ := H.out.xo.sl.len
  obtain ⟨oo, oc, rfl, hoc, hom, -, -⟩ := Sl.bytes H.out.oo.sl
  go_enter Tryz.func29, Tryz.ntmps29
  go_wp2_with fail
  refine HBU.out.mono ?_
  clear HBU hcells
  rintro e w1 (⟨-, v1, rfl, ho1, hx1⟩ | ⟨hup, -⟩)
  rotate_left
  · exact absurd HU.out hup
  have HSE := Lib.hid (seal_any v1 bf w1 (ho1.sl.mono fun b hb => hb.2) (by have := HBL.out; omega))
  have HX1 := Lib.hid hx1
  obtain ⟨ao1, n1, c1, rfl, -, -, -⟩ := ho1.sl.len
  clear ho1 hx1
  go_wp2_with fail
  refine HSE.out.mono ?_
  rintro e w2 ⟨v2, rfl, ho2, hx2⟩
  have HX2 := Lib.hid (HX1.out.trans hx2)
  have H2 := Lib.hid (H.out.keep HX2.out)
  have HG2 := Lib.hid (HG.out.below HX2.out)
  have HF2 := Lib.hid (show Own w2 (wb + 1) 5 1 v2 (bc (sealB bf)) from ho2.mono (by have := H.out.box.lt; have := HX1.out.size; omega))
  have HF2b := Lib.hid (fun g hg => (ho2.block g hg).1)
  obtain ⟨fo, fc, rfl, hfc, hfm, -, -⟩ := Sl.bytes ho2.sl
  clear HSE H HG ho2 hx2
  go_wp2_with fail
  obtain ⟨wd, hwd⟩ : ∃ wd, wd = w2.drew := ⟨_, rfl⟩
  have HXd := Lib.hid (show Ext w wd from by rw [hwd]; exact HX2.out.trans (Ext.drew w2))
  have HD := Lib.hid (show WrAt wb wd s (.slice xo xn xc) (.slice oo s.out.length oc) (.slice (some ⟨g, 0, none⟩) s.keys.length gc) sv from by rw [hwd]; exact H2.out.drew)
  have HGd := Lib.hid (show Blk wd g gs 9 from by rw [hwd]; exact HG2.out.drew)
  have HFd := Lib.hid (show Own wd (wb + 1) 5 1 (.slice fo (sealB bf).length fc) (bc (sealB bf)) from by rw [hwd]; exact HF2.out)
  have HNW := Lib.hid (show Value.ownBlock (.slice xo xn xc) ≠ some wb from fun e => by have := (HD.out.xo.block wb e).1; omega)
  have HNG := Lib.hid (show Value.ownBlock (.slice xo xn xc) ≠ some g from fun e => HD.out.xo.apart HD.out.ko (by decide) e rfl)
  clear HX2 H2 HG2 HF2
  refine region_walkL 23 (Kept (fun b => b < wd.heap.size ∧ Value.ownBlock (.slice xo xn xc) ≠ some b) wd) (by rw [← hwd]; exact Kept.refl _ _) (by kernel_rfl) (by kernel_rfl) (fun _ _ d _ _ h => by cases d <;> exact h) ?_
  rw [← hwd]
  clear hwd
  have hA : ∀ W, Kept (fun b => b < wd.heap.size ∧ Value.ownBlock (.slice xo xn xc) ≠ some b) wd W → ∀ i, W.cell? ⟨wb, i, none⟩ = (#[.slice xo xn xc, .slice oo s.out.length oc, .slice (some ⟨g, 0, none⟩) s.keys.length gc, .int .i64 s.size, sv] : Array Value)[i]? := fun W h => (h.blk HD.out.box ⟨HD.out.box.lt, HNW.out⟩).cells
  have hB : ∀ W, Kept (fun b => b < wd.heap.size ∧ Value.ownBlock (.slice xo xn xc) ≠ some b) wd W → W.cell? ⟨g, 0, none⟩ = some (.string k0) := fun W h => by rw [(h.blk HGd.out ⟨HGd.out.lt, HNG.out⟩).cells 0]; exact HG0.out
  have hkp : 0 < s.keys.length := by rw [HKS.out]; simp
  ((refine WalkL.take 0 _ ?_ (by simp only [List.getElem?_toArray, List.getElem?_cons_zero]; rfl) (by kernel_rfl) (by kernel_rfl) (by kernel_rfl) (by rfl) (fun W hW => ?_) ?_; rotate_left; · (go_simp; try with_reducible rfl)); simp only [Act.put, List.setIfInBounds_toArray, List.set_cons_zero, List.set_cons_succ]); ((refine WalkL.take 1 _ ?_ (by simp only [List.getElem?_toArray, List.getElem?_cons_succ, List.getElem?_cons_zero]; rfl) (by kernel_rfl) (by kernel_rfl) (by kernel_rfl) (by rfl) (fun W hW => ?_) ?_; rotate_left; · (go_simp; try with_reducible rfl)); simp only [Act.put, List.setIfInBounds_toArray, List.set_cons_zero, List.set_cons_succ]); ((refine WalkL.take 2 _ ?_ (by simp only [List.getElem?_toArray, List.getElem?_cons_succ, List.getElem?_cons_zero]; rfl) (by kernel_rfl) (by kernel_rfl) (by kernel_rfl) (by rfl) (fun W hW => ?_) ?_; rotate_left; · (go_simp; try with_reducible rfl)); simp only [Act.put, List.setIfInBounds_toArray, List.set_cons_zero, List.set_cons_succ]); ((refine WalkL.take 3 _ ?_ (by simp only [List.getElem?_toArray, List.getElem?_cons_succ, List.getElem?_cons_zero]; rfl) (by kernel_rfl) (by kernel_rfl) (by kernel_rfl) (by rfl) (fun W hW => ?_) ?_; rotate_left; · (go_simp; try with_reducible rfl)); simp only [Act.put, List.setIfInBounds_toArray, List.set_cons_zero, List.set_cons_succ]); ((refine WalkL.take 4 _ ?_ (by simp only [List.getElem?_toArray, List.getElem?_cons_succ, List.getElem?_cons_zero]; rfl) (by kernel_rfl) (by kernel_rfl) (by kernel_rfl) (by rfl) (fun W hW => ?_) ?_; rotate_left; · (go_simp; try with_reducible rfl)); simp only [Act.put, List.setIfInBounds_toArray, List.set_cons_zero, List.set_cons_succ]); ((refine WalkL.take 5 _ ?_ (by simp only [List.getElem?_toArray, List.getElem?_cons_succ, List.getElem?_cons_zero]; rfl) (by kernel_rfl) (by kernel_rfl) (by kernel_rfl) (by rfl) (fun W hW => ?_) ?_; rotate_left; · (go_simp; try with_reducible rfl)); simp only [Act.put, List.setIfInBounds_toArray, List.set_cons_zero, List.set_cons_succ]); ((refine WalkL.take 6 _ ?_ (by simp only [List.getElem?_toArray, List.getElem?_cons_succ, List.getElem?_cons_zero]; rfl) (by kernel_rfl) (by kernel_rfl) (by kernel_rfl) (by rfl) (fun W hW => ?_) ?_; rotate_left; · (go_simp; try with_reducible rfl)); simp only [Act.put, List.setIfInBounds_toArray, List.set_cons_zero, List.set_cons_succ]); ((refine WalkL.take 7 _ ?_ (by simp only [List.getElem?_toArray, List.getElem?_cons_succ, List.getElem?_cons_zero]; rfl) (by kernel_rfl) (by kernel_rfl) (by kernel_rfl) (by rfl) (fun W hW => ?_) ?_; rotate_left; · (go_simp; try with_reducible rfl)); simp only [Act.put, List.setIfInBounds_toArray, List.set_cons_zero, List.set_cons_succ]); ((refine WalkL.take 8 _ ?_ (by simp only [List.getElem?_toArray, List.getElem?_cons_succ, List.getElem?_cons_zero]; rfl) (by kernel_rfl) (by kernel_rfl) (by kernel_rfl) (by rfl) (fun W hW => ?_) ?_; rotate_left; · (go_simp; try with_reducible rfl)); simp only [Act.put, List.setIfInBounds_toArray, List.set_cons_zero, List.set_cons_succ]); ((refine WalkL.take 9 _ ?_ (by simp only [List.getElem?_toArray, List.getElem?_cons_succ, List.getElem?_cons_zero]; rfl) (by kernel_rfl) (by kernel_rfl) (by kernel_rfl) (by rfl) (fun W hW => ?_) ?_; rotate_left; · (go_simp; try with_reducible rfl)); simp only [Act.put, List.setIfInBounds_toArray, List.set_cons_zero, List.set_cons_succ]); ((refine WalkL.take 10 _ ?_ (by simp only [List.getElem?_toArray, List.getElem?_cons_succ, List.getElem?_cons_zero]; rfl) (by kernel_rfl) (by kernel_rfl) (by kernel_rfl) (by rfl) (fun W hW => ?_) ?_; rotate_left; · (go_simp; try with_reducible rfl)); simp only [Act.put, List.setIfInBounds_toArray, List.set_cons_zero, List.set_cons_succ]); ((refine WalkL.take 11 _ ?_ (by simp only [List.getElem?_toArray, List.getElem?_cons_succ, List.getElem?_cons_zero]; rfl) (by kernel_rfl) (by kernel_rfl) (by kernel_rfl) (by rfl) (fun W hW => ?_) ?_; rotate_left; · (go_simp; try with_reducible rfl)); simp only [Act.put, List.setIfInBounds_toArray, List.set_cons_zero, List.set_cons_succ]); ((refine WalkL.take 12 _ ?_ (by simp only [List.getElem?_toArray, List.getElem?_cons_succ, List.getElem?_cons_zero]; rfl) (by kernel_rfl) (by kernel_rfl) (by kernel_rfl) (by rfl) (fun W hW => ?_) ?_; rotate_left; · (go_simp; try with_reducible rfl)); simp only [Act.put, List.setIfInBounds_toArray, List.set_cons_zero, List.set_cons_succ]); ((refine WalkL.take 13 _ ?_ (by simp only [List.getElem?_toArray, List.getElem?_cons_succ, List.getElem?_cons_zero]; rfl) (by kernel_rfl) (by kernel_rfl) (by kernel_rfl) (by rfl) (fun W hW => ?_) ?_; rotate_left; · (go_simp; try with_reducible rfl)); simp only [Act.put, List.setIfInBounds_toArray, List.set_cons_zero, List.set_cons_succ]); ((refine WalkL.take 14 _ ?_ (by simp only [List.getElem?_toArray, List.getElem?_cons_succ, List.getElem?_cons_zero]; rfl) (by kernel_rfl) (by kernel_rfl) (by kernel_rfl) (by rfl) (fun W hW => ?_) ?_; rotate_left; · (go_simp; try with_reducible rfl)); simp only [Act.put, List.setIfInBounds_toArray, List.set_cons_zero, List.set_cons_succ]); ((refine WalkL.take 15 _ ?_ (by simp only [List.getElem?_toArray, List.getElem?_cons_succ, List.getElem?_cons_zero]; rfl) (by kernel_rfl) (by kernel_rfl) (by kernel_rfl) (by rfl) (fun W hW => ?_) ?_; rotate_left; · (go_simp; try with_reducible rfl)); simp only [Act.put, List.setIfInBounds_toArray, List.set_cons_zero, List.set_cons_succ]); ((refine WalkL.take 16 _ ?_ (by simp only [List.getElem?_toArray, List.getElem?_cons_succ, List.getElem?_cons_zero]; rfl) (by kernel_rfl) (by kernel_rfl) (by kernel_rfl) (by rfl) (fun W hW => ?_) ?_; rotate_left; · (go_simp; try with_reducible rfl)); simp only [Act.put, List.setIfInBounds_toArray, List.set_cons_zero, List.set_cons_succ]); ((refine WalkL.take 17 _ ?_ (by simp only [List.getElem?_toArray, List.getElem?_cons_succ, List.getElem?_cons_zero]; rfl) (by kernel_rfl) (by kernel_rfl) (by kernel_rfl) (by rfl) (fun W hW => ?_) ?_; rotate_left; · (go_simp; try with_reducible rfl)); simp only [Act.put, List.setIfInBounds_toArray, List.set_cons_zero, List.set_cons_succ]); ((refine WalkL.take 18 _ ?_ (by simp only [List.getElem?_toArray, List.getElem?_cons_succ, List.getElem?_cons_zero]; rfl) (by kernel_rfl) (by kernel_rfl) (by kernel_rfl) (by rfl) (fun W hW => ?_) ?_; rotate_left; · (go_simp; try with_reducible rfl)); simp only [Act.put, List.setIfInBounds_toArray, List.set_cons_zero, List.set_cons_succ])
  clear hA hB
  refine WalkL.one 19 (by kernel_rfl) ?_
  refine ⟨_, (by simp only [List.getElem?_toArray, List.getElem?_cons_succ, List.getElem?_cons_zero]; rfl), by rfl, fun K hK => ?_⟩
  go_simp
  refine hK.out _ _ ((Kept.refl _ wd).alloc (fun b hb => hb.1) _) ?_
  clear hK
  refine WalkL.one 20 (by kernel_rfl) ?_
  refine ⟨_, (by simp only [List.getElem?_toArray, List.getElem?_cons_succ, List.getElem?_cons_zero]; rfl), by rfl, fun K hK => ?_⟩
  refine wp_ownw placeT (.tmp 19) (.tmp 34) rfl rfl (HD.out.xo.below (Ext.alloc wd _)) rfl (m := 1) (news := [.string k0, .int .i64 s.out.length, .int .i64 (sealB bf).length]) rfl (fun j u hu => ?_) (by simp [Value.oneCell']) (by have := HIL.out; unfold plcs; rw [flat_length plC_length]; simp; omega) (by have := HIL.out; unfold plcs; rw [flat_length plC_length]; simp; omega) (by simp; have := HD.out.box.lt; omega) (fun v5 w5 hown5 hb5 hgr5 => ?_)
  · rw [Addr.add_lit, cell_of_row _ wd.heap.size (0 + j) #[.string k0, .int .i64 s.out.length, .int .i64 (sealB bf).length] 82 (0, 0) (heap_alloc_new wd _)]
    simpa using hu
  have hgr := grownBy_of_alloc hgr5
  have hkk : Kept (fun b => b < wd.heap.size ∧ Value.ownBlock (.slice xo xn xc) ≠ some b) wd w5 := ⟨hgr.os, hgr.tape, hgr.output, hgr.size, fun b hb => hgr.block b hb.1 fun e => hb.2 e.symm⟩
  refine hK.out _ _ hkk ?_
  clear hK
  simp only [Act.put, List.setIfInBounds_toArray, List.set_cons_zero, List.set_cons_succ]
  have HN5 := Lib.hid (HD.out.setIdx hgr (show Own w5 (wb + 1) 82 3 v5 (plcs (s.idx ++ [⟨k0, s.out.length, (sealB bf).length⟩])) from by unfold plcs; rw [List.flatMap_append]; exact hown5))
  have HF5 := Lib.hid ((HFd.out.aside HD.out.xo (by decide) hgr).cellApart (B := 0) 0 v5)
  have HX5 := Lib.hid (show Below wb w (w5.setCell ⟨wb, 0, none⟩ v5) from Below.setCell (Below.trans (HXd.out.mono (Nat.le_of_lt HWB.out)) ⟨hgr.os, hgr.tape, hgr.output, hgr.size, fun b hb => hgr.block b (by have := HD.out.box.lt; omega) fun e => by have := (HD.out.xo.block b e.symm).1; omega⟩) (Nat.le_refl _) _)
  have hb5 := HD.out.box.grownB hgr fun g e => by have := (HD.out.xo.block g e).1; omega
  have f5 := hb5.free
  have r5 := hb5.cells
  obtain ⟨xo5, xn5, xc5, rfl, -, -, -⟩ := hown5.sl.len
  clear hgr5 hgr hkk hown5 hb5 HD HFd HGd HXd
  ((refine WalkL.take 21 _ ?_ (by simp only [List.getElem?_toArray, List.getElem?_cons_succ, List.getElem?_cons_zero]; rfl) (by kernel_rfl) (by kernel_rfl) (by kernel_rfl) (by rfl) (fun W hW => ?_) ?_; rotate_left; · (go_simp; try with_reducible rfl)); simp only [Act.put, List.setIfInBounds_toArray, List.set_cons_zero, List.set_cons_succ]); ((refine WalkL.take 22 _ ?_ (by simp only [List.getElem?_toArray, List.getElem?_cons_succ, List.getElem?_cons_zero]; rfl) (by kernel_rfl) (by kernel_rfl) (by kernel_rfl) (by rfl) (fun W hW => ?_) ?_; rotate_left; · (go_simp; try with_reducible rfl)); simp only [Act.put, List.setIfInBounds_toArray, List.set_cons_zero, List.set_cons_succ])
  refine WalkL.last (by kernel_rfl) (by kernel_rfl) ?_
  refine ⟨_, (by simp only [List.getElem?_toArray, List.getElem?_cons_succ, List.getElem?_cons_zero]; rfl), by rfl, fun K hK => ?_⟩
  go_simp
  refine hK.out _ _ ?_
  clear hK f5 r5
  generalize w5.setCell ⟨wb, 0, none⟩ (.slice xo5 xn5 xc5) = w6 at *
  have HO5 := Lib.hid (show Own w6 (wb + 1) 5 1 (.slice oo s.out.length oc) (bc s.out) from HN5.out.oo)
  have hcells := HN5.out.box.cells
  have hfree := HN5.out.box.free
  go_wp2_with (at_builtin; go_must (refine wpList_own bytesT rfl (.tmp 42) (.tmp 43) rfl rfl HO5.out rfl HF5.out.sl (bc_one _) (by have := HOL.out; have := HBL.out; have := HSL.out; rw [bc_length, bc_length]; omega) (by have := HOL.out; have := HBL.out; have := HSL.out; rw [bc_length, bc_length]; omega) (by have := HN5.out.box.lt; omega) ?_; intro v7 w7 hown7 hb7 hgr7; have HB7 := Lib.hid (HN5.out.box.grownB hgr7 fun g e => by have := (HO5.out.block g e).1; omega); have f7 := HB7.out.free; have r7 := HB7.out.cells; have HN7 := Lib.hid (HN5.out.setOut hgr7 (show Own w7 (wb + 1) 5 1 v7 (bc (s.out ++ sealB bf)) from by rw [bc_append]; exact hown7)); have HX7 := Lib.hid (show Below wb w (w7.setCell ⟨wb, 1, none⟩ v7) from Below.setCell (Below.trans HX5.out (hb7.mono (Nat.le_succ _))) (Nat.le_refl _) _); obtain ⟨oo7, on7, oc7, rfl, -, -, -⟩ := hown7.sl.len; clear hgr7 hown7 hb7 HN5 HF5 HX5 HO5 HB7 hcells hfree))
  go_end0
  refine ⟨rfl, ⟨.slice xo5 xn5 xc5, .slice oo7 on7 oc7, ?_⟩, ?_⟩
  · have := (HN7.out.dropKeys).setSize 0
    rw [HEN.out, HKS.out]
    exact this
  · exact (HX7.out.setCell (Nat.le_refl _) _).setCell (Nat.le_refl _) _

end Go.Proofs.YtmmeofiocbfamaaGreatDoor
