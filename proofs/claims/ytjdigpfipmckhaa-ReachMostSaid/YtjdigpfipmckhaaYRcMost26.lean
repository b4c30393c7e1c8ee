/- Lemmas for the claim, no condition. -/
import Derived.Test.YtjdigpfipmckhaaYRcMost25
import Derived.Test.YtjdigpfipmckhaaYRcMost16
namespace Go.Proofs.Ytjdigpfipmckhaa
open Go Go.RowKit Go.Maps
structure Box {α : Type} (e ee : TypeId) (sz : Nat) (El : (Nat → Prop) → World → α → Prop) (enc : α → List Value) (rp lo : Nat) (pre : List Value) (w : World) (q : List α) (pv : Value) : Prop where
  box : Blk w rp (pre ++ [pv]).toArray e
  row : Own w lo ee sz pv (q.flatMap enc)
  parts : ∀ x ∈ q, El (fun b => (lo ≤ b ∧ b < w.heap.size) ∧ pv.ownBlock ≠ some b) w x
section
variable {α : Type} {e ee : TypeId} {sz : Nat} {El : (Nat → Prop) → World → α → Prop} {enc : α → List Value} {rp lo tp n0 : Nat} {pre : List Value} {w w' w7 : World} {q : List α} {pv v7 : Value} {x : α}
theorem Box.keep (hE : ∀ {S : Nat → Prop} {w w' : World} {x : α}, El S w x → Same S w w' → El S w' x) (hM : ∀ {S S' : Nat → Prop} {w : World} {x : α}, El S w x → (∀ b, S b → S' b) → El S' w x)
    (h : Box e ee sz El enc rp lo pre w q pv) (hk : Kept (fun b => b < w.heap.size ∧ lo ≤ b) w w') (hr : w'.heap[rp]? = w.heap[rp]?) : Box e ee sz El enc rp lo pre w' q pv :=
  ⟨hr.trans h.box, h.row.keepOwn fun g hg => hk.block g ⟨(h.row.block g hg).2, (h.row.block g hg).1⟩,
    fun x hx => hM (hE (h.parts x hx) fun b hb => hk.block b ⟨hb.1.2, hb.1.1⟩) fun b hb => ⟨⟨hb.1.1, Nat.lt_of_lt_of_le hb.1.2 hk.size⟩, hb.2⟩⟩
theorem Box.add (hE : ∀ {S : Nat → Prop} {w w' : World} {x : α}, El S w x → Same S w w' → El S w' x) (hM : ∀ {S S' : Nat → Prop} {w : World} {x : α}, El S w x → (∀ b, S b → S' b) → El S' w x)
    (h : Box e ee sz El enc rp lo pre w q pv) (hrl : rp < lo) (hk : ∀ b, b < w.heap.size → pv.ownBlock ≠ some b → w7.heap[b]? = w.heap[b]?) (hz : w.heap.size ≤ w7.heap.size)
    (ho : Own w7 lo ee sz v7 (q.flatMap enc ++ enc x)) (hb : ∀ g, v7.ownBlock = some g → pv.ownBlock = some g ∨ w.heap.size ≤ g) (hr : El (fun b => n0 ≤ b ∧ b < w.heap.size) w x) (hn0 : lo ≤ n0) (hpv : ∀ g, pv.ownBlock = some g → g < n0) :
    Box e ee sz El enc rp lo pre (w7.setCell ⟨rp, pre.length, none⟩ v7) (q ++ [x]) v7 := by
  have hne : pv.ownBlock ≠ some rp := fun e => by have := (h.row.block rp e).1; omega
  have hs : Same (fun b => (lo ≤ b ∧ b < w.heap.size) ∧ pv.ownBlock ≠ some b) w (w7.setCell ⟨rp, pre.length, none⟩ v7) := fun b hb' => (Below.heap_setCell w7 _ _ b (by have := hb'.1.1; show b ≠ rp; omega)).trans (hk b hb'.1.2 hb'.2)
  have hm : ∀ b, ((lo ≤ b ∧ b < w.heap.size) ∧ pv.ownBlock ≠ some b) → ((lo ≤ b ∧ b < (w7.setCell ⟨rp, pre.length, none⟩ v7).heap.size) ∧ v7.ownBlock ≠ some b) := fun b hb' => ⟨⟨hb'.1.1, by simp; exact Nat.lt_of_lt_of_le hb'.1.2 hz⟩, fun e => by
    rcases hb b e with e | e
    · exact hb'.2 e
    · have := hb'.1.2; omega⟩
  refine ⟨?_, ?_, fun y hy => ?_⟩
  · have hb7 : Blk w7 rp (pre ++ [pv]).toArray e := (hk rp h.box.lt hne).trans h.box
    exact hb7.set_to pre.length _ (by simp)
  · rw [List.flatMap_append]
    exact (show Own w7 lo ee sz v7 (q.flatMap enc ++ [x].flatMap enc) from by simpa using ho).keepOwn fun g hg => Below.heap_setCell _ _ _ _ (by have := (ho.block g hg).1; show g ≠ rp; omega)
  · rcases List.mem_append.1 hy with hy | hy
    · exact hM (hE (h.parts y hy) hs) hm
    · obtain rfl := List.mem_singleton.1 hy
      have h2 : ∀ b, (n0 ≤ b ∧ b < w.heap.size) → ((lo ≤ b ∧ b < w.heap.size) ∧ pv.ownBlock ≠ some b) := fun b hb' => ⟨⟨Nat.le_trans hn0 hb'.1, hb'.2⟩, fun e => by have := hpv b e; omega⟩
      exact hM (hE (hM hr h2) hs) hm
end
def ElR (S : Nat → Prop) (w : World) (x : (ByteArray × RT) × Value) : Prop := RTAt S w x.1.2 x.2
def ElT (S : Nat → Prop) (w : World) (x : TyS × Value) : Prop := RelsAt S w x.1.rels x.2
theorem ElR.same {S : Nat → Prop} {w w' : World} {x : (ByteArray × RT) × Value} (h : ElR S w x) (hs : Same S w w') : ElR S w' x := RTAt.same h hs
theorem ElR.mono {S S' : Nat → Prop} {w : World} {x : (ByteArray × RT) × Value} (h : ElR S w x) (hs : ∀ b, S b → S' b) : ElR S' w x := RTAt.mono h hs
theorem ElT.same {S : Nat → Prop} {w w' : World} {x : TyS × Value} (h : ElT S w x) (hs : Same S w w') : ElT S w' x := RelsAt.same h hs
theorem ElT.mono {S S' : Nat → Prop} {w : World} {x : TyS × Value} (h : ElT S w x) (hs : ∀ b, S b → S' b) : ElT S' w x := RelsAt.mono h hs
abbrev TyBox := Box (α := (ByteArray × RT) × Value) 62 69 5 ElR relC
abbrev ScBox := Box (α := TyS × Value) 29 62 2 ElT tyC
theorem TyBox.keep {rp lo : Nat} {pre : List Value} {w w' : World} {q : List ((ByteArray × RT) × Value)} {pv : Value} (h : TyBox rp lo pre w q pv) (hk : Kept (fun b => b < w.heap.size ∧ lo ≤ b) w w') (hr : w'.heap[rp]? = w.heap[rp]?) : TyBox rp lo pre w' q pv :=
  Box.keep (El := ElR) (fun h hs => h.same hs) (fun h hs => h.mono hs) h hk hr
theorem TyBox.add {rp lo n0 : Nat} {pre : List Value} {w w7 : World} {q : List ((ByteArray × RT) × Value)} {pv v7 : Value} {x : (ByteArray × RT) × Value} (h : TyBox rp lo pre w q pv) (hrl : rp < lo) (hk : ∀ b, b < w.heap.size → pv.ownBlock ≠ some b → w7.heap[b]? = w.heap[b]?) (hz : w.heap.size ≤ w7.heap.size)
    (ho : Own w7 lo 69 5 v7 (q.flatMap relC ++ relC x)) (hb : ∀ g, v7.ownBlock = some g → pv.ownBlock = some g ∨ w.heap.size ≤ g) (hr : ElR (fun b => n0 ≤ b ∧ b < w.heap.size) w x) (hn0 : lo ≤ n0) (hpv : ∀ g, pv.ownBlock = some g → g < n0) :
    TyBox rp lo pre (w7.setCell ⟨rp, pre.length, none⟩ v7) (q ++ [x]) v7 :=
  Box.add (El := ElR) (fun h hs => h.same hs) (fun h hs => h.mono hs) h hrl hk hz ho hb hr hn0 hpv
theorem ScBox.keep {rp lo : Nat} {pre : List Value} {w w' : World} {q : List (TyS × Value)} {pv : Value} (h : ScBox rp lo pre w q pv) (hk : Kept (fun b => b < w.heap.size ∧ lo ≤ b) w w') (hr : w'.heap[rp]? = w.heap[rp]?) : ScBox rp lo pre w' q pv :=
  Box.keep (El := ElT) (fun h hs => h.same hs) (fun h hs => h.mono hs) h hk hr
theorem ScBox.add {rp lo n0 : Nat} {pre : List Value} {w w7 : World} {q : List (TyS × Value)} {pv v7 : Value} {x : TyS × Value} (h : ScBox rp lo pre w q pv) (hrl : rp < lo) (hk : ∀ b, b < w.heap.size → pv.ownBlock ≠ some b → w7.heap[b]? = w.heap[b]?) (hz : w.heap.size ≤ w7.heap.size)
    (ho : Own w7 lo 62 2 v7 (q.flatMap tyC ++ tyC x)) (hb : ∀ g, v7.ownBlock = some g → pv.ownBlock = some g ∨ w.heap.size ≤ g) (hr : ElT (fun b => n0 ≤ b ∧ b < w.heap.size) w x) (hn0 : lo ≤ n0) (hpv : ∀ g, pv.ownBlock = some g → g < n0) :
    ScBox rp lo pre (w7.setCell ⟨rp, pre.length, none⟩ v7) (q ++ [x]) v7 :=
  Box.add (El := ElT) (fun h hs => h.same hs) (fun h hs => h.mono hs) h hrl hk hz ho hb hr hn0 hpv
def nmD : ByteArray := ⟨#[100, 111, 99]⟩
def nmG : ByteArray := ⟨#[103, 114, 111, 117, 112]⟩
def nmU : ByteArray := ⟨#[117, 115, 101, 114]⟩
def tyNs : List ByteArray := [nmD, nmG, nmU]
def TopR (own : List ByteArray) (r : RT) : Prop := GoodR own 2 r ∨ ∃ r0, GoodR own 2 r0 ∧ r0.k ≠ 4 ∧ r = .mk 4 ⟨#[]⟩ ⟨#[]⟩ [.mk 1 ⟨#[]⟩ ⟨#[]⟩ [], r0]
def GoodT (t : TyS) : Prop := ∃ m, 2 ≤ m ∧ m ≤ 4 ∧ t.rels.map (·.1) = relNs.take m ∧ ∀ r ∈ t.rels, TopR (relNs.take m) r.2
def GoodS (ts : List TyS) : Prop := (ts.length = 2 ∨ ts.length = 3) ∧ ts.map (·.name) = tyNs.take ts.length ∧ ∀ t ∈ ts, GoodT t
end Go.Proofs.Ytjdigpfipmckhaa
namespace Go.Proofs.Ytjdigpfipmckhaa
open Go Go.RowKit Go.Maps
theorem take_sl {w : World} {B : Nat} {S : Nat → Prop} {m : Nat} (h : Blk w B #[.string nmV, .string nmO, .string nmP, .string nmM] 9) (hm : m ≤ 4) (hS : S B) : Sl S w 1 (.slice (some ⟨B, 0, none⟩) m 4) (txs (relNs.take m)) := by
  refine ⟨some ⟨B, 0, none⟩, m, 4, rfl, ?_, hm, by decide, fun e => (by cases e), fun _ => ⟨B, 0, rfl, hS, fun j u hu => ?_⟩⟩
  · rw [txs_length, List.length_take]; show min m 4 = _; omega
  · rw [Nat.zero_add, h.cells]
    have hj : j < ((txs (relNs.take m)).length) := (List.getElem?_eq_some_iff.1 hu).1
    rw [txs_length, List.length_take] at hj
    have hjm : j < m := by omega
    have hj4 : j < 4 := Nat.lt_of_lt_of_le hjm hm
    unfold txs at hu
    rw [List.getElem?_map, List.getElem?_take_of_lt hjm] at hu
    match j, hj4 with
    | 0, _ => exact hu
    | 1, _ => exact hu
    | 2, _ => exact hu
    | 3, _ => exact hu
theorem rel_names (i : Nat) (hi : i < 3) : ∃ nm, tyNs[i]? = some nm := ⟨tyNs[i]'hi, List.getElem?_eq_getElem _⟩
set_option maxRecDepth 100000 in
set_option maxHeartbeats 3000000 in
theorem mkSchema_any (tp : Nat) (w : World) (h : Tp w tp) : Calls Try.prog 7 #[.pointer (some ⟨tp, 0, none⟩)] w fun e w' => ∃ (ts : List TyS) (tv : Value), e = .returned (.agg #[tv]) ∧ GoodS ts ∧ TysAt (fun b => w.heap.size ≤ b ∧ b < w'.heap.size) w' ts tv ∧ Tp w' tp ∧ KT tp w w' := by
  have HLT := Lib.hid h.lt
  obtain ⟨wa, hwa⟩ : ∃ x, x = w.alloc (.cells #[.slice none 0 0] 29) := ⟨_, rfl⟩
  obtain ⟨wb, hwb⟩ : ∃ x, x = wa.alloc (.cells #[.slice none 0 0] 29) := ⟨_, rfl⟩
  obtain ⟨wc, hwc⟩ : ∃ x, x = wb.alloc (.cells #[.string nmD, .string nmG, .string nmU] 9) := ⟨_, rfl⟩
  have ea : wa.heap.size = w.heap.size + 1 := by rw [hwa]; simp
  have eb : wb.heap.size = w.heap.size + 2 := by rw [hwb]; simp [ea]
  have xa : Ext w wa := by rw [hwa]; exact Ext.alloc _ _
  have xb : Ext wa wb := by rw [hwb]; exact Ext.alloc _ _
  have xc : Ext wb wc := by rw [hwc]; exact Ext.alloc _ _
  have wcR := Lib.hid (show Blk wc w.heap.size #[.slice none 0 0] 29 from Blk.below (by rw [hwa]; exact Blk.made _ _ _) (xb.trans xc))
  have wcS := Lib.hid (show Blk wc (w.heap.size + 1) #[.slice none 0 0] 29 from Blk.below (by rw [hwb, ← ea]; exact Blk.made _ _ _) xc)
  have wcN := Lib.hid (show Blk wc (w.heap.size + 2) #[.string nmD, .string nmG, .string nmU] 9 from by rw [hwc, ← eb]; exact Blk.made _ _ _)
  have wcT := Lib.hid (h.ext (xa.trans (xb.trans xc)))
  have wcK := Lib.hid (KT.of (tp := tp) (xa.trans (xb.trans xc)))
  have wcB := Lib.hid (show ScBox (w.heap.size + 1) (w.heap.size + 3) [] wc [] (.slice none 0 0) from ⟨wcS.out, Own.nil _ _ _ _, by simp⟩)
  clear xa xb xc ea eb h wcS
  subst hwc hwb hwa
  unfold nmD nmG nmU at *
  go_enter Try.func7, Try.ntmps7
  go_wp2_with fail
  obtain ⟨wc, hwc⟩ : ∃ x, x = ((w.alloc (.cells #[.slice none 0 0] 29)).alloc (.cells #[.slice none 0 0] 29)).alloc (.cells #[.string ⟨#[100, 111, 99]⟩, .string ⟨#[103, 114, 111, 117, 112]⟩, .string ⟨#[117, 115, 101, 114]⟩] 9) := ⟨_, rfl⟩
  rw [← hwc] at wcR wcN wcT wcK wcB ⊢
  clear hwc
  go_loopw [5] (fun iv wr => ∃ (q : List (TyS × Value)) (tv : Value), iv = .int .i64 q.length ∧ q.length ≤ 3 ∧ ScBox (w.heap.size + 1) (w.heap.size + 3) [] wr q tv ∧ (q.map (·.1)).map (·.name) = tyNs.take q.length ∧ (∀ x ∈ q, GoodT x.1) ∧ Blk wr w.heap.size #[.slice none 0 0] 29 ∧ Blk wr (w.heap.size + 2) #[.string nmD, .string nmG, .string nmU] 9 ∧ Tp wr tp ∧ KT tp w wr) (fun iv _ => 3 - (intOf iv).toNat)
  case atStart => exact ⟨[], _, rfl, by simp, wcB.out, rfl, by simp, wcR.out, wcN.out, wcT.out, wcK.out⟩
  case round =>
    obtain ⟨q, tv, rfl, hq3, hbx, hnm, hgt, hbr, hbn, htp, hkt⟩ := hrel
    have HNX := Lib.hid (next_any tp 2 wr htp (by decide) (by decide))
    have HQ3 := Lib.hid hq3
    have HNM := Lib.hid hnm
    have HGT := Lib.hid hgt
    have wrB := Lib.hid hbx
    have wrR := Lib.hid hbr
    have wrN := Lib.hid hbn
    have wrK := Lib.hid hkt
    clear wcR wcN wcT wcK wcB hbx hnm hgt hbr hbn htp hkt
    generalize hql : q.length = i at *
    have HQL := Lib.hid hql
    clear hql
    go_wp2_with fail
    refine HNX.out.mono ?_
    rintro e w1 ⟨k1, rfl, hk1, htp1, hkt1⟩
    have w1B := Lib.hid (ScBox.keep wrB.out (Kept.mono hkt1 fun b (hb : b < wr.heap.size ∧ w.heap.size + 3 ≤ b) => ⟨hb.1, by have := HLT.out; omega⟩) (hkt1.block _ ⟨wrB.out.box.lt, by have := HLT.out; omega⟩))
    have w1R := Lib.hid (hkt1.blk wrR.out (by have := HLT.out; omega))
    have w1N := Lib.hid (hkt1.blk wrN.out (by have := HLT.out; omega))
    have w1K := Lib.hid (KT.trans wrK.out hkt1)
    have w1T := Lib.hid htp1
    clear htp1 hkt1 HNX wrB wrR wrN wrK
    have hwk : wrap64 (2 + (k1 : Int)) = 2 + (k1 : Int) := wrap_in _ (by omega) (by omega)
    have hwk' : IntKind.i64.wrap (2 + (k1 : Int)) = 2 + (k1 : Int) := IntWalk.i64_in _ (by omega)
    by_cases hlt : (i : Int) < 2 + (k1 : Int)
    · have HI3 := Lib.hid (show i < 3 from by omega)
      have hi3 := HI3.out
      obtain ⟨nm, hnmi⟩ := rel_names i hi3
      have hnc : w1.cell? ⟨w.heap.size + 2, i, none⟩ = some (.string nm) := by
        rw [w1N.out.cells]
        match i, hi3, hnmi with
        | 0, _, h => injection h with h; subst h; rfl
        | 1, _, h => injection h with h; subst h; rfl
        | 2, _, h => injection h with h; subst h; rfl
      have HNI := Lib.hid hnmi
      have hi0 : (0 : Int) ≤ (i : Int) := by omega
      have hi33 : (i : Int) < 3 := by omega
      have HK1 := Lib.hid hk1
      clear hnmi
      obtain ⟨w2, hw2⟩ : ∃ x, x = w1.alloc (.cells #[.string nm, .slice none 0 0] 62) := ⟨_, rfl⟩
      have x12 : Ext w1 w2 := by rw [hw2]; exact Ext.alloc _ _
      have HRL := Lib.hid (mkRels_any w2)
      have w2X := Lib.hid (show Blk w2 w1.heap.size #[.string nm, .slice none 0 0] 62 from by rw [hw2]; exact Blk.made _ _ _)
      have X12 := Lib.hid x12
      subst hw2
      clear x12
      go_wp2_with fail
      refine HRL.out.mono ?_
      rintro e w3 ⟨rfl, hb3, hx3⟩
      have w3T := Lib.hid (w1T.out.ext (Ext.trans X12.out hx3))
      have HNX := Lib.hid (next_any tp 3 w3 w3T.out (by decide) (by decide))
      have X13 := Lib.hid (Ext.trans X12.out hx3)
      have w3X := Lib.hid (w2X.out.below hx3)
      have w3L := Lib.hid hb3
      clear hb3 hx3 HRL w2X X12 hnc
      go_wp2_with fail
      refine HNX.out.mono ?_
      rintro e w4 ⟨k4, rfl, hk4, htp4, hkt4⟩
      have w4T := Lib.hid htp4
      have HX1 := Lib.hid (show w.heap.size + 3 ≤ w1.heap.size from w1N.out.lt)
      have w4K' := Lib.hid (KT.trans (KT.of X13.out) hkt4)
      have w4X := Lib.hid (hkt4.blk w3X.out (by have := HLT.out; have := HX1.out; omega))
      have w4L := Lib.hid (hkt4.blk w3L.out (by have := HLT.out; have := HX1.out; simp; omega))
      clear htp4 hkt4 HNX w3X w3L w3T
      have hm1 : wrap64 (2 + (k4 : Int)) = 2 + (k4 : Int) := wrap_in _ (by omega) (by omega)
      have hm2 : IntKind.i64.wrap (2 + (k4 : Int)) = 2 + (k4 : Int) := IntWalk.i64_in _ (by omega)
      have hm3 : (0 : Int) ≤ 2 + (k4 : Int) := by omega
      have hm4 : 2 + (k4 : Int) ≤ 4 := by omega
      go_wp2_with fail
      obtain ⟨m, hm⟩ : ∃ m : Nat, m = 2 + k4 := ⟨_, rfl⟩
      have HM4 := Lib.hid (show 2 ≤ m ∧ m ≤ 4 from by omega)
      have em : (2 : Int) + (k4 : Int) = (m : Int) := by omega
      have eL : (w1.alloc (.cells #[.string nm, .slice none 0 0] 62)).heap.size = w1.heap.size + 1 := by simp
      rw [em, ← hm]
      rw [eL] at w4L
      clear em hm hm1 hm2 hm3 hm4 hk4 hwk hwk' hlt hi0 hi33 hi3 eL
      have w4O := Lib.hid (show Sl (fun b => b < w4.heap.size ∧ b ≠ tp ∧ b ≠ w1.heap.size) w4 1 (.slice (some ⟨w1.heap.size + 1, 0, none⟩) m 4) (txs (relNs.take m)) from take_sl w4L.out (by have := HM4.out; omega) ⟨w4L.out.lt, by have := HLT.out; have := HX1.out; omega, by omega⟩)
      have w4B := Lib.hid (show TyBox w1.heap.size w4.heap.size [.string nm] w4 [] (.slice none 0 0) from ⟨w4X.out, Own.nil _ _ _ _, by simp⟩)
      have HZ4 := Lib.hid (show w1.heap.size < w4.heap.size from w4X.out.lt)
      clear w4X w4L X13 HK1
      go_loopw [31] (fun iv wr => ∃ (j : Nat) (qr : List ((ByteArray × RT) × Value)) (rv : Value), j ≤ m ∧ iv = .int .i64 j ∧ qr.length = j ∧ TyBox w1.heap.size w4.heap.size [.string nm] wr qr rv ∧ (qr.map (·.1)).map (·.1) = (relNs.take m).take j ∧ (∀ x ∈ qr, TopR (relNs.take m) x.1.2) ∧ Tp wr tp ∧ Kept (fun b => b < w4.heap.size ∧ b ≠ tp ∧ b ≠ w1.heap.size) w4 wr) (fun iv _ => m - (intOf iv).toNat)
      case atStart => exact ⟨0, [], _, by omega, rfl, rfl, w4B.out, rfl, by simp, w4T.out, Kept.refl _ _⟩
      case round =>
        obtain ⟨j, qr, rv, hjm, rfl, hqr, htb, hqn, htop, htp, hkt⟩ := hrel
        have HJM := Lib.hid hjm
        have HQR := Lib.hid (show qr.length ≤ m from by omega)
        have HQJ := Lib.hid hqr
        have wrB := Lib.hid htb
        have HQN := Lib.hid hqn
        have HTP := Lib.hid htop
        have wrT := Lib.hid htp
        have wrK := Lib.hid hkt
        have wrZ := Lib.hid (show w4.heap.size ≤ wr.heap.size from hkt.size)
        have HPO := Lib.hid (fun g (e : rv.ownBlock = some g) => htb.row.block g e)
        have wrO := Lib.hid ((w4O.out.same fun b hb => hkt.block b hb).mono (T := fun b => b < wr.heap.size ∧ b ≠ tp) fun b hb => ⟨Nat.lt_of_lt_of_le hb.1 hkt.size, hb.2.1⟩)
        obtain ⟨aov, kv, cv, rfl, -, -, -⟩ := htb.row.sl.len
        clear w4B w4T htb hqn htop htp hkt hqr
        have hm44 := HM4.out
        by_cases hjt : j < m
        · have hjl : j < (relNs.take m).length := by rw [List.length_take]; show j < min m 4; omega
          have HLN := Lib.hid (show (relNs.take m).length = m from by rw [List.length_take]; show min m 4 = m; omega)
          obtain ⟨bo, oo, hbo, hbo2, hco⟩ := texts_at (l := relNs.take m) (by rw [HLN.out]; exact wrO.out) j hjl
          cases hbo
          rw [Nat.zero_add] at hco
          have HJN := Lib.hid (show (relNs.take m).take (j + 1) = (relNs.take m).take j ++ [(relNs.take m)[j]] from List.take_succ_eq_append_getElem hjl)
          generalize (relNs.take m)[j] = n at *
          have HRU := Lib.hid (mkRule_any (relNs.take m) (by have := HLN.out; omega) 2 0 tp _ wr wrT.out wrO.out (by decide) (.inl rfl))
          have HJT := Lib.hid hjt
          clear hjl hbo2 hjm
          go_wp2_with fail
          refine HRU.out.mono ?_
          rintro e w6 ⟨r, pv, rfl, hgr, hrk, hat, htp6, hkt6⟩
          obtain ⟨aop, cp, rfl, -, -, -⟩ := hat.rows
          have HG6 := Lib.hid hgr
          have x67 := Ext.alloc w6 (.cells #[.int .i64 r.k, .string r.a, .string r.b, .slice aop r.ps.length cp] 66)
          have HNX := Lib.hid (next_any tp 3 _ (htp6.ext x67) (by decide) (by decide))
          have w7K0 := Lib.hid (KT.trans hkt6 (KT.of x67))
          have w7R0 := Lib.hid (Blk.made w6 #[.int .i64 r.k, .string r.a, .string r.b, .slice aop r.ps.length cp] 66)
          have HAT6 := Lib.hid (hat.same fun b hb => x67.block b hb.2)
          have HZ6 := Lib.hid (show wr.heap.size ≤ w6.heap.size from hkt6.size)
          unfold rV
          clear hgr hrk hat htp6 hkt6 x67 HRU hco
          go_wp2_with fail
          refine HNX.out.mono ?_
          rintro e w7 ⟨k7, rfl, hk7, htp7, hkt7⟩
          have w7T := Lib.hid htp7
          have w7K1 := Lib.hid (KT.trans w7K0.out hkt7)
          have w710 := Lib.hid (hkt7.blk w7R0.out (by have := HLT.out; have := HX1.out; have := HZ4.out; have := wrZ.out; have := HZ6.out; omega))
          have HAT7N := Lib.hid (HAT6.out.same fun b (hb : wr.heap.size ≤ b ∧ b < w6.heap.size) => hkt7.block b ⟨by simp; omega, by have := HLT.out; have := HX1.out; have := HZ4.out; have := wrZ.out; omega⟩)
          have HAT7 := Lib.hid ((HAT6.out.same fun b (hb : wr.heap.size ≤ b ∧ b < w6.heap.size) => hkt7.block b ⟨by simp; omega, by have := HLT.out; have := HX1.out; have := HZ4.out; have := wrZ.out; omega⟩).mono (S' := fun b => wr.heap.size ≤ b ∧ b < w7.heap.size) fun b hb => ⟨hb.1, by have := hb.2; have := hkt7.size; simp at this; omega⟩)
          have HZ7 := Lib.hid (show w6.heap.size < w7.heap.size from w710.out.lt)
          have w7B := Lib.hid (wrB.out.keep (Kept.mono w7K1.out fun b (hb : b < wr.heap.size ∧ w4.heap.size ≤ b) => ⟨hb.1, by have := HLT.out; have := HX1.out; have := HZ4.out; omega⟩) (w7K1.out.block _ ⟨wrB.out.box.lt, by have := HLT.out; have := HX1.out; omega⟩))
          have w7K := Lib.hid (wrK.out.trans (w7K1.out.mono fun b (hb : b < w4.heap.size ∧ b ≠ tp ∧ b ≠ w1.heap.size) => ⟨by have := wrZ.out; have := hb.1; omega, hb.2.1⟩))
          have w7Z := Lib.hid (show w4.heap.size ≤ w7.heap.size from by have := wrZ.out; have := HZ6.out; have := HZ7.out; omega)
          have w7c := w710.out.cells
          have w7f := w710.out.free
          clear htp7 hkt7 HNX w7K0 w7R0 HAT6 wrK wrT wrO
          by_cases hk1 : k7 = 1
          · subst hk1
            by_cases hk4 : r.k = 4
            · have hq1 : (r.k == 4) = true := by rw [hk4]; rfl
              have hq2 : (r.k != 4) = false := by rw [hk4]; rfl
              have HAT := HAT7
              clear hk7 hk4 HAT7 HAT7N w7K1 wrB w7f
              have w7b := w7B.out.box.cells 1
              have w7f := w7B.out.box.free
              have w7c := w710.out.cells
              have X9 := Lib.hid (Ext.alloc w7 (.cells #[.string n, .int .i64 r.k, .string r.a, .string r.b, .slice aop r.ps.length cp] 69))
              have HTOP := Lib.hid (show TopR (relNs.take m) (r) from .inl HG6.out)
              go_wp2_with (at_builtin; go_must (refine wpList_ownw relsElT rfl (.tmp 51) (.tmp 55) rfl rfl (w7B.out.row.below X9.out) rfl (m := 1) (news := [.string n, .int .i64 r.k, .string r.a, .string r.b, .slice aop r.ps.length cp]) rfl (by intro j u hu; rw [Addr.add_lit, cell_of_row _ (w7.heap.size) (0 + j) #[.string n, .int .i64 r.k, .string r.a, .string r.b, .slice aop r.ps.length cp] 69 (0, 0) (heap_alloc_new w7 _)]; simpa using hu) (by simp [Value.oneCell']) (by have := HQR.out; have := HM4.out; rw [flat_length relC_length]; simp; omega) (by have := HQR.out; have := HM4.out; rw [flat_length relC_length]; simp; omega) (by have := w7Z.out; have := X9.out.size; omega) ?_; intro v11 w11 hown11 hb11 hgr11; have HADD := Lib.hid (w7B.out.add (n0 := wr.heap.size) (x := ((n, r), .slice aop r.ps.length cp)) (by have := HZ4.out; omega) (fun b h1 h2 => (hgr11.block b (Nat.lt_of_lt_of_le h1 X9.out.size) (fun e => h2 e.symm)).trans (X9.out.block b h1)) (Nat.le_trans X9.out.size hgr11.size) hown11 (fun g hg => (hb11 g hg).imp id (fun h => Nat.le_trans X9.out.size h)) HAT.out (by have := wrZ.out; omega) (fun g hg => (HPO.out g hg).2)); have HK11 := Lib.hid (show Kept (fun b => b < w7.heap.size ∧ Value.ownBlock (.slice aov kv cv) ≠ some b) w7 w11 from ⟨hgr11.os.trans X9.out.os, hgr11.tape.trans X9.out.tape, hgr11.output.trans X9.out.output, Nat.le_trans X9.out.size hgr11.size, fun b hb => (hgr11.block b (Nat.lt_of_lt_of_le hb.1 X9.out.size) (fun e => hb.2 e.symm)).trans (X9.out.block b hb.1)⟩); have h11 := HK11.out.blk w7B.out.box ⟨w7B.out.box.lt, fun e => by have := (HPO.out _ e).1; have := HZ4.out; omega⟩; have h11f := Blk.free h11; have h11c := Blk.cells h11 1; obtain ⟨ao11, k11, c11, rfl, -, -, -⟩ := hown11.sl.len; clear hown11 hb11 hgr11 h11 w7b w7f w7c))
              go_roundw
              case rel => exact ⟨j + 1, _, _, HJT.out, by go_num, by rw [List.length_append, HQJ.out]; rfl, HADD.out, by rw [List.map_append, List.map_append, HQN.out, HJN.out]; rfl, fun x hx => by
                rcases List.mem_append.1 hx with hx | hx
                · exact HTP.out x hx
                · rw [List.mem_singleton.1 hx]; exact HTOP.out, w7T.out.kept (K := fun b => b < w1.heap.size) ((HK11.out.mono fun b (hb : b < w1.heap.size) => ⟨by have := HZ4.out; have := w7Z.out; omega, fun e => by have := (HPO.out b e).1; have := HZ4.out; omega⟩).set (fun h => Nat.lt_irrefl _ h) _) (fun b hb => by have := HLT.out; have := HX1.out; show b < w1.heap.size; omega), w7K.out.trans ((HK11.out.mono fun b (hb : b < w4.heap.size ∧ b ≠ tp ∧ b ≠ w1.heap.size) => ⟨by have := w7Z.out; have := hb.1; omega, fun e => by have := (HPO.out b e).1; have := hb.1; omega⟩).set (fun h => h.2.2 rfl) _)⟩
              case measure => have := HJT.out; simp [intOf]; omega
            · have hq1 : (r.k == 4) = false := by rw [beq_eq_false_iff_ne]; exact hk4
              have hq2 : (r.k != 4) = true := by rw [bne_iff_ne]; exact hk4
              have HK4 := Lib.hid hk4
              obtain ⟨w8, hw8⟩ : ∃ x, x = w7.alloc (.cells #[.int .i64 1, .string ⟨#[]⟩, .string ⟨#[]⟩, .slice none 0 0, .int .i64 r.k, .string r.a, .string r.b, .slice aop r.ps.length cp] 66) := ⟨_, rfl⟩
              have x78 : Ext w7 w8 := by rw [hw8]; exact Ext.alloc _ _
              have h810 := w710.out.below x78
              obtain ⟨w9, hw9⟩ : ∃ x, x = (((w8.setCell ⟨w6.heap.size, 0, none⟩ (.int .i64 4)).setCell ⟨w6.heap.size, 1, none⟩ (.string ⟨#[]⟩)).setCell ⟨w6.heap.size, 2, none⟩ (.string ⟨#[]⟩)).setCell ⟨w6.heap.size, 3, none⟩ (.slice (some ⟨w7.heap.size, 0, none⟩) 2 2) := ⟨_, rfl⟩
              have hk89 : Kept (fun b => b ≠ w6.heap.size) w8 w9 := by rw [hw9]; exact (Kept.refl _ w8).set4 (fun h => h rfl) _ _ _ _
              have u10 := Lib.hid (show Blk w9 w6.heap.size #[.int .i64 4, .string ⟨#[]⟩, .string ⟨#[]⟩, .slice (some ⟨w7.heap.size, 0, none⟩) 2 2] 66 from by rw [hw9]; exact h810.set4 _ _ _ _)
              have hk79 : Kept (fun b => b < w7.heap.size ∧ b ≠ w6.heap.size) w7 w9 := (Below.kept x78 fun b hb => hb.1).trans (hk89.mono fun b (hb : b < w7.heap.size ∧ b ≠ w6.heap.size) => hb.2)
              have hsl := (Own.lit w7 (Nat.le_refl w7.heap.size) 66 4 2 #[.int .i64 1, .string ⟨#[]⟩, .string ⟨#[]⟩, .slice none 0 0, .int .i64 r.k, .string r.a, .string r.b, .slice aop r.ps.length cp] rfl (by decide) (by decide)).sl
              rw [← hw8] at hsl
              have HAT := Lib.hid (show RTAt (fun b => wr.heap.size ≤ b ∧ b < w9.heap.size) w9 (.mk 4 ⟨#[]⟩ ⟨#[]⟩ [.mk 1 ⟨#[]⟩ ⟨#[]⟩ [], r]) (.slice (some ⟨w7.heap.size, 0, none⟩) 2 2) from (RTAt.iff _ _).2 ⟨[(.mk 1 ⟨#[]⟩ ⟨#[]⟩ [], .slice none 0 0), (r, .slice aop r.ps.length cp)], rfl, fun x hx => by
                simp only [List.mem_cons, List.not_mem_nil, or_false] at hx
                rcases hx with rfl | rfl
                · exact RTAt.leaf' _ _ rfl
                · exact (HAT7N.out.same fun b (hb : wr.heap.size ≤ b ∧ b < w6.heap.size) => hk79.block b ⟨by have := HZ7.out; omega, by omega⟩).mono fun b hb => ⟨hb.1, by have := hb.2; have := HZ7.out; have := hk79.size; omega⟩, (hsl.same fun b hb => hk89.block b (by have := hb.1; have := HZ7.out; show b ≠ w6.heap.size; omega)).mono fun b hb => ⟨by have := hb.1; have := HZ7.out; have := HZ6.out; omega, Nat.lt_of_lt_of_le hb.2 hk89.size⟩⟩)
              have uB := Lib.hid (wrB.out.keep ((Kept.mono w7K1.out fun b (hb : b < wr.heap.size ∧ w4.heap.size ≤ b) => ⟨hb.1, by have := HLT.out; have := HX1.out; have := HZ4.out; omega⟩).trans (hk79.mono fun b (hb : b < wr.heap.size ∧ w4.heap.size ≤ b) => ⟨by have := HZ6.out; have := HZ7.out; omega, by have := HZ6.out; omega⟩)) ((hk79.block _ ⟨by have := HZ4.out; have := w7Z.out; omega, by have := HZ4.out; have := wrZ.out; have := HZ6.out; omega⟩).trans (w7K1.out.block _ ⟨wrB.out.box.lt, by have := HLT.out; have := HX1.out; omega⟩)))
              have uT := Lib.hid (w7T.out.kept hk79 fun b hb => ⟨by have := w7T.out.lt; omega, by have := HLT.out; have := HX1.out; have := HZ4.out; have := wrZ.out; have := HZ6.out; omega⟩)
              have uK := Lib.hid (w7K.out.trans (hk79.mono fun b (hb : b < w4.heap.size ∧ b ≠ tp ∧ b ≠ w1.heap.size) => ⟨by have := w7Z.out; have := hb.1; omega, by have := wrZ.out; have := HZ6.out; have := hb.1; omega⟩))
              have uZ := Lib.hid (show w4.heap.size ≤ w9.heap.size from Nat.le_trans w7Z.out hk79.size)
              have w8c := h810.cells
              have w8f := h810.free
              clear hk7 hk4 hk79 hsl hk89 h810 x78 HAT7 HAT7N w7K1 wrB w7B w7T w7K w7Z w710
              subst hw9 hw8
              have ub := uB.out.box.cells 1
              have uf := uB.out.box.free
              have uc := u10.out.cells
              have X9 := Lib.hid (Ext.alloc (((((w7.alloc (.cells #[.int .i64 1, .string ⟨#[]⟩, .string ⟨#[]⟩, .slice none 0 0, .int .i64 r.k, .string r.a, .string r.b, .slice aop r.ps.length cp] 66)).setCell ⟨w6.heap.size, 0, none⟩ (.int .i64 4)).setCell ⟨w6.heap.size, 1, none⟩ (.string ⟨#[]⟩)).setCell ⟨w6.heap.size, 2, none⟩ (.string ⟨#[]⟩)).setCell ⟨w6.heap.size, 3, none⟩ (.slice (some ⟨w7.heap.size, 0, none⟩) 2 2)) (.cells #[.string n, .int .i64 4, .string ⟨#[]⟩, .string ⟨#[]⟩, .slice (some ⟨w7.heap.size, 0, none⟩) 2 2] 69))
              have HTOP := Lib.hid (show TopR (relNs.take m) (.mk 4 ⟨#[]⟩ ⟨#[]⟩ [.mk 1 ⟨#[]⟩ ⟨#[]⟩ [], r]) from .inr ⟨r, HG6.out, HK4.out, rfl⟩)
              go_wp2_with (at_builtin; go_must (refine wpList_ownw relsElT rfl (.tmp 51) (.tmp 55) rfl rfl (uB.out.row.below X9.out) rfl (m := 1) (news := [.string n, .int .i64 4, .string ⟨#[]⟩, .string ⟨#[]⟩, .slice (some ⟨w7.heap.size, 0, none⟩) 2 2]) rfl (by intro j u hu; rw [Addr.add_lit, cell_of_row _ (w7.heap.size + 1) (0 + j) #[.string n, .int .i64 4, .string ⟨#[]⟩, .string ⟨#[]⟩, .slice (some ⟨w7.heap.size, 0, none⟩) 2 2] 69 (0, 0) (by have h0 := heap_alloc_new (((((w7.alloc (.cells #[.int .i64 1, .string ⟨#[]⟩, .string ⟨#[]⟩, .slice none 0 0, .int .i64 r.k, .string r.a, .string r.b, .slice aop r.ps.length cp] 66)).setCell ⟨w6.heap.size, 0, none⟩ (.int .i64 4)).setCell ⟨w6.heap.size, 1, none⟩ (.string ⟨#[]⟩)).setCell ⟨w6.heap.size, 2, none⟩ (.string ⟨#[]⟩)).setCell ⟨w6.heap.size, 3, none⟩ (.slice (some ⟨w7.heap.size, 0, none⟩) 2 2)) (.cells #[.string n, .int .i64 4, .string ⟨#[]⟩, .string ⟨#[]⟩, .slice (some ⟨w7.heap.size, 0, none⟩) 2 2] 69); simpa using h0)]; simpa using hu) (by simp [Value.oneCell']) (by have := HQR.out; have := HM4.out; rw [flat_length relC_length]; simp; omega) (by have := HQR.out; have := HM4.out; rw [flat_length relC_length]; simp; omega) (by have := uZ.out; have := X9.out.size; omega) ?_; intro v11 w11 hown11 hb11 hgr11; have HADD := Lib.hid (uB.out.add (n0 := wr.heap.size) (x := ((n, .mk 4 ⟨#[]⟩ ⟨#[]⟩ [.mk 1 ⟨#[]⟩ ⟨#[]⟩ [], r]), .slice (some ⟨w7.heap.size, 0, none⟩) 2 2)) (by have := HZ4.out; omega) (fun b h1 h2 => (hgr11.block b (Nat.lt_of_lt_of_le h1 X9.out.size) (fun e => h2 e.symm)).trans (X9.out.block b h1)) (Nat.le_trans X9.out.size hgr11.size) hown11 (fun g hg => (hb11 g hg).imp id (fun h => Nat.le_trans X9.out.size h)) HAT.out (by have := wrZ.out; omega) (fun g hg => (HPO.out g hg).2)); have HK11 := Lib.hid (show Kept (fun b => b < (((((w7.alloc (.cells #[.int .i64 1, .string ⟨#[]⟩, .string ⟨#[]⟩, .slice none 0 0, .int .i64 r.k, .string r.a, .string r.b, .slice aop r.ps.length cp] 66)).setCell ⟨w6.heap.size, 0, none⟩ (.int .i64 4)).setCell ⟨w6.heap.size, 1, none⟩ (.string ⟨#[]⟩)).setCell ⟨w6.heap.size, 2, none⟩ (.string ⟨#[]⟩)).setCell ⟨w6.heap.size, 3, none⟩ (.slice (some ⟨w7.heap.size, 0, none⟩) 2 2)).heap.size ∧ Value.ownBlock (.slice aov kv cv) ≠ some b) (((((w7.alloc (.cells #[.int .i64 1, .string ⟨#[]⟩, .string ⟨#[]⟩, .slice none 0 0, .int .i64 r.k, .string r.a, .string r.b, .slice aop r.ps.length cp] 66)).setCell ⟨w6.heap.size, 0, none⟩ (.int .i64 4)).setCell ⟨w6.heap.size, 1, none⟩ (.string ⟨#[]⟩)).setCell ⟨w6.heap.size, 2, none⟩ (.string ⟨#[]⟩)).setCell ⟨w6.heap.size, 3, none⟩ (.slice (some ⟨w7.heap.size, 0, none⟩) 2 2)) w11 from ⟨hgr11.os.trans X9.out.os, hgr11.tape.trans X9.out.tape, hgr11.output.trans X9.out.output, Nat.le_trans X9.out.size hgr11.size, fun b hb => (hgr11.block b (Nat.lt_of_lt_of_le hb.1 X9.out.size) (fun e => hb.2 e.symm)).trans (X9.out.block b hb.1)⟩); have h11 := HK11.out.blk uB.out.box ⟨uB.out.box.lt, fun e => by have := (HPO.out _ e).1; have := HZ4.out; omega⟩; have h11f := Blk.free h11; have h11c := Blk.cells h11 1; obtain ⟨ao11, k11, c11, rfl, -, -, -⟩ := hown11.sl.len; clear hown11 hb11 hgr11 h11 ub uf uc))
              go_roundw
              case rel => exact ⟨j + 1, _, _, HJT.out, by go_num, by rw [List.length_append, HQJ.out]; rfl, HADD.out, by rw [List.map_append, List.map_append, HQN.out, HJN.out]; rfl, fun x hx => by
                rcases List.mem_append.1 hx with hx | hx
                · exact HTP.out x hx
                · rw [List.mem_singleton.1 hx]; exact HTOP.out, uT.out.kept (K := fun b => b < w1.heap.size) ((HK11.out.mono fun b (hb : b < w1.heap.size) => ⟨by have := HZ4.out; have := uZ.out; omega, fun e => by have := (HPO.out b e).1; have := HZ4.out; omega⟩).set (fun h => Nat.lt_irrefl _ h) _) (fun b hb => by have := HLT.out; have := HX1.out; show b < w1.heap.size; omega), uK.out.trans ((HK11.out.mono fun b (hb : b < w4.heap.size ∧ b ≠ tp ∧ b ≠ w1.heap.size) => ⟨by have := uZ.out; have := hb.1; omega, fun e => by have := (HPO.out b e).1; have := hb.1; omega⟩).set (fun h => h.2.2 rfl) _)⟩
              case measure => have := HJT.out; simp [intOf]; omega
          · have hk1' : ((k7 : Int) == 1) = false := by rw [beq_eq_false_iff_ne]; omega
            have HAT := HAT7
            clear hk7 hk1 HAT7 HAT7N w7K1 wrB w7f
            have w7b := w7B.out.box.cells 1
            have w7f := w7B.out.box.free
            have w7c := w710.out.cells
            have X9 := Lib.hid (Ext.alloc w7 (.cells #[.string n, .int .i64 r.k, .string r.a, .string r.b, .slice aop r.ps.length cp] 69))
            have HTOP := Lib.hid (show TopR (relNs.take m) (r) from .inl HG6.out)
            go_wp2_with (at_builtin; go_must (refine wpList_ownw relsElT rfl (.tmp 51) (.tmp 55) rfl rfl (w7B.out.row.below X9.out) rfl (m := 1) (news := [.string n, .int .i64 r.k, .string r.a, .string r.b, .slice aop r.ps.length cp]) rfl (by intro j u hu; rw [Addr.add_lit, cell_of_row _ (w7.heap.size) (0 + j) #[.string n, .int .i64 r.k, .string r.a, .string r.b, .slice aop r.ps.length cp] 69 (0, 0) (heap_alloc_new w7 _)]; simpa using hu) (by simp [Value.oneCell']) (by have := HQR.out; have := HM4.out; rw [flat_length relC_length]; simp; omega) (by have := HQR.out; have := HM4.out; rw [flat_length relC_length]; simp; omega) (by have := w7Z.out; have := X9.out.size; omega) ?_; intro v11 w11 hown11 hb11 hgr11; have HADD := Lib.hid (w7B.out.add (n0 := wr.heap.size) (x := ((n, r), .slice aop r.ps.length cp)) (by have := HZ4.out; omega) (fun b h1 h2 => (hgr11.block b (Nat.lt_of_lt_of_le h1 X9.out.size) (fun e => h2 e.symm)).trans (X9.out.block b h1)) (Nat.le_trans X9.out.size hgr11.size) hown11 (fun g hg => (hb11 g hg).imp id (fun h => Nat.le_trans X9.out.size h)) HAT.out (by have := wrZ.out; omega) (fun g hg => (HPO.out g hg).2)); have HK11 := Lib.hid (show Kept (fun b => b < w7.heap.size ∧ Value.ownBlock (.slice aov kv cv) ≠ some b) w7 w11 from ⟨hgr11.os.trans X9.out.os, hgr11.tape.trans X9.out.tape, hgr11.output.trans X9.out.output, Nat.le_trans X9.out.size hgr11.size, fun b hb => (hgr11.block b (Nat.lt_of_lt_of_le hb.1 X9.out.size) (fun e => hb.2 e.symm)).trans (X9.out.block b hb.1)⟩); have h11 := HK11.out.blk w7B.out.box ⟨w7B.out.box.lt, fun e => by have := (HPO.out _ e).1; have := HZ4.out; omega⟩; have h11f := Blk.free h11; have h11c := Blk.cells h11 1; obtain ⟨ao11, k11, c11, rfl, -, -, -⟩ := hown11.sl.len; clear hown11 hb11 hgr11 h11 w7b w7f w7c))
            go_roundw
            case rel => exact ⟨j + 1, _, _, HJT.out, by go_num, by rw [List.length_append, HQJ.out]; rfl, HADD.out, by rw [List.map_append, List.map_append, HQN.out, HJN.out]; rfl, fun x hx => by
              rcases List.mem_append.1 hx with hx | hx
              · exact HTP.out x hx
              · rw [List.mem_singleton.1 hx]; exact HTOP.out, w7T.out.kept (K := fun b => b < w1.heap.size) ((HK11.out.mono fun b (hb : b < w1.heap.size) => ⟨by have := HZ4.out; have := w7Z.out; omega, fun e => by have := (HPO.out b e).1; have := HZ4.out; omega⟩).set (fun h => Nat.lt_irrefl _ h) _) (fun b hb => by have := HLT.out; have := HX1.out; show b < w1.heap.size; omega), w7K.out.trans ((HK11.out.mono fun b (hb : b < w4.heap.size ∧ b ≠ tp ∧ b ≠ w1.heap.size) => ⟨by have := w7Z.out; have := hb.1; omega, fun e => by have := (HPO.out b e).1; have := hb.1; omega⟩).set (fun h => h.2.2 rfl) _)⟩
            case measure => have := HJT.out; simp [intOf]; omega
        · obtain rfl : j = m := by omega
          have h1r : Kept (fun b => b < w1.heap.size ∧ b ≠ tp) w1 wr := Kept.trans w4K'.out (wrK.out.mono fun b (hb : b < w1.heap.size ∧ b ≠ tp) => ⟨by have := HZ4.out; have := hb.1; omega, hb.2, by have := hb.1; omega⟩)
          have wrS := Lib.hid (w1B.out.keep (h1r.mono fun b (hb : b < w1.heap.size ∧ w.heap.size + 3 ≤ b) => ⟨hb.1, by have := HLT.out; omega⟩) (h1r.block _ ⟨w1B.out.box.lt, by have := HLT.out; omega⟩))
          have wrN := Lib.hid (h1r.blk w1N.out ⟨w1N.out.lt, by have := HLT.out; omega⟩)
          have wrR := Lib.hid (h1r.blk w1R.out ⟨w1R.out.lt, by have := HLT.out; omega⟩)
          have wrKT := Lib.hid (Kept.trans w1K.out (h1r.mono fun b (hb : b < w.heap.size ∧ b ≠ tp) => ⟨by have := HX1.out; have := hb.1; omega, hb.2⟩))
          have HGT2 := Lib.hid (show GoodT (⟨nm, qr.map (·.1)⟩ : TyS) from ⟨j, HM4.out.1, HM4.out.2, by have := HQN.out; rw [List.take_take, Nat.min_self] at this; exact this, fun r hr => by
            obtain ⟨x, hx, rfl⟩ := List.mem_map.1 hr
            exact HTP.out x hx⟩)
          have HEL := Lib.hid (show ElT (fun b => w4.heap.size ≤ b ∧ b < wr.heap.size) wr ((⟨nm, qr.map (·.1)⟩ : TyS), .slice aov kv cv) from ⟨qr, rfl, fun x hx => (wrB.out.parts x hx).mono fun b hb => hb.1, wrB.out.row.sl⟩)
          have HPT := Lib.hid (fun g (e : tv.ownBlock = some g) => w1B.out.row.block g e)
          obtain ⟨aot, kt, ct, rfl, -, -, -⟩ := w1B.out.row.sl.len
          have wrc := wrB.out.box.cells
          have wrs := wrS.out.box.cells 0
          have wrf := wrS.out.box.free
          have X9 := Lib.hid (Ext.alloc wr (.cells #[.string nm, .slice aov kv cv] 62))
          clear h1r w1B w1N w1R w1K w4K' wrB hjt hjm wrO w4O
          go_wp2_with (at_builtin; go_must (refine wpList_ownw tysT rfl (.tmp 60) (.tmp 62) rfl rfl (wrS.out.row.below X9.out) rfl (m := 1) (news := [.string nm, .slice aov kv cv]) rfl (by intro j u hu; rw [Addr.add_lit, cell_of_row _ wr.heap.size (0 + j) #[.string nm, .slice aov kv cv] 62 (0, 0) (heap_alloc_new wr _)]; simpa using hu) (by simp [Value.oneCell']) (by have := HQL.out; have := HQ3.out; rw [flat_length tyC_length]; simp; omega) (by have := HQL.out; have := HQ3.out; rw [flat_length tyC_length]; simp; omega) (by have := HX1.out; have := HZ4.out; have := wrZ.out; have := X9.out.size; omega) ?_; intro v11 w11 hown11 hb11 hgr11; have HADD := Lib.hid (wrS.out.add (n0 := w4.heap.size) (x := ((⟨nm, qr.map (·.1)⟩ : TyS), .slice aov kv cv)) (Nat.lt_succ_of_lt (Nat.lt_succ_self _)) (fun b h1 h2 => (hgr11.block b (Nat.lt_of_lt_of_le h1 X9.out.size) (fun e => h2 e.symm)).trans (X9.out.block b h1)) (Nat.le_trans X9.out.size hgr11.size) hown11 (fun g hg => (hb11 g hg).imp id (fun h => Nat.le_trans X9.out.size h)) HEL.out (by have := HX1.out; have := HZ4.out; omega) (fun g hg => by have := (HPT.out g hg).2; have := HZ4.out; omega)); have HK11 := Lib.hid (show Kept (fun b => b < wr.heap.size ∧ Value.ownBlock (.slice aot kt ct) ≠ some b) wr w11 from ⟨hgr11.os.trans X9.out.os, hgr11.tape.trans X9.out.tape, hgr11.output.trans X9.out.output, Nat.le_trans X9.out.size hgr11.size, fun b hb => (hgr11.block b (Nat.lt_of_lt_of_le hb.1 X9.out.size) (fun e => hb.2 e.symm)).trans (X9.out.block b hb.1)⟩); have h11 := HK11.out.blk wrS.out.box ⟨wrS.out.box.lt, fun e => by have := (HPT.out _ e).1; omega⟩; have h11f := Blk.free h11; have h11c := Blk.cells h11 0; obtain ⟨ao11, k11, c11, rfl, -, -, -⟩ := hown11.sl.len; clear hown11 hb11 hgr11 h11 wrc wrs wrf))
          have HL11 := Lib.hid (show Kept (fun b => b < w.heap.size + 3 ∧ b ≠ w.heap.size + 1) wr (w11.setCell ⟨w.heap.size + 1, 0, none⟩ (.slice ao11 k11 c11)) from (HK11.out.mono fun b (hb : b < w.heap.size + 3 ∧ b ≠ w.heap.size + 1) => ⟨by have := HX1.out; have := HZ4.out; have := wrZ.out; have := hb.1; omega, fun e => by have := (HPT.out b e).1; have := hb.1; omega⟩).set (fun h => h.2 rfl) _)
          go_roundw
          case rel => exact ⟨q ++ [((⟨nm, qr.map (·.1)⟩ : TyS), .slice aov kv cv)], _, by rw [List.length_append, HQL.out]; go_num, by rw [List.length_append, HQL.out]; exact HI3.out, HADD.out, by
            rw [List.map_append, List.map_append, HNM.out, List.length_append, HQL.out]
            show _ = tyNs.take (i + 1)
            rw [List.take_add_one, HNI.out]
            rfl, fun x hx => by
            rcases List.mem_append.1 hx with hx | hx
            · exact HGT.out x hx
            · rw [List.mem_singleton.1 hx]; exact HGT2.out, HL11.out.blk wrR.out ⟨by omega, by omega⟩, HL11.out.blk wrN.out ⟨by omega, by omega⟩, wrT.out.kept HL11.out (fun b hb => ⟨by have := HLT.out; omega, by have := HLT.out; omega⟩), Kept.trans wrKT.out (HL11.out.mono fun b (hb : b < w.heap.size ∧ b ≠ tp) => ⟨by have := hb.1; omega, by have := hb.1; omega⟩)⟩
          case measure => have := HI3.out; simp [intOf]; omega
    · have HI2 := Lib.hid (show i = 2 ∨ i = 3 from by have := HQ3.out; omega)
      obtain ⟨aot, kt, ct, rfl, -, -, -⟩ := w1B.out.row.sl.len
      have c1 := w1B.out.box.cells 0
      have r1 := w1R.out.cells 0
      have f1 := w1R.out.free
      go_wp2_with fail
      clear c1 r1 f1
      have hks : Kept (fun b => b ≠ w.heap.size) w1 (w1.setCell ⟨w.heap.size, 0, none⟩ (.slice aot kt ct)) := (Kept.refl _ w1).set (fun h => h rfl) _
      refine bodyPost_ret (results_cell_row rfl _ _ w.heap.size 29 #[.slice aot kt ct] (0, 0) _ rfl (w1R.out.set_to 0 _ rfl) Try.underlying29 rfl (by kernel_rfl)) rfl ?_
      refine ⟨q.map (·.1), .slice aot kt ct, rfl, ⟨by have := HI2.out; rw [List.length_map, HQL.out]; exact this, by rw [HNM.out, List.length_map, HQL.out], fun t ht => ?_⟩, ⟨q, rfl, fun x hx => ?_, ?_⟩, w1T.out.kept hks (fun b hb => by have := HLT.out; show b ≠ w.heap.size; omega), w1K.out.set (fun h => Nat.lt_irrefl _ h.1) _⟩
      · obtain ⟨x, hx, rfl⟩ := List.mem_map.1 ht
        exact HGT.out x hx
      · exact ((w1B.out.parts x hx).same fun b hb => hks.block b (by have := hb.1.1; show b ≠ w.heap.size; omega)).mono fun b hb => ⟨by have := hb.1.1; omega, Nat.lt_of_lt_of_le hb.1.2 hks.size⟩
      · exact (w1B.out.row.sl.same fun b hb => hks.block b (by have := hb.1; show b ≠ w.heap.size; omega)).mono fun b hb => ⟨by have := hb.1; omega, Nat.lt_of_lt_of_le hb.2 hks.size⟩
end Go.Proofs.Ytjdigpfipmckhaa
